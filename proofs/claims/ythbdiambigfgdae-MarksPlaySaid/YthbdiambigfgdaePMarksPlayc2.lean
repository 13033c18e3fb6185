/- PRINTED by this session's mk.py (the kit's print, with some contracts by hand): the functions that the law MarksPlay reaches, as Lean functions, and that the machine's calls answer so. -/
import Derived.Test.YthbdiambigfgdaeSq
import Derived.Test.YthbdiambigfgdaePMarksPlayx0
import Derived.Test.YthbdiambigfgdaePMarksPlayx1
import Derived.Test.YthbdiambigfgdaePMarksPlayx2
import Derived.Test.YthbdiambigfgdaePMarksPlayx3
import Derived.Test.YthbdiambigfgdaePMarksPlayx4
import Derived.Test.YthbdiambigfgdaePMarksPlayc
namespace Go.Proofs.Ythbdiambigfgdae.PMarksPlay
open Go.Proofs.Ythbdiambigfgdae.Sq Go.Proofs.Ythbdiambigfgdae Go.Proofs.Ythbdiambigfgdae.PMarksRead Go.Proofs.Ythbdiambigfgdae.Hand Go.RowKit Go.Proofs.YthbdiambigfgdaeW.PrintWords Go.Proofs.YthbdiambigfgdaeW.PrintLast Go.Proofs.YthbdiambigfgdaeW.PrintMore
attribute [local go_sem] max2_int min2_int max_two min_two max_three min_three max_four min_four   -- for this text's walks alone
set_option linter.unusedVariables false
set_option linter.unusedSimpArgs false

attribute [local go_sem high] eqA30 eqA42
set_option maxHeartbeats 80000000 in
set_option maxRecDepth 100000 in
theorem lawP.sw2 {u0 u1 u2 u9 u10 u11 u12 u13 u14 u15 u16 u17 u18 u19 u20 u21 u22 u23 u24 u25 u26 u27 u28 u29 u30 u31 u32 u33 u34 u35 u36 u37 u38 u39 u40 u41 u42 u43 u44 u45 u46 u47 u48 u49 u50 u51 u52 u53 u54 u55 u56 u57 u58 u59 u60 u61 u63 u64 u65 u66 u67 u68 u69 u70 u71 u72 u73 u74 u75 u76 u77 u78 u79 u80 u81 u82 u83 u84 u85 u86 u87 u88 u89 u90 u91 u92 u93 u94 u95 u96 u97 u98 u99 u100 u101 u102 u103 u104 u105 u106 u107 u108 u109 u110 u111 u112 u113 u114 u115 u116 u117 u118 u119 u120 u121 u122 u123 u124 u125 u126 u127 u128 u129 u130 u131 u132 u133 u134 u135 u136 u137 u138 u139 u140 u141 u142 u143 u144 u145 u146 u147 u148 u149 u150 u151 u152 u153 u154 u155 u156 u157 u158 u159 u160 u161 u162 u163 u164 u165 u166 u167 u168 u169 u170 u171 u172 u173 u174 u175 u176 u177 u178 u179 u180 u181 u182 u183 u184 u185 u186 u187 u188 u189 u190 u191 u192 u193 u194 u195 u196 u197 u198 u199 u200 u201 u202 u203 u204 u205 u206 u207 u208 u209 u210 u211 u212 u213 u214 u215 u216 u217 u218 u219 u220 u221 u222 u223 u224 u225 u226 u227 u228 u229 u230 u231 u232 u233 u234 u235 u236 u237 u238 u239 u240 u241 u242 u243 u244 u245 u246 u247 u248 u249 u250 u251 u252 u253 u254 u255 u256 u257 u258 u259 u260 u261 u262 u263 u264 u265 u266 u267 u268 u269 u270 u271 u272 u273 u274 u275 u276 u277 u278 u279 u280 u281 u282 u283 u284 u285 u286 u287 u288 u289 u290 u291 u292 u293 u294 u295 u296 u297 u298 u299 u300 u301 u302 u303 u304 u305 u306 u307 u308 u309 u310 u311 u312 u313 u314 u315 u316 u317 u318 u319 u320 u321 u322 u323 u324 u325 u326 u327 u328 u329 u330 u331 u332 u333 u334 u335 u336 u337 u338 u339 u340 u341 u342 u343 u344 u345 u346 u347 u348 u349 u350 u351 u352 u353 u354 u355 u356 u357 u358 u359 u360 u361 u362 u363 u364 u365 u366 u367 u368 u369 u370 : Value} 
    {r : Bool} {w : World} {l0 : List (S35)} {g102 gb105 : Nat} {x4_1 : List (S42)} {x5_1 x6_1 t107 : Int} {x103000_1 : (List S94 × Int)} {k1 : Nat} {A104_8 : Option Addr} {c104_8 : Nat} {Ao21 : Option Addr} {co21 : Nat} {w18 : World} {J K' : Act → World → Prop} {Q' : Exit → Act → World → Prop}
    (HO_4 : Aside0 (Kd.R k42 42 w18 w.heap.size (fun _ => True) (.slice Ao21 x4_1.length co21) x4_1)) (HI102 : Aside0 (IsS90 w w18 g102 x103000_1)) (HB : Aside0 (Below w.heap.size w w18)) (BK105 : Aside0 (w18.heap[gb105]? = some (.cells #[.int .i64 ((rd_T35 l0 x6_1).f0), .int .i64 ((rd_T35 l0 x6_1).f1), .int .i64 ((rd_T35 l0 x6_1).f2.f0.f0), .int .i64 ((rd_T35 l0 x6_1).f2.f0.f1), .bool ((rd_T35 l0 x6_1).f2.f1), .bool ((rd_T35 l0 x6_1).f2.f2), .int .i64 ((rd_T35 l0 x6_1).f3.f0), .int .i64 ((rd_T35 l0 x6_1).f3.f1), (.slice A104_8 ((rd_T35 l0 x6_1).f3.f2).length c104_8)] 35 (0, 0)))) (GE105 : Aside0 (w.heap.size ≤ gb105)) (NB102_105 : Aside0 (g102 ≠ gb105)) (NB105_102 : Aside0 (gb105 ≠ g102)) (HR104_8 : Aside0 ((Kd.int .i32).C w A104_8 ((rd_T35 l0 x6_1).f3.f2).length ((rd_T35 l0 x6_1).f3.f2))) (HC104_8 : Aside0 (((rd_T35 l0 x6_1).f3.f2).length ≤ c104_8)) {k : Nat} (HK1 : Aside0 (k1 + 1 ≤ k))
    (c22 : ¬ ((rd_T35 l0 x6_1).f0) = 0) (c64 : ¬ ((rd_T35 l0 x6_1).f0) = 1) (c90 : ((rd_T35 l0 x6_1).f0) = 2)
    (H : ((marks_Marks_Edit.f k1 x103000_1 ((rd_T35 l0 x6_1).f3.f0) ((rd_T35 l0 x6_1).f3.f1) ((rd_T35 l0 x6_1).f3.f2)).bind fun bt150 => ((stylusref04_Fair.f ((rd_T35 l0 x6_1).f3.f0) ((rd_T35 l0 x6_1).f3.f1) ((rd_T35 l0 x6_1).f3.f2)).bind fun t152 => (lawP.l1 k1 l0 x4_1 x5_1 x6_1 bt150.1 t152 ([] : List (S42)) 0 bt150.2 ((rd_T35 l0 x6_1).f0) ((rd_T35 l0 x6_1).f1) ((rd_T35 l0 x6_1).f2.f0.f0) ((rd_T35 l0 x6_1).f2.f0.f1) ((rd_T35 l0 x6_1).f2.f1) ((rd_T35 l0 x6_1).f2.f2) ((rd_T35 l0 x6_1).f3.f0) ((rd_T35 l0 x6_1).f3.f1) ((rd_T35 l0 x6_1).f3.f2)))) = some r)
    (hJ : ∀ a' w', swR l0 g102 gb105 r w x6_1 t107 k1 A104_8 c104_8 u0 u1 u26 u27 u28 u29 u30 u31 u32 u33 u34 u35 u36 u37 u38 u39 u40 u370 a' w' → J a' w') (hK : ∀ a' w', Met J a' w' → K' a' w') (hQp : ∀ N v c a w', Q' (.panic c) (Act.put a N v) w' → Q' (.panic c) a w') :
    Code.wp Try.prog (.block 2 swBody) (Exit.then K' Q') ⟨#[u0, u1, u2, .pointer (some ⟨g102, 0, none⟩), .slice Ao21 x4_1.length co21, .int .i64 x5_1, .int .i64 x6_1, .pointer (some ⟨gb105, 0, none⟩), .int .i64 t107, u9, u10, u11, u12, u13, u14, u15, u16, u17, u18, u19, u20, u21, u22, u23, u24, u25, u26, u27, u28, u29, u30, u31, u32, u33, u34, u35, u36, u37, u38, u39, u40, u41, u42, u43, u44, u45, u46, u47, u48, u49, u50, u51, u52, u53, u54, u55, u56, u57, u58, u59, u60, u61, .int .i64 ((rd_T35 l0 x6_1).f0), u63, u64, u65, u66, u67, u68, u69, u70, u71, u72, u73, u74, u75, u76, u77, u78, u79, u80, u81, u82, u83, u84, u85, u86, u87, u88, u89, u90, u91, u92, u93, u94, u95, u96, u97, u98, u99, u100, u101, u102, u103, u104, u105, u106, u107, u108, u109, u110, u111, u112, u113, u114, u115, u116, u117, u118, u119, u120, u121, u122, u123, u124, u125, u126, u127, u128, u129, u130, u131, u132, u133, u134, u135, u136, u137, u138, u139, u140, u141, u142, u143, u144, u145, u146, u147, u148, u149, u150, u151, u152, u153, u154, u155, u156, u157, u158, u159, u160, u161, u162, u163, u164, u165, u166, u167, u168, u169, u170, u171, u172, u173, u174, u175, u176, u177, u178, u179, u180, u181, u182, u183, u184, u185, u186, u187, u188, u189, u190, u191, u192, u193, u194, u195, u196, u197, u198, u199, u200, u201, u202, u203, u204, u205, u206, u207, u208, u209, u210, u211, u212, u213, u214, u215, u216, u217, u218, u219, u220, u221, u222, u223, u224, u225, u226, u227, u228, u229, u230, u231, u232, u233, u234, u235, u236, u237, u238, u239, u240, u241, u242, u243, u244, u245, u246, u247, u248, u249, u250, u251, u252, u253, u254, u255, u256, u257, u258, u259, u260, u261, u262, u263, u264, u265, u266, u267, u268, u269, u270, u271, u272, u273, u274, u275, u276, u277, u278, u279, u280, u281, u282, u283, u284, u285, u286, u287, u288, u289, u290, u291, u292, u293, u294, u295, u296, u297, u298, u299, u300, u301, u302, u303, u304, u305, u306, u307, u308, u309, u310, u311, u312, u313, u314, u315, u316, u317, u318, u319, u320, u321, u322, u323, u324, u325, u326, u327, u328, u329, u330, u331, u332, u333, u334, u335, u336, u337, u338, u339, u340, u341, u342, u343, u344, u345, u346, u347, u348, u349, u350, u351, u352, u353, u354, u355, u356, u357, u358, u359, u360, u361, u362, u363, u364, u365, u366, u367, u368, u369, u370], []⟩ w18 := by
  let bp_ := bodyPost Try.prog Try.f3
  unfold swR at hJ
  dsimp only at hJ ⊢
  unfold swBody
  conv => { arg 2; arg 2; whnf }
  have hu35 := Try.underlying35
  have hu30 := Try.underlying30
  have hu33 := Try.underlying33
  have hu42 := Try.underlying42
  have hu28 := Try.underlying28
  have hnb0 := NB105_102.out
  have hnc0 := NB102_105.out
  have hcz0_0 : w18.cell? ⟨gb105, 0, none⟩ = some (.int .i64 ((rd_T35 l0 x6_1).f0)) := (blk_cell BK105.out 0).trans rfl
  have hcz0_1 : w18.cell? ⟨gb105, 1, none⟩ = some (.int .i64 ((rd_T35 l0 x6_1).f1)) := (blk_cell BK105.out 1).trans rfl
  have hcz0_2 : w18.cell? ⟨gb105, 2, none⟩ = some (.int .i64 ((rd_T35 l0 x6_1).f2.f0.f0)) := (blk_cell BK105.out 2).trans rfl
  have hcz0_3 : w18.cell? ⟨gb105, 3, none⟩ = some (.int .i64 ((rd_T35 l0 x6_1).f2.f0.f1)) := (blk_cell BK105.out 3).trans rfl
  have hcz0_4 : w18.cell? ⟨gb105, 4, none⟩ = some (.bool ((rd_T35 l0 x6_1).f2.f1)) := (blk_cell BK105.out 4).trans rfl
  have hcz0_5 : w18.cell? ⟨gb105, 5, none⟩ = some (.bool ((rd_T35 l0 x6_1).f2.f2)) := (blk_cell BK105.out 5).trans rfl
  have hcz0_6 : w18.cell? ⟨gb105, 6, none⟩ = some (.int .i64 ((rd_T35 l0 x6_1).f3.f0)) := (blk_cell BK105.out 6).trans rfl
  have hcz0_7 : w18.cell? ⟨gb105, 7, none⟩ = some (.int .i64 ((rd_T35 l0 x6_1).f3.f1)) := (blk_cell BK105.out 7).trans rfl
  have hcz0_8 : w18.cell? ⟨gb105, 8, none⟩ = some (.slice A104_8 ((rd_T35 l0 x6_1).f3.f2).length c104_8) := (blk_cell BK105.out 8).trans rfl
  have hfz0_0 := blk_frozen BK105.out 0
  have hfz0_1 := blk_frozen BK105.out 1
  have hfz0_2 := blk_frozen BK105.out 2
  have hfz0_3 := blk_frozen BK105.out 3
  have hfz0_4 := blk_frozen BK105.out 4
  have hfz0_5 := blk_frozen BK105.out 5
  have hfz0_6 := blk_frozen BK105.out 6
  have hfz0_7 := blk_frozen BK105.out 7
  have hfz0_8 := blk_frozen BK105.out 8
  have c22b0 : (((rd_T35 l0 x6_1).f0) == 0) = false := beq_eq_false_iff_ne.mpr c22
  have c22b1 : (((rd_T35 l0 x6_1).f0) != 0) = true := bne_iff_ne.mpr c22
  have c64b0 : (((rd_T35 l0 x6_1).f0) == 1) = false := beq_eq_false_iff_ne.mpr c64
  have c64b1 : (((rd_T35 l0 x6_1).f0) != 1) = true := bne_iff_ne.mpr c64
  have c90b0 : (((rd_T35 l0 x6_1).f0) == 2) = true := beq_iff_eq.mpr c90
  have c90b1 : (((rd_T35 l0 x6_1).f0) != 2) = false := bne_eq_false_iff_eq.mpr c90
  clear c90
  replace H := Option.bind_eq_some_iff.mp H
  obtain ⟨⟨t150, t151⟩, A910, H⟩ := H
  replace H : ((stylusref04_Fair.f ((rd_T35 l0 x6_1).f3.f0) ((rd_T35 l0 x6_1).f3.f1) ((rd_T35 l0 x6_1).f3.f2)).bind fun t152 => (lawP.l1 k1 l0 x4_1 x5_1 x6_1 t150 t152 ([] : List (S42)) 0 t151 ((rd_T35 l0 x6_1).f0) ((rd_T35 l0 x6_1).f1) ((rd_T35 l0 x6_1).f2.f0.f0) ((rd_T35 l0 x6_1).f2.f0.f1) ((rd_T35 l0 x6_1).f2.f1) ((rd_T35 l0 x6_1).f2.f2) ((rd_T35 l0 x6_1).f3.f0) ((rd_T35 l0 x6_1).f3.f1) ((rd_T35 l0 x6_1).f3.f2))) = some r := H
  have A91 := Aside0.mk A910; clear A910
  replace H := Option.bind_eq_some_iff.mp H
  obtain ⟨t152, A920, H⟩ := H
  replace H : (lawP.l1 k1 l0 x4_1 x5_1 x6_1 t150 t152 ([] : List (S42)) 0 t151 ((rd_T35 l0 x6_1).f0) ((rd_T35 l0 x6_1).f1) ((rd_T35 l0 x6_1).f2.f0.f0) ((rd_T35 l0 x6_1).f2.f0.f1) ((rd_T35 l0 x6_1).f2.f1) ((rd_T35 l0 x6_1).f2.f2) ((rd_T35 l0 x6_1).f3.f0) ((rd_T35 l0 x6_1).f3.f1) ((rd_T35 l0 x6_1).f3.f2)) = some r := H
  have A92 := Aside0.mk A920; clear A920; have H' := Aside0.mk H; clear H
  have hnb93 := NB105_102.out
  have hnc93 := NB102_105.out
  go_wp2_with (first | ((with_reducible refine gate_callee (f := 13) rfl ?_); refine goesL_ (some 147) rfl rfl Try.func13 (by kernel_rfl) rfl #[.pointer (some ⟨g102, 0, none⟩), .agg #[.int .i64 ((rd_T35 l0 x6_1).f3.f0), .int .i64 ((rd_T35 l0 x6_1).f3.f1), .slice A104_8 ((rd_T35 l0 x6_1).f3.f2).length c104_8]] rfl (by (try simp only [List.map_toArray, List.map_cons, List.map_nil]); first | done | rfl | (simp only [List.length_drop, List.length_take]; rfl)) ?_; (with_reducible refine (marks_Marks_Edit.calls k1 g102 x103000_1 ((rd_T35 l0 x6_1).f3.f0) ((rd_T35 l0 x6_1).f3.f1) _ _ ((rd_T35 l0 x6_1).f3.f2) t150 t151 w _ ?side1 ?side2 ?side3 ?side4 ?side5 A91.out).mono ?_); (case side1 => repeat (first | (with_reducible first | exact HI102.out | apply IsS90.alloc | apply IsS90.drewN | apply IsS90.drew | apply IsS90.set_0 | refine IsS90.far ?_ NB102_105.out (by repeat (first | exact Ty.mk BK105.out (by decide) | apply Ty.set)) _) | exact HI102.out)); (case side2 => repeat (first | (with_reducible first | exact HB.out | apply below_alloc | apply pw_below_drewN | apply below_drew1 | refine below_set ?_ (IsS90.ge HI102.out) | refine below_set ?_ GE105.out) | exact HB.out)); (case side3 => exact Kd.C_below HR104_8.out (by repeat (first | (with_reducible first | exact HB.out | apply below_alloc | apply pw_below_drewN | apply below_drew1 | refine below_set ?_ (IsS90.ge HI102.out) | refine below_set ?_ GE105.out) | exact HB.out))); (case side4 => exact HC104_8.out); (case side5 => exact Kd.far_C 0 HR104_8.out (IsS90.ge HI102.out)); rintro e w95 ⟨rfl, hi, hb, hk⟩; refine ⟨_, rfl, ?_⟩; have n0_ := Aside0.mk (Kd.R_mono (R_keepM (IsS90.apart (show IsS90 w _ g102 x103000_1 from by repeat (first | (with_reducible first | exact HI102.out | apply IsS90.alloc | apply IsS90.drewN | apply IsS90.drew | apply IsS90.set_0 | refine IsS90.far ?_ NB102_105.out (by repeat (first | exact Ty.mk BK105.out (by decide) | apply Ty.set)) _) | exact HI102.out)) (rr_ (HO_4.out)) (by decide)) hk (fun _ h => h.2)) (fun _ h => h.1)); have n1_ := Aside0.mk (KeepM.blk hk (g' := gb105) (o := .cells #[.int .i64 ((rd_T35 l0 x6_1).f0), .int .i64 ((rd_T35 l0 x6_1).f1), .int .i64 ((rd_T35 l0 x6_1).f2.f0.f0), .int .i64 ((rd_T35 l0 x6_1).f2.f0.f1), .bool ((rd_T35 l0 x6_1).f2.f1), .bool ((rd_T35 l0 x6_1).f2.f2), .int .i64 ((rd_T35 l0 x6_1).f3.f0), .int .i64 ((rd_T35 l0 x6_1).f3.f1), .slice A104_8 ((rd_T35 l0 x6_1).f3.f2).length c104_8] 35 (0, 0)) (kb_ BK105.out) NB105_102.out (by simp)); have n2_ := Aside0.mk (hb); have n3_ := Aside0.mk (hi); clear HO_4; clear BK105; clear HB; clear HI102; have HO_4 := n0_; have BK105 := n1_; have HB := n2_; have HI102 := n3_; clear n0_ n1_ n2_ n3_; have hcz96_0 : w95.cell? ⟨gb105, 0, none⟩ = some (.int .i64 ((rd_T35 l0 x6_1).f0)) := (blk_cell BK105.out 0).trans rfl; have hcz96_1 : w95.cell? ⟨gb105, 1, none⟩ = some (.int .i64 ((rd_T35 l0 x6_1).f1)) := (blk_cell BK105.out 1).trans rfl; have hcz96_2 : w95.cell? ⟨gb105, 2, none⟩ = some (.int .i64 ((rd_T35 l0 x6_1).f2.f0.f0)) := (blk_cell BK105.out 2).trans rfl; have hcz96_3 : w95.cell? ⟨gb105, 3, none⟩ = some (.int .i64 ((rd_T35 l0 x6_1).f2.f0.f1)) := (blk_cell BK105.out 3).trans rfl; have hcz96_4 : w95.cell? ⟨gb105, 4, none⟩ = some (.bool ((rd_T35 l0 x6_1).f2.f1)) := (blk_cell BK105.out 4).trans rfl; have hcz96_5 : w95.cell? ⟨gb105, 5, none⟩ = some (.bool ((rd_T35 l0 x6_1).f2.f2)) := (blk_cell BK105.out 5).trans rfl; have hcz96_6 : w95.cell? ⟨gb105, 6, none⟩ = some (.int .i64 ((rd_T35 l0 x6_1).f3.f0)) := (blk_cell BK105.out 6).trans rfl; have hcz96_7 : w95.cell? ⟨gb105, 7, none⟩ = some (.int .i64 ((rd_T35 l0 x6_1).f3.f1)) := (blk_cell BK105.out 7).trans rfl; have hcz96_8 : w95.cell? ⟨gb105, 8, none⟩ = some (.slice A104_8 ((rd_T35 l0 x6_1).f3.f2).length c104_8) := (blk_cell BK105.out 8).trans rfl; have hfz96_0 := blk_frozen BK105.out 0; have hfz96_1 := blk_frozen BK105.out 1; have hfz96_2 := blk_frozen BK105.out 2; have hfz96_3 := blk_frozen BK105.out 3; have hfz96_4 := blk_frozen BK105.out 4; have hfz96_5 := blk_frozen BK105.out 5; have hfz96_6 := blk_frozen BK105.out 6; have hfz96_7 := blk_frozen BK105.out 7; have hfz96_8 := blk_frozen BK105.out 8) | ((with_reducible refine gate_callee (f := 14) rfl ?_); refine goesL_ (some 150) rfl rfl Try.func14 (by kernel_rfl) rfl #[.agg #[.int .i64 ((rd_T35 l0 x6_1).f3.f0), .int .i64 ((rd_T35 l0 x6_1).f3.f1), .slice A104_8 ((rd_T35 l0 x6_1).f3.f2).length c104_8]] rfl (by (try simp only [List.map_toArray, List.map_cons, List.map_nil]); first | done | rfl | (simp only [List.length_drop, List.length_take]; rfl)) ?_; (with_reducible refine (stylusref04_Fair.calls ((rd_T35 l0 x6_1).f3.f0) ((rd_T35 l0 x6_1).f3.f1) _ _ ((rd_T35 l0 x6_1).f3.f2) t152 _ ?side1 ?side2 A92.out).mono ?_); (case side1 => repeat (first | exact (Kd.C_below HR104_8.out HB.out) | (with_reducible refine Kd.C_alloc ?_ _) | (with_reducible refine Kd.C_drewN ?_ _) | (with_reducible refine Kd.C_drew ?_))); (case side2 => exact HC104_8.out); rintro e w97 ⟨rfl, hb⟩; refine ⟨_, rfl, ?_⟩; have n0_ := Aside0.mk (Kd.R_below (rr_ HO_4.out) hb); have n1_ := Aside0.mk (IsS90.below (by repeat (first | (with_reducible first | exact HI102.out | apply IsS90.alloc | apply IsS90.drewN | apply IsS90.drew | apply IsS90.set_0 | refine IsS90.far ?_ NB102_105.out (by repeat (first | exact Ty.mk BK105.out (by decide) | apply Ty.set)) _) | exact HI102.out)) hb); have n2_ := Aside0.mk (blk_below (g := gb105) (o := .cells #[.int .i64 ((rd_T35 l0 x6_1).f0), .int .i64 ((rd_T35 l0 x6_1).f1), .int .i64 ((rd_T35 l0 x6_1).f2.f0.f0), .int .i64 ((rd_T35 l0 x6_1).f2.f0.f1), .bool ((rd_T35 l0 x6_1).f2.f1), .bool ((rd_T35 l0 x6_1).f2.f2), .int .i64 ((rd_T35 l0 x6_1).f3.f0), .int .i64 ((rd_T35 l0 x6_1).f3.f1), .slice A104_8 ((rd_T35 l0 x6_1).f3.f2).length c104_8] 35 (0, 0)) (kb_ BK105.out) hb); have n3_ := Aside0.mk (below_step (by repeat (first | (with_reducible first | exact HB.out | apply below_alloc | apply pw_below_drewN | apply below_drew1 | refine below_set ?_ (IsS90.ge HI102.out) | refine below_set ?_ GE105.out) | exact HB.out)) hb); clear HO_4; clear HI102; clear BK105; clear HB; have HO_4 := n0_; have HI102 := n1_; have BK105 := n2_; have HB := n3_; clear n0_ n1_ n2_ n3_; ))
  go_loopg [13, 14, 15] k1 (fun kq v13 v14 v15 w' => ∃ (x13_2 : Bool) (x14_2 : List (S42)) (x15_2 : Int), v13 = .bool x13_2 ∧ v15 = .int .i64 x15_2 ∧ Aside0 (lawP.l1 kq l0 x4_1 x5_1 x6_1 t150 x13_2 x14_2 x15_2 t151 ((rd_T35 l0 x6_1).f0) ((rd_T35 l0 x6_1).f1) ((rd_T35 l0 x6_1).f2.f0.f0) ((rd_T35 l0 x6_1).f2.f0.f1) ((rd_T35 l0 x6_1).f2.f1) ((rd_T35 l0 x6_1).f2.f2) ((rd_T35 l0 x6_1).f3.f0) ((rd_T35 l0 x6_1).f3.f1) ((rd_T35 l0 x6_1).f3.f2) = some r) ∧ Aside0 (kq ≤ k1) ∧ Aside0 (Kd.R k42 42 w' w.heap.size (fun k_ => some k_ ≠ (v14 : Value).ownBlock) (.slice Ao21 x4_1.length co21) x4_1) ∧ Aside0 (Kd.R k42 42 w' w.heap.size (fun k_ => some k_ ≠ ((.slice Ao21 x4_1.length co21) : Value).ownBlock) v14 x14_2) ∧ Aside0 (w'.heap[gb105]? = some (.cells #[.int .i64 ((rd_T35 l0 x6_1).f0), .int .i64 ((rd_T35 l0 x6_1).f1), .int .i64 ((rd_T35 l0 x6_1).f2.f0.f0), .int .i64 ((rd_T35 l0 x6_1).f2.f0.f1), .bool ((rd_T35 l0 x6_1).f2.f1), .bool ((rd_T35 l0 x6_1).f2.f2), .int .i64 ((rd_T35 l0 x6_1).f3.f0), .int .i64 ((rd_T35 l0 x6_1).f3.f1), (.slice A104_8 ((rd_T35 l0 x6_1).f3.f2).length c104_8)] 35 (0, 0))) ∧ Aside0 (IsS90 w w' g102 t151) ∧ Aside0 (Below w.heap.size w w'))
  case atStart => exact ⟨(t152), (([] : List (S42))), (0), (by first | rfl | (simp; done) | (simp [*]; done)), (by first | rfl | (simp; done) | (simp [*]; done)), H', ⟨Nat.le_refl _⟩, ⟨rr_ (Kd.R_mono HO_4.out (fun _ hk => (by simp [Value.ownBlock])))⟩, ⟨by first | exact Kd.R_nil _ _ _ _ _ | exact Kd.N_nil _ _ _ _ _ | exact Kd.V_nil _ _ _ _ _ | exact Kd.Q_nil _ _ _ _ _ | exact Kd.S_nil _ _ _ _ _⟩, ⟨kb_ BK105.out⟩, ⟨by repeat (first | (with_reducible first | exact HI102.out | apply IsS90.alloc | apply IsS90.drewN | apply IsS90.drew | apply IsS90.set_0 | refine IsS90.far ?_ NB102_105.out (by repeat (first | exact Ty.mk BK105.out (by decide) | apply Ty.set)) _) | exact HI102.out)⟩, ⟨by repeat (first | (with_reducible first | exact HB.out | apply below_alloc | apply pw_below_drewN | apply below_drew1 | refine below_set ?_ (IsS90.ge HI102.out) | refine below_set ?_ GE105.out) | exact HB.out)⟩⟩
  as_aux_lemma =>
  clear H'; (try clear c22); (try clear c22b0); (try clear c22b1); (try clear c64); (try clear c64b0); (try clear c64b1); (try clear c90b0); (try clear c90b1); (try clear hcz96_0); (try clear hcz96_1); (try clear hcz96_2); (try clear hcz96_3); (try clear hcz96_4); (try clear hcz96_5); (try clear hcz96_6); (try clear hcz96_7); (try clear hcz96_8)
  (try clear hfz96_0); (try clear hfz96_1); (try clear hfz96_2); (try clear hfz96_3); (try clear hfz96_4); (try clear hfz96_5); (try clear hfz96_6); (try clear hfz96_7); (try clear hfz96_8); obtain ⟨x13_2, x14_2, x15_2, rfl, rfl, HA, HK2, HO_4, HO_14, BK105, HI102, HB⟩ := hrel
  cases gk with
  | zero => exact absurd HA.out (by simp [lawP.l1])
  | succ k2 =>
   have H := HA.out
   clear HA
   simp only [lawP.l1] at H
   have HC98 := Aside0.mk H; clear H
   go_upto_region 37 with (fail)
   go_cut [157] (fun v157 wc => ∃ (kq : Nat) (x157_97 : Bool), v157 = .bool x157_97 ∧ Aside0 (lawP.j6 kq l0 x4_1 x5_1 x6_1 t150 x13_2 x14_2 x15_2 x157_97 t151 ((rd_T35 l0 x6_1).f0) ((rd_T35 l0 x6_1).f1) ((rd_T35 l0 x6_1).f2.f0.f0) ((rd_T35 l0 x6_1).f2.f0.f1) ((rd_T35 l0 x6_1).f2.f1) ((rd_T35 l0 x6_1).f2.f2) ((rd_T35 l0 x6_1).f3.f0) ((rd_T35 l0 x6_1).f3.f1) ((rd_T35 l0 x6_1).f3.f2) = some r) ∧ Aside0 (kq ≤ k2) ∧ Aside0 (Kd.R k42 42 wc w.heap.size (fun k_ => some k_ ≠ (u14 : Value).ownBlock) (.slice Ao21 x4_1.length co21) x4_1) ∧ Aside0 (Kd.R k42 42 wc w.heap.size (fun k_ => some k_ ≠ ((.slice Ao21 x4_1.length co21) : Value).ownBlock) u14 x14_2) ∧ Aside0 (wc.heap[gb105]? = some (.cells #[.int .i64 ((rd_T35 l0 x6_1).f0), .int .i64 ((rd_T35 l0 x6_1).f1), .int .i64 ((rd_T35 l0 x6_1).f2.f0.f0), .int .i64 ((rd_T35 l0 x6_1).f2.f0.f1), .bool ((rd_T35 l0 x6_1).f2.f1), .bool ((rd_T35 l0 x6_1).f2.f2), .int .i64 ((rd_T35 l0 x6_1).f3.f0), .int .i64 ((rd_T35 l0 x6_1).f3.f1), (.slice A104_8 ((rd_T35 l0 x6_1).f3.f2).length c104_8)] 35 (0, 0))) ∧ Aside0 (IsS90 w wc g102 t151) ∧ Aside0 (Below w.heap.size w wc))
   case first =>
    as_aux_lemma =>
    have H := HC98.out
    clear HC98
    by_cases c99 : x15_2 < (x4_1.length : Int)
    · rw [if_pos c99] at H
      have c99b0 : decide (x15_2 < (x4_1.length : Int)) = true := decide_eq_true c99
      clear c99; (first | rw [c99b0] | (simp only [i64_w, i32_w]; rw [c99b0]) | skip); have H' := Aside0.mk H; clear H
      go_wp2
      go_meet
      case rel => exact ⟨_, (x13_2), (by first | rfl | (simp; done) | (simp [*]; done)), H', ⟨by have := HK1.out; have := HK2.out; first | omega | exact Nat.le_refl _⟩, ⟨rr_ HO_4.out⟩, ⟨rr_ HO_14.out⟩, ⟨kb_ BK105.out⟩, ⟨by repeat (first | (with_reducible first | exact HI102.out | apply IsS90.alloc | apply IsS90.drewN | apply IsS90.drew | apply IsS90.set_0 | refine IsS90.far ?_ NB102_105.out (by repeat (first | exact Ty.mk BK105.out (by decide) | apply Ty.set)) _) | exact HI102.out)⟩, ⟨by repeat (first | (with_reducible first | exact HB.out | apply below_alloc | apply pw_below_drewN | apply below_drew1 | refine below_set ?_ (IsS90.ge HI102.out) | refine below_set ?_ GE105.out) | exact HB.out)⟩⟩
    rw [if_neg c99] at H
    have c99b0 : decide (x15_2 < (x4_1.length : Int)) = false := decide_eq_false c99
    clear c99; (first | rw [c99b0] | (simp only [i64_w, i32_w]; rw [c99b0]) | skip); have H' := Aside0.mk H; clear H
    go_wp2
    go_meet
    case rel => exact ⟨_, (false), (by first | rfl | (simp; done) | (simp [*]; done)), H', ⟨by have := HK1.out; have := HK2.out; first | omega | exact Nat.le_refl _⟩, ⟨rr_ HO_4.out⟩, ⟨rr_ HO_14.out⟩, ⟨kb_ BK105.out⟩, ⟨by repeat (first | (with_reducible first | exact HI102.out | apply IsS90.alloc | apply IsS90.drewN | apply IsS90.drew | apply IsS90.set_0 | refine IsS90.far ?_ NB102_105.out (by repeat (first | exact Ty.mk BK105.out (by decide) | apply Ty.set)) _) | exact HI102.out)⟩, ⟨by repeat (first | (with_reducible first | exact HB.out | apply below_alloc | apply pw_below_drewN | apply below_drew1 | refine below_set ?_ (IsS90.ge HI102.out) | refine below_set ?_ GE105.out) | exact HB.out)⟩⟩
   as_aux_lemma =>
   clear HC98; (try clear c22); (try clear c22b0); (try clear c22b1); (try clear c64); (try clear c64b0); (try clear c64b1); (try clear c90); (try clear c90b0); (try clear c90b1); (try clear c99); (try clear c99b0); (try clear hcz96_0); (try clear hcz96_1); (try clear hcz96_2); (try clear hcz96_3); (try clear hcz96_4); (try clear hcz96_5); (try clear hcz96_6); (try clear hcz96_7); (try clear hcz96_8)
   (try clear hfz96_0); (try clear hfz96_1); (try clear hfz96_2); (try clear hfz96_3); (try clear hfz96_4); (try clear hfz96_5); (try clear hfz96_6); (try clear hfz96_7); (try clear hfz96_8); obtain ⟨kq, x157_97, rfl, HA, HJ97, HO_4, HO_14, BK105, HI102, HB⟩ := hcut
   cases kq with
   | zero => exact absurd HA.out (by simp [lawP.j6])
   | succ kj97 =>
    have H := HA.out
    clear HA
    simp only [lawP.j6] at H
    by_cases c100 : x157_97 = true
    rotate_left
    · as_aux_lemma =>
      replace c100 := Bool.eq_false_iff.mpr c100
      subst c100
      have H1 : (if x13_2 = true then (lawP.j7 kj97 l0 x4_1 x5_1 x6_1 x13_2 x14_2 (t150 != 0) t151) else (if t150 = 1 then (lawP.j7 kj97 l0 x4_1 x5_1 x6_1 x13_2 x14_2 false t151) else (lawP.j7 kj97 l0 x4_1 x5_1 x6_1 x13_2 x14_2 true t151))) = some r := by rw [if_neg (show ¬ (false = true) by decide)] at H; exact H
      clear H
      have H := H1
      clear H1; have HC121 := Aside0.mk H; clear H
      go_upto_region 42 with (fail)
      go_cut [185] (fun v185 wc => ∃ (kq : Nat) (x185_120 : Bool), v185 = .bool x185_120 ∧ Aside0 (lawP.j7 kq l0 x4_1 x5_1 x6_1 x13_2 x14_2 x185_120 t151 = some r) ∧ Aside0 (kq ≤ kj97) ∧ Aside0 (Kd.R k42 42 wc w.heap.size (fun k_ => some k_ ≠ (u14 : Value).ownBlock) (.slice Ao21 x4_1.length co21) x4_1) ∧ Aside0 (Kd.R k42 42 wc w.heap.size (fun k_ => some k_ ≠ ((.slice Ao21 x4_1.length co21) : Value).ownBlock) u14 x14_2) ∧ Aside0 (wc.heap[gb105]? = some (.cells #[.int .i64 ((rd_T35 l0 x6_1).f0), .int .i64 ((rd_T35 l0 x6_1).f1), .int .i64 ((rd_T35 l0 x6_1).f2.f0.f0), .int .i64 ((rd_T35 l0 x6_1).f2.f0.f1), .bool ((rd_T35 l0 x6_1).f2.f1), .bool ((rd_T35 l0 x6_1).f2.f2), .int .i64 ((rd_T35 l0 x6_1).f3.f0), .int .i64 ((rd_T35 l0 x6_1).f3.f1), (.slice A104_8 ((rd_T35 l0 x6_1).f3.f2).length c104_8)] 35 (0, 0))) ∧ Aside0 (IsS90 w wc g102 t151) ∧ Aside0 (Below w.heap.size w wc))
      case first =>
       as_aux_lemma =>
       have H := HC121.out
       clear HC121
       by_cases c122 : x13_2 = true
       · subst c122
         have H1 : (lawP.j7 kj97 l0 x4_1 x5_1 x6_1 true x14_2 (t150 != 0) t151) = some r := by rw [if_pos rfl] at H; exact H
         clear H
         have H := H1
         clear H1; have H' := Aside0.mk H; clear H
         go_wp2
         go_meet
         case rel => exact ⟨_, ((t150 != 0)), (by first | rfl | (simp; done) | (simp [*]; done)), H', ⟨by have := HK1.out; have := HK2.out; have := HJ97.out; first | omega | exact Nat.le_refl _⟩, ⟨rr_ HO_4.out⟩, ⟨rr_ HO_14.out⟩, ⟨kb_ BK105.out⟩, ⟨by repeat (first | (with_reducible first | exact HI102.out | apply IsS90.alloc | apply IsS90.drewN | apply IsS90.drew | apply IsS90.set_0 | refine IsS90.far ?_ NB102_105.out (by repeat (first | exact Ty.mk BK105.out (by decide) | apply Ty.set)) _) | exact HI102.out)⟩, ⟨by repeat (first | (with_reducible first | exact HB.out | apply below_alloc | apply pw_below_drewN | apply below_drew1 | refine below_set ?_ (IsS90.ge HI102.out) | refine below_set ?_ GE105.out) | exact HB.out)⟩⟩
       replace c122 := Bool.eq_false_iff.mpr c122
       subst c122
       have H1 : (if t150 = 1 then (lawP.j7 kj97 l0 x4_1 x5_1 x6_1 false x14_2 false t151) else (lawP.j7 kj97 l0 x4_1 x5_1 x6_1 false x14_2 true t151)) = some r := by rw [if_neg (show ¬ (false = true) by decide)] at H; exact H
       clear H
       have H := H1
       clear H1
       by_cases c123 : t150 = 1
       rotate_left
       · rw [if_neg c123] at H
         have c123b0 : (t150 == 1) = false := beq_eq_false_iff_ne.mpr c123
         have c123b1 : (t150 != 1) = true := bne_iff_ne.mpr c123
         (first | rw [c123b0] | (simp only [i64_w, i32_w]; rw [c123b0]) | skip); have H' := Aside0.mk H; clear H
         go_wp2
         go_meet
         case rel => exact ⟨_, (true), (by first | rfl | (simp; done) | (simp [*]; done)), H', ⟨by have := HK1.out; have := HK2.out; have := HJ97.out; first | omega | exact Nat.le_refl _⟩, ⟨rr_ HO_4.out⟩, ⟨rr_ HO_14.out⟩, ⟨kb_ BK105.out⟩, ⟨by repeat (first | (with_reducible first | exact HI102.out | apply IsS90.alloc | apply IsS90.drewN | apply IsS90.drew | apply IsS90.set_0 | refine IsS90.far ?_ NB102_105.out (by repeat (first | exact Ty.mk BK105.out (by decide) | apply Ty.set)) _) | exact HI102.out)⟩, ⟨by repeat (first | (with_reducible first | exact HB.out | apply below_alloc | apply pw_below_drewN | apply below_drew1 | refine below_set ?_ (IsS90.ge HI102.out) | refine below_set ?_ GE105.out) | exact HB.out)⟩⟩
       rw [if_pos c123] at H
       have c123b0 : (t150 == 1) = true := beq_iff_eq.mpr c123
       have c123b1 : (t150 != 1) = false := bne_eq_false_iff_eq.mpr c123
       clear c123; (first | rw [c123b0] | (simp only [i64_w, i32_w]; rw [c123b0]) | skip); have H' := Aside0.mk H; clear H
       go_wp2
       go_meet
       case rel => exact ⟨_, (false), (by first | rfl | (simp; done) | (simp [*]; done)), H', ⟨by have := HK1.out; have := HK2.out; have := HJ97.out; first | omega | exact Nat.le_refl _⟩, ⟨rr_ HO_4.out⟩, ⟨rr_ HO_14.out⟩, ⟨kb_ BK105.out⟩, ⟨by repeat (first | (with_reducible first | exact HI102.out | apply IsS90.alloc | apply IsS90.drewN | apply IsS90.drew | apply IsS90.set_0 | refine IsS90.far ?_ NB102_105.out (by repeat (first | exact Ty.mk BK105.out (by decide) | apply Ty.set)) _) | exact HI102.out)⟩, ⟨by repeat (first | (with_reducible first | exact HB.out | apply below_alloc | apply pw_below_drewN | apply below_drew1 | refine below_set ?_ (IsS90.ge HI102.out) | refine below_set ?_ GE105.out) | exact HB.out)⟩⟩
      as_aux_lemma =>
      clear HC121; (try clear c100); (try clear c122); (try clear c123); (try clear c123b0); (try clear c123b1); (try clear hcz96_0); (try clear hcz96_1); (try clear hcz96_2); (try clear hcz96_3); (try clear hcz96_4); (try clear hcz96_5); (try clear hcz96_6); (try clear hcz96_7); (try clear hcz96_8); (try clear hfz96_0); (try clear hfz96_1); (try clear hfz96_2); (try clear hfz96_3); (try clear hfz96_4); (try clear hfz96_5); (try clear hfz96_6); (try clear hfz96_7); (try clear hfz96_8); obtain ⟨kq, x185_120, rfl, HA, HJ120, HO_4, HO_14, BK105, HI102, HB⟩ := hcut
      cases kq with
      | zero => exact absurd HA.out (by simp [lawP.j7])
      | succ kj120 =>
       have H := HA.out
       clear HA
       simp only [lawP.j7] at H
       by_cases c124 : x185_120 = true
       · subst c124
         have H1 : (none) = some r := by rw [if_pos rfl] at H; exact H
         clear H
         have H := H1
         clear H1; exact absurd H (by simp)
       replace c124 := Bool.eq_false_iff.mpr c124
       subst c124
       have H1 : (if x13_2 = true then (lawP.j16 kj120 l0 x14_2 x5_1 x6_1 t151) else (lawP.j16 kj120 l0 x4_1 x5_1 x6_1 t151)) = some r := by rw [if_neg (show ¬ (false = true) by decide)] at H; exact H
       clear H
       have H := H1
       clear H1
       by_cases c125 : x13_2 = true
       · subst c125
         have H1 : (lawP.j16 kj120 l0 x14_2 x5_1 x6_1 t151) = some r := by rw [if_pos rfl] at H; exact H
         clear H
         have H := H1
         clear H1; have H' := Aside0.mk H; clear H
         go_wp2
         go_meet
         case rel => exact ⟨_, (x14_2), (x5_1), (t151), (by first | rfl | (simp; done) | (simp [*]; done)), H', ⟨by have := HK1.out; have := HK2.out; have := HJ97.out; have := HJ120.out; first | omega | exact Nat.le_refl _⟩, ⟨rr_ (Kd.R_mono HO_14.out (fun _ hk => trivial))⟩, ⟨kb_ BK105.out⟩, ⟨by repeat (first | (with_reducible first | exact HI102.out | apply IsS90.alloc | apply IsS90.drewN | apply IsS90.drew | apply IsS90.set_0 | refine IsS90.far ?_ NB102_105.out (by repeat (first | exact Ty.mk BK105.out (by decide) | apply Ty.set)) _) | exact HI102.out)⟩, ⟨by repeat (first | (with_reducible first | exact HB.out | apply below_alloc | apply pw_below_drewN | apply below_drew1 | refine below_set ?_ (IsS90.ge HI102.out) | refine below_set ?_ GE105.out) | exact HB.out)⟩⟩
       replace c125 := Bool.eq_false_iff.mpr c125
       subst c125
       have H1 : (lawP.j16 kj120 l0 x4_1 x5_1 x6_1 t151) = some r := by rw [if_neg (show ¬ (false = true) by decide)] at H; exact H
       clear H
       have H := H1
       clear H1; have H' := Aside0.mk H; clear H
       go_wp2
       go_meet
       case rel => exact ⟨_, (x4_1), (x5_1), (t151), (by first | rfl | (simp; done) | (simp [*]; done)), H', ⟨by have := HK1.out; have := HK2.out; have := HJ97.out; have := HJ120.out; first | omega | exact Nat.le_refl _⟩, ⟨rr_ (Kd.R_mono HO_4.out (fun _ hk => trivial))⟩, ⟨kb_ BK105.out⟩, ⟨by repeat (first | (with_reducible first | exact HI102.out | apply IsS90.alloc | apply IsS90.drewN | apply IsS90.drew | apply IsS90.set_0 | refine IsS90.far ?_ NB102_105.out (by repeat (first | exact Ty.mk BK105.out (by decide) | apply Ty.set)) _) | exact HI102.out)⟩, ⟨by repeat (first | (with_reducible first | exact HB.out | apply below_alloc | apply pw_below_drewN | apply below_drew1 | refine below_set ?_ (IsS90.ge HI102.out) | refine below_set ?_ GE105.out) | exact HB.out)⟩⟩
    as_aux_lemma =>
    subst c100
    have H1 : (if 0 ≤ x15_2 then (if x15_2 < (x4_1.length : Int) then ((stylusref04_Move.f ((rd_T42 x4_1 x15_2).f0) ((rd_T42 x4_1 x15_2).f1) ((rd_T42 x4_1 x15_2).f2) ((rd_T42 x4_1 x15_2).f3) ((rd_T42 x4_1 x15_2).f4) ((rd_T35 l0 x6_1).f3.f0) ((rd_T35 l0 x6_1).f3.f1) ((rd_T35 l0 x6_1).f3.f2)).bind fun bt154 => ((stylusref04_May.f bt154.1 bt154.2.1 bt154.2.2.1 bt154.2.2.2.1 bt154.2.2.2.2).bind fun t160 => (if x14_2.length < 4398046511104 then (lawP.l1 kj97 l0 x4_1 x5_1 x6_1 t150 t160 (x14_2 ++ [(⟨bt154.1, bt154.2.1, bt154.2.2.1, bt154.2.2.2.1, bt154.2.2.2.2⟩ : S42)]) (wrap64 (x15_2 + 1)) t151 ((rd_T35 l0 x6_1).f0) ((rd_T35 l0 x6_1).f1) ((rd_T35 l0 x6_1).f2.f0.f0) ((rd_T35 l0 x6_1).f2.f0.f1) ((rd_T35 l0 x6_1).f2.f1) ((rd_T35 l0 x6_1).f2.f2) ((rd_T35 l0 x6_1).f3.f0) ((rd_T35 l0 x6_1).f3.f1) ((rd_T35 l0 x6_1).f3.f2)) else (none)))) else (none)) else (none)) = some r := by rw [if_pos rfl] at H; exact H
    clear H
    have H := H1
    clear H1
    by_cases c101 : 0 ≤ x15_2
    rotate_left
    · rw [if_neg c101] at H
      exact absurd H (by simp)
    as_aux_lemma =>
    rw [if_pos c101] at H
    have c101b0 : decide (0 ≤ x15_2) = true := decide_eq_true c101
    clear c101
    by_cases c102 : x15_2 < (x4_1.length : Int)
    rotate_left
    · rw [if_neg c102] at H
      exact absurd H (by simp)
    as_aux_lemma =>
    rw [if_pos c102] at H
    have c102b0 : decide (x15_2 < (x4_1.length : Int)) = true := decide_eq_true c102
    clear c102
    replace H := Option.bind_eq_some_iff.mp H
    obtain ⟨⟨t154, t155, t156, t157, t158⟩, A1030, H⟩ := H
    replace H : ((stylusref04_May.f t154 t155 t156 t157 t158).bind fun t160 => (if x14_2.length < 4398046511104 then (lawP.l1 kj97 l0 x4_1 x5_1 x6_1 t150 t160 (x14_2 ++ [(⟨t154, t155, t156, t157, t158⟩ : S42)]) (wrap64 (x15_2 + 1)) t151 ((rd_T35 l0 x6_1).f0) ((rd_T35 l0 x6_1).f1) ((rd_T35 l0 x6_1).f2.f0.f0) ((rd_T35 l0 x6_1).f2.f0.f1) ((rd_T35 l0 x6_1).f2.f1) ((rd_T35 l0 x6_1).f2.f2) ((rd_T35 l0 x6_1).f3.f0) ((rd_T35 l0 x6_1).f3.f1) ((rd_T35 l0 x6_1).f3.f2)) else (none))) = some r := H
    have A103 := Aside0.mk A1030; clear A1030
    replace H := Option.bind_eq_some_iff.mp H
    obtain ⟨t160, A1040, H⟩ := H
    replace H : (if x14_2.length < 4398046511104 then (lawP.l1 kj97 l0 x4_1 x5_1 x6_1 t150 t160 (x14_2 ++ [(⟨t154, t155, t156, t157, t158⟩ : S42)]) (wrap64 (x15_2 + 1)) t151 ((rd_T35 l0 x6_1).f0) ((rd_T35 l0 x6_1).f1) ((rd_T35 l0 x6_1).f2.f0.f0) ((rd_T35 l0 x6_1).f2.f0.f1) ((rd_T35 l0 x6_1).f2.f1) ((rd_T35 l0 x6_1).f2.f2) ((rd_T35 l0 x6_1).f3.f0) ((rd_T35 l0 x6_1).f3.f1) ((rd_T35 l0 x6_1).f3.f2)) else (none)) = some r := H
    have A104 := Aside0.mk A1040; clear A1040
    by_cases c105 : x14_2.length < 4398046511104
    rotate_left
    · rw [if_neg c105] at H
      exact absurd H (by simp)
    as_aux_lemma =>
    rw [if_pos c105] at H; have LMc105 := Aside0.mk c105; clear c105
    obtain ⟨y161, hy161⟩ : ∃ y_ : List (S42), y_ = (x14_2 ++ [(⟨t154, t155, t156, t157, t158⟩ : S42)]) := ⟨_, rfl⟩
    replace H : (lawP.l1 kj97 l0 x4_1 x5_1 x6_1 t150 t160 y161 (wrap64 (x15_2 + 1)) t151 ((rd_T35 l0 x6_1).f0) ((rd_T35 l0 x6_1).f1) ((rd_T35 l0 x6_1).f2.f0.f0) ((rd_T35 l0 x6_1).f2.f0.f1) ((rd_T35 l0 x6_1).f2.f1) ((rd_T35 l0 x6_1).f2.f2) ((rd_T35 l0 x6_1).f3.f0) ((rd_T35 l0 x6_1).f3.f1) ((rd_T35 l0 x6_1).f3.f2)) = some r := by first | (rw [hy161]; with_reducible exact H) | (have H2_ := (Option.bind_some _ _).symm.trans H; rw [hy161]; with_reducible exact H2_) | (have H2_ := (Option.bind_some _ _).symm.trans H; with_reducible exact H2_) | with_reducible exact H | (rw [hy161]; exact H) | exact H
    have Ny161 := Aside0.mk hy161; clear hy161; have H' := Aside0.mk H; clear H
    try go_wp2
    have n0_ := Aside0.mk (Kd.R_drew HO_4.out)
    have n1_ := Aside0.mk (Kd.R_drew HO_14.out)
    have n2_ := Aside0.mk (blk_drew BK105.out)
    have n3_ := Aside0.mk (IsS90.drew HI102.out)
    have n4_ := Aside0.mk (below_drew1 HB.out)
    clear HO_4 HO_14 BK105 HI102 HB
    have HO_4 := n0_
    have HO_14 := n1_
    have BK105 := n2_
    have HI102 := n3_
    have HB := n4_
    clear n0_ n1_ n2_ n3_ n4_
    have p153 : 0 ≤ (x15_2 : Int) := od_
    have q153 : x15_2 < (x4_1.length : Int) := od_
    obtain ⟨ad153, e153, hx153_0, hx153_1, hx153_2, hx153_3, hx153_4⟩ := at_T42 (Kd.R_reads' HO_4.out).2.2 x15_2 p153 q153
    cases e153
    replace p153 := eq_true p153; replace q153 := eq_true q153
    refine start_ (n := 9) (S := fun w' => w'.cell? ⟨gb105, 0, none⟩ = some (.int .i64 ((rd_T35 l0 x6_1).f0)) ∧ w'.cell? ⟨gb105, 1, none⟩ = some (.int .i64 ((rd_T35 l0 x6_1).f1)) ∧ w'.cell? ⟨gb105, 2, none⟩ = some (.int .i64 ((rd_T35 l0 x6_1).f2.f0.f0)) ∧ w'.cell? ⟨gb105, 3, none⟩ = some (.int .i64 ((rd_T35 l0 x6_1).f2.f0.f1)) ∧ w'.cell? ⟨gb105, 4, none⟩ = some (.bool ((rd_T35 l0 x6_1).f2.f1)) ∧ w'.cell? ⟨gb105, 5, none⟩ = some (.bool ((rd_T35 l0 x6_1).f2.f2)) ∧ w'.cell? ⟨gb105, 6, none⟩ = some (.int .i64 ((rd_T35 l0 x6_1).f3.f0)) ∧ w'.cell? ⟨gb105, 7, none⟩ = some (.int .i64 ((rd_T35 l0 x6_1).f3.f1)) ∧ w'.cell? ⟨gb105, 8, none⟩ = some (.slice A104_8 ((rd_T35 l0 x6_1).f3.f2).length c104_8) ∧ w'.cell? (ad153.add ((x15_2).toNat * 5)) = some (.int .i64 ((rd_T42 x4_1 x15_2).f0)) ∧ w'.cell? ⟨(ad153.add ((x15_2).toNat * 5)).block, (ad153.add ((x15_2).toNat * 5)).off + 1, none⟩ = some (.int .i64 ((rd_T42 x4_1 x15_2).f1)) ∧ w'.cell? ⟨(ad153.add ((x15_2).toNat * 5)).block, (ad153.add ((x15_2).toNat * 5)).off + 2, none⟩ = some (.bool ((rd_T42 x4_1 x15_2).f2)) ∧ w'.cell? ⟨(ad153.add ((x15_2).toNat * 5)).block, (ad153.add ((x15_2).toNat * 5)).off + 3, none⟩ = some (.bool ((rd_T42 x4_1 x15_2).f3)) ∧ w'.cell? ⟨(ad153.add ((x15_2).toNat * 5)).block, (ad153.add ((x15_2).toNat * 5)).off + 4, none⟩ = some (.int .i64 ((rd_T42 x4_1 x15_2).f4))) (ds := []) #[false, false, false, false, false, false, false, false, false] (by kernel_rfl) rfl rfl ⟨(blk_cell BK105.out 0).trans rfl, (blk_cell BK105.out 1).trans rfl, (blk_cell BK105.out 2).trans rfl, (blk_cell BK105.out 3).trans rfl, (blk_cell BK105.out 4).trans rfl, (blk_cell BK105.out 5).trans rfl, (blk_cell BK105.out 6).trans rfl, (blk_cell BK105.out 7).trans rfl, (blk_cell BK105.out 8).trans rfl, hx153_0, hx153_1, hx153_2, hx153_3, hx153_4⟩ (fun hHeld => ?_); refine with_tabW lawP.tab39 lawP.bits39 (fun HT_ HW_ => ?_)
    generalize wc.drew = w106 at HO_4 HO_14 BK105 HI102 HB hx153_0 hx153_1 hx153_2 hx153_3 hx153_4 hHeld ⊢
    refine q_ 0 (some 160) HT_.out ?_ (hQ := fun _ _ _ h_ => hQp _ _ _ _ _ h_)
    refine q_ 1 (some 161) HT_.out ?_ (hQ := fun _ _ _ h_ => hQp _ _ _ _ _ h_)
    refine q_ 2 (some 162) HT_.out ?_ (hQ := fun _ _ _ h_ => hQp _ _ _ _ _ h_)
    refine q_ 4 (some 164) HT_.out ?_ (hQ := fun _ _ _ h_ => hQp _ _ _ _ _ h_)
    refine t_ 3 (some 163) HT_.out HW_.out hHeld ?_ (hQ := fun _ _ _ h_ => hQp _ _ _ _ _ h_)
    refine t_ 5 (some 165) HT_.out HW_.out hHeld ?_ (hQ := fun _ _ _ h_ => hQp _ _ _ _ _ h_)
    refine join_ (σ := Nat) 1 #[true, true, true, true, true, true, true, true, false] (fun s_ => [(166, .agg #[.int .i64 t154, .int .i64 t155, .bool t156, .bool t157, .int .i64 t158]), (16, .pointer (some ⟨s_, 0, none⟩))]) (fun s_ w' => (w'.cell? ⟨gb105, 0, none⟩ = some (.int .i64 ((rd_T35 l0 x6_1).f0)) ∧ w'.cell? ⟨gb105, 1, none⟩ = some (.int .i64 ((rd_T35 l0 x6_1).f1)) ∧ w'.cell? ⟨gb105, 2, none⟩ = some (.int .i64 ((rd_T35 l0 x6_1).f2.f0.f0)) ∧ w'.cell? ⟨gb105, 3, none⟩ = some (.int .i64 ((rd_T35 l0 x6_1).f2.f0.f1)) ∧ w'.cell? ⟨gb105, 4, none⟩ = some (.bool ((rd_T35 l0 x6_1).f2.f1)) ∧ w'.cell? ⟨gb105, 5, none⟩ = some (.bool ((rd_T35 l0 x6_1).f2.f2)) ∧ w'.cell? ⟨gb105, 6, none⟩ = some (.int .i64 ((rd_T35 l0 x6_1).f3.f0)) ∧ w'.cell? ⟨gb105, 7, none⟩ = some (.int .i64 ((rd_T35 l0 x6_1).f3.f1)) ∧ w'.cell? ⟨gb105, 8, none⟩ = some (.slice A104_8 ((rd_T35 l0 x6_1).f3.f2).length c104_8) ∧ w'.cell? (ad153.add ((x15_2).toNat * 5)) = some (.int .i64 ((rd_T42 x4_1 x15_2).f0)) ∧ w'.cell? ⟨(ad153.add ((x15_2).toNat * 5)).block, (ad153.add ((x15_2).toNat * 5)).off + 1, none⟩ = some (.int .i64 ((rd_T42 x4_1 x15_2).f1)) ∧ w'.cell? ⟨(ad153.add ((x15_2).toNat * 5)).block, (ad153.add ((x15_2).toNat * 5)).off + 2, none⟩ = some (.bool ((rd_T42 x4_1 x15_2).f2)) ∧ w'.cell? ⟨(ad153.add ((x15_2).toNat * 5)).block, (ad153.add ((x15_2).toNat * 5)).off + 3, none⟩ = some (.bool ((rd_T42 x4_1 x15_2).f3)) ∧ w'.cell? ⟨(ad153.add ((x15_2).toNat * 5)).block, (ad153.add ((x15_2).toNat * 5)).off + 4, none⟩ = some (.int .i64 ((rd_T42 x4_1 x15_2).f4))) ∧ (Kd.R k42 42 w' w.heap.size (fun k_ => some k_ ≠ (.slice (some ad153) x4_1.length co21 : Value).ownBlock ∧ k_ ≠ s_) u14 x14_2) ∧ (Kd.R k42 42 w' w.heap.size (fun k_ => some k_ ≠ (u14 : Value).ownBlock ∧ k_ ≠ s_) (.slice (some ad153) x4_1.length co21) x4_1) ∧ (w'.heap[gb105]? = some (.cells #[.int .i64 ((rd_T35 l0 x6_1).f0), .int .i64 ((rd_T35 l0 x6_1).f1), .int .i64 ((rd_T35 l0 x6_1).f2.f0.f0), .int .i64 ((rd_T35 l0 x6_1).f2.f0.f1), .bool ((rd_T35 l0 x6_1).f2.f1), .bool ((rd_T35 l0 x6_1).f2.f2), .int .i64 ((rd_T35 l0 x6_1).f3.f0), .int .i64 ((rd_T35 l0 x6_1).f3.f1), .slice A104_8 ((rd_T35 l0 x6_1).f3.f2).length c104_8] 35 (0, 0))) ∧ (w'.heap[s_]? = some (.cells #[.int .i64 0, .int .i64 0, .bool false, .bool false, .int .i64 0] 42 (0, 0))) ∧ (w.heap.size ≤ s_) ∧ (w.heap.size ≤ s_) ∧ (g102 ≠ s_) ∧ (s_ ≠ g102) ∧ (gb105 ≠ s_) ∧ (s_ ≠ gb105) ∧ (IsS90 w w' g102 t151) ∧ (Below w.heap.size w w')) ?_ ?_
    rotate_left
    · as_aux_lemma =>
      intro hCont
      refine two_ (i := 6) (j := 7) (Ni := some 166) (Nj := some 16) #[true, true, true, true, true, true, true, false, false] #[true, true, true, true, true, true, false, true, false] rfl rfl rfl rfl (two_of HT_.out (by kernel_rfl)) (by decide) (by decide) (fun K hK => ?_) (fun K hK => ?_)
      · as_aux_lemma =>
        skip
        refine goes_ Try.func15 (by kernel_rfl) rfl #[.agg #[.int .i64 ((rd_T42 x4_1 x15_2).f0), .int .i64 ((rd_T42 x4_1 x15_2).f1), .bool ((rd_T42 x4_1 x15_2).f2), .bool ((rd_T42 x4_1 x15_2).f3), .int .i64 ((rd_T42 x4_1 x15_2).f4)], .agg #[.int .i64 ((rd_T35 l0 x6_1).f3.f0), .int .i64 ((rd_T35 l0 x6_1).f3.f1), .slice A104_8 ((rd_T35 l0 x6_1).f3.f2).length c104_8]] (by rfl) rfl rfl (by (try simp only [List.map_toArray, List.map_cons, List.map_nil]); first | done | rfl | (simp only [List.length_drop, List.length_take]; rfl)) ?_
        with_reducible refine (stylusref04_Move.calls ((rd_T42 x4_1 x15_2).f0) ((rd_T42 x4_1 x15_2).f1) ((rd_T42 x4_1 x15_2).f2) ((rd_T42 x4_1 x15_2).f3) ((rd_T42 x4_1 x15_2).f4) ((rd_T35 l0 x6_1).f3.f0) ((rd_T35 l0 x6_1).f3.f1) _ _ ((rd_T35 l0 x6_1).f3.f2) t154 t155 t156 t157 t158 _ ?side1 ?side2 A103.out).mono ?_
        (case side1 => repeat (first | exact (Kd.C_below HR104_8.out HB.out) | (with_reducible refine Kd.C_alloc ?_ _) | (with_reducible refine Kd.C_drewN ?_ _) | (with_reducible refine Kd.C_drew ?_))); (case side2 => exact HC104_8.out); rintro e w107 ⟨rfl, hb⟩
        have HS9_ := (hb.cell (World.block_lt_of_cell? _ _ (hHeld.2.2.2.2.2.2.2.2.2.1))).trans (hHeld.2.2.2.2.2.2.2.2.2.1)
        have HS10_ := (hb.cell (World.block_lt_of_cell? _ _ (hHeld.2.2.2.2.2.2.2.2.2.2.1))).trans (hHeld.2.2.2.2.2.2.2.2.2.2.1)
        have HS11_ := (hb.cell (World.block_lt_of_cell? _ _ (hHeld.2.2.2.2.2.2.2.2.2.2.2.1))).trans (hHeld.2.2.2.2.2.2.2.2.2.2.2.1)
        have HS12_ := (hb.cell (World.block_lt_of_cell? _ _ (hHeld.2.2.2.2.2.2.2.2.2.2.2.2.1))).trans (hHeld.2.2.2.2.2.2.2.2.2.2.2.2.1)
        have HS13_ := (hb.cell (World.block_lt_of_cell? _ _ (hHeld.2.2.2.2.2.2.2.2.2.2.2.2.2))).trans (hHeld.2.2.2.2.2.2.2.2.2.2.2.2.2)
        refine ⟨_, rfl, ?_⟩
        have n0_ := Aside0.mk (Kd.R_below (rr_ HO_4.out) hb)
        have n1_ := Aside0.mk (Kd.R_below (rr_ HO_14.out) hb)
        have n2_ := Aside0.mk (blk_below (g := gb105) (o := .cells #[.int .i64 ((rd_T35 l0 x6_1).f0), .int .i64 ((rd_T35 l0 x6_1).f1), .int .i64 ((rd_T35 l0 x6_1).f2.f0.f0), .int .i64 ((rd_T35 l0 x6_1).f2.f0.f1), .bool ((rd_T35 l0 x6_1).f2.f1), .bool ((rd_T35 l0 x6_1).f2.f2), .int .i64 ((rd_T35 l0 x6_1).f3.f0), .int .i64 ((rd_T35 l0 x6_1).f3.f1), .slice A104_8 ((rd_T35 l0 x6_1).f3.f2).length c104_8] 35 (0, 0)) (kb_ BK105.out) hb)
        have n3_ := Aside0.mk (IsS90.below (by repeat (first | (with_reducible first | exact HI102.out | apply IsS90.alloc | apply IsS90.drewN | apply IsS90.drew | apply IsS90.set_0 | refine IsS90.far ?_ NB102_105.out (by repeat (first | exact Ty.mk BK105.out (by decide) | apply Ty.set)) _) | exact HI102.out)) hb)
        have n4_ := Aside0.mk (below_step (by repeat (first | (with_reducible first | exact HB.out | apply below_alloc | apply pw_below_drewN | apply below_drew1 | refine below_set ?_ (IsS90.ge HI102.out) | refine below_set ?_ GE105.out) | exact HB.out)) hb)
        clear HO_4 HO_14 BK105 HI102 HB
        have HO_4 := n0_
        have HO_14 := n1_
        have BK105 := n2_
        have HI102 := n3_
        have HB := n4_
        clear n0_ n1_ n2_ n3_ n4_; (try clear hb); (try clear hk); (try clear hi)
        refine hK.out _ _ ⟨(blk_cell BK105.out 0).trans rfl, (blk_cell BK105.out 1).trans rfl, (blk_cell BK105.out 2).trans rfl, (blk_cell BK105.out 3).trans rfl, (blk_cell BK105.out 4).trans rfl, (blk_cell BK105.out 5).trans rfl, (blk_cell BK105.out 6).trans rfl, (blk_cell BK105.out 7).trans rfl, (blk_cell BK105.out 8).trans rfl, HS9_, HS10_, HS11_, HS12_, HS13_⟩ (fun hHeld => ?_)
        clear hK K; refine norm_ (a' := ?_) ?_ ?_; rotate_left
        · show Act.put _ (some 166) _ = _
          simp only [Act.put, List.setIfInBounds_toArray, List.set_cons_zero, List.set_cons_succ, i64_w, i32_w]
          rfl
        refine one_ (i := 7) (N := some 16) #[true, true, true, true, true, true, true, true, false] rfl rfl (one_of HT_.out (by kernel_rfl)) (by decide) (fun K hK => ?_)
        refine box_step ?hg (N := 16) ?hd (cs := #[.int .i64 0, .int .i64 0, .bool false, .bool false, .int .i64 0]) (t := 42) ?hr ?_; (case hd => rfl); (case hg => rfl); (case hr => first | (go_simp; done) | (go_simp; rfl))
        intro gb159 hg w108 hbox hb
        have HS9_ := (hb.cell (World.block_lt_of_cell? _ _ (hHeld.2.2.2.2.2.2.2.2.2.1))).trans (hHeld.2.2.2.2.2.2.2.2.2.1)
        have HS10_ := (hb.cell (World.block_lt_of_cell? _ _ (hHeld.2.2.2.2.2.2.2.2.2.2.1))).trans (hHeld.2.2.2.2.2.2.2.2.2.2.1)
        have HS11_ := (hb.cell (World.block_lt_of_cell? _ _ (hHeld.2.2.2.2.2.2.2.2.2.2.2.1))).trans (hHeld.2.2.2.2.2.2.2.2.2.2.2.1)
        have HS12_ := (hb.cell (World.block_lt_of_cell? _ _ (hHeld.2.2.2.2.2.2.2.2.2.2.2.2.1))).trans (hHeld.2.2.2.2.2.2.2.2.2.2.2.2.1)
        have HS13_ := (hb.cell (World.block_lt_of_cell? _ _ (hHeld.2.2.2.2.2.2.2.2.2.2.2.2.2))).trans (hHeld.2.2.2.2.2.2.2.2.2.2.2.2.2)
        have n0_ := Aside0.mk (Kd.R_below (Kd.R_elderB (rr_ HO_4.out) gb159 (Nat.le_of_eq hg.symm)) hb)
        have n1_ := Aside0.mk (Kd.R_below (Kd.R_elderB (rr_ HO_14.out) gb159 (Nat.le_of_eq hg.symm)) hb)
        have n2_ := Aside0.mk (blk_below (g := gb105) (o := .cells #[.int .i64 ((rd_T35 l0 x6_1).f0), .int .i64 ((rd_T35 l0 x6_1).f1), .int .i64 ((rd_T35 l0 x6_1).f2.f0.f0), .int .i64 ((rd_T35 l0 x6_1).f2.f0.f1), .bool ((rd_T35 l0 x6_1).f2.f1), .bool ((rd_T35 l0 x6_1).f2.f2), .int .i64 ((rd_T35 l0 x6_1).f3.f0), .int .i64 ((rd_T35 l0 x6_1).f3.f1), .slice A104_8 ((rd_T35 l0 x6_1).f3.f2).length c104_8] 35 (0, 0)) (kb_ BK105.out) hb)
        have n3_ := Aside0.mk (IsS90.below (by repeat (first | (with_reducible first | exact HI102.out | apply IsS90.alloc | apply IsS90.drewN | apply IsS90.drew | apply IsS90.set_0 | refine IsS90.far ?_ NB102_105.out (by repeat (first | exact Ty.mk BK105.out (by decide) | apply Ty.set)) _) | exact HI102.out)) hb)
        have n4_ := Aside0.mk (below_step (by repeat (first | (with_reducible first | exact HB.out | apply below_alloc | apply pw_below_drewN | apply below_drew1 | refine below_set ?_ (IsS90.ge HI102.out) | refine below_set ?_ GE105.out) | exact HB.out)) hb)
        have n5_ := Aside0.mk (hbox)
        have n6_ := Aside0.mk ((by rw [hg]; exact (below_size (by repeat (first | (with_reducible first | exact HB.out | apply below_alloc | apply pw_below_drewN | apply below_drew1 | refine below_set ?_ (IsS90.ge HI102.out) | refine below_set ?_ GE105.out) | exact HB.out))) : w.heap.size ≤ gb159))
        have n7_ := Aside0.mk ((by rw [hg]; exact (below_size (by repeat (first | (with_reducible first | exact HB.out | apply below_alloc | apply pw_below_drewN | apply below_drew1 | refine below_set ?_ (IsS90.ge HI102.out) | refine below_set ?_ GE105.out) | exact HB.out))) : w.heap.size ≤ gb159))
        have n8_ := Aside0.mk ((by rw [hg]; exact Nat.ne_of_lt (blk_lt (g := gb105) (o := .cells #[.int .i64 ((rd_T35 l0 x6_1).f0), .int .i64 ((rd_T35 l0 x6_1).f1), .int .i64 ((rd_T35 l0 x6_1).f2.f0.f0), .int .i64 ((rd_T35 l0 x6_1).f2.f0.f1), .bool ((rd_T35 l0 x6_1).f2.f1), .bool ((rd_T35 l0 x6_1).f2.f2), .int .i64 ((rd_T35 l0 x6_1).f3.f0), .int .i64 ((rd_T35 l0 x6_1).f3.f1), .slice A104_8 ((rd_T35 l0 x6_1).f3.f2).length c104_8] 35 (0, 0)) (kb_ BK105.out)) : gb105 ≠ gb159))
        have n9_ := Aside0.mk ((by rw [hg]; exact Nat.ne_of_gt (blk_lt (g := gb105) (o := .cells #[.int .i64 ((rd_T35 l0 x6_1).f0), .int .i64 ((rd_T35 l0 x6_1).f1), .int .i64 ((rd_T35 l0 x6_1).f2.f0.f0), .int .i64 ((rd_T35 l0 x6_1).f2.f0.f1), .bool ((rd_T35 l0 x6_1).f2.f1), .bool ((rd_T35 l0 x6_1).f2.f2), .int .i64 ((rd_T35 l0 x6_1).f3.f0), .int .i64 ((rd_T35 l0 x6_1).f3.f1), .slice A104_8 ((rd_T35 l0 x6_1).f3.f2).length c104_8] 35 (0, 0)) (kb_ BK105.out)) : gb159 ≠ gb105))
        have n10_ := Aside0.mk ((by rw [hg]; exact Nat.ne_of_lt (IsS90.lt (show IsS90 w _ g102 t151 from by repeat (first | (with_reducible first | exact HI102.out | apply IsS90.alloc | apply IsS90.drewN | apply IsS90.drew | apply IsS90.set_0 | refine IsS90.far ?_ NB102_105.out (by repeat (first | exact Ty.mk BK105.out (by decide) | apply Ty.set)) _) | exact HI102.out))) : g102 ≠ gb159))
        have n11_ := Aside0.mk ((by rw [hg]; exact Nat.ne_of_gt (IsS90.lt (show IsS90 w _ g102 t151 from by repeat (first | (with_reducible first | exact HI102.out | apply IsS90.alloc | apply IsS90.drewN | apply IsS90.drew | apply IsS90.set_0 | refine IsS90.far ?_ NB102_105.out (by repeat (first | exact Ty.mk BK105.out (by decide) | apply Ty.set)) _) | exact HI102.out))) : gb159 ≠ g102))
        clear HO_4 HO_14 BK105 HI102 HB
        have HO_4 := n0_
        have HO_14 := n1_
        have BK105 := n2_
        have HI102 := n3_
        have HB := n4_
        have BK159 := n5_
        have GW159 := n6_
        have GE159 := n7_
        have NB105_159 := n8_
        have NB159_105 := n9_
        have NB102_159 := n10_
        have NB159_102 := n11_
        clear n0_ n1_ n2_ n3_ n4_ n5_ n6_ n7_ n8_ n9_ n10_ n11_ hb hbox hg
        refine hK.out _ _ ⟨(blk_cell BK105.out 0).trans rfl, (blk_cell BK105.out 1).trans rfl, (blk_cell BK105.out 2).trans rfl, (blk_cell BK105.out 3).trans rfl, (blk_cell BK105.out 4).trans rfl, (blk_cell BK105.out 5).trans rfl, (blk_cell BK105.out 6).trans rfl, (blk_cell BK105.out 7).trans rfl, (blk_cell BK105.out 8).trans rfl, HS9_, HS10_, HS11_, HS12_, HS13_⟩ (fun hHeld => ?_)
        clear hK K; refine norm_ (a' := ?_) ?_ ?_; rotate_left
        · show Act.put _ (some 16) _ = _
          simp only [Act.put, List.setIfInBounds_toArray, List.set_cons_zero, List.set_cons_succ, i64_w, i32_w]
          rfl
        exact norm_ (by simp only [putAll, Act.put, List.setIfInBounds_toArray, List.set_cons_zero, List.set_cons_succ]) (hCont (gb159) _ ⟨hHeld, (rr_ HO_14.out), (rr_ HO_4.out), (kb_ BK105.out), (kb_ BK159.out), GW159.out, GE159.out, NB102_159.out, NB159_102.out, NB105_159.out, NB159_105.out, (by repeat (first | (with_reducible first | exact HI102.out | apply IsS90.alloc | apply IsS90.drewN | apply IsS90.drew | apply IsS90.set_0 | refine IsS90.far ?_ NB102_105.out (by repeat (first | exact Ty.mk BK105.out (by decide) | apply Ty.set)) _ | refine IsS90.far ?_ NB102_159.out (by repeat (first | exact Ty.mk BK159.out (by decide) | apply Ty.set)) _) | exact HI102.out)), (by repeat (first | (with_reducible first | exact HB.out | apply below_alloc | apply pw_below_drewN | apply below_drew1 | refine below_set ?_ (IsS90.ge HI102.out) | refine below_set ?_ GE105.out | refine below_set ?_ GE159.out) | exact HB.out))⟩)
      as_aux_lemma =>
      skip
      refine box_step ?hg (N := 16) ?hd (cs := #[.int .i64 0, .int .i64 0, .bool false, .bool false, .int .i64 0]) (t := 42) ?hr ?_; (case hd => rfl); (case hg => rfl); (case hr => first | (go_simp; done) | (go_simp; rfl))
      intro gb159 hg w107 hbox hb
      have HS9_ := (hb.cell (World.block_lt_of_cell? _ _ (hHeld.2.2.2.2.2.2.2.2.2.1))).trans (hHeld.2.2.2.2.2.2.2.2.2.1)
      have HS10_ := (hb.cell (World.block_lt_of_cell? _ _ (hHeld.2.2.2.2.2.2.2.2.2.2.1))).trans (hHeld.2.2.2.2.2.2.2.2.2.2.1)
      have HS11_ := (hb.cell (World.block_lt_of_cell? _ _ (hHeld.2.2.2.2.2.2.2.2.2.2.2.1))).trans (hHeld.2.2.2.2.2.2.2.2.2.2.2.1)
      have HS12_ := (hb.cell (World.block_lt_of_cell? _ _ (hHeld.2.2.2.2.2.2.2.2.2.2.2.2.1))).trans (hHeld.2.2.2.2.2.2.2.2.2.2.2.2.1)
      have HS13_ := (hb.cell (World.block_lt_of_cell? _ _ (hHeld.2.2.2.2.2.2.2.2.2.2.2.2.2))).trans (hHeld.2.2.2.2.2.2.2.2.2.2.2.2.2)
      have n0_ := Aside0.mk (Kd.R_below (Kd.R_elderB (rr_ HO_4.out) gb159 (Nat.le_of_eq hg.symm)) hb)
      have n1_ := Aside0.mk (Kd.R_below (Kd.R_elderB (rr_ HO_14.out) gb159 (Nat.le_of_eq hg.symm)) hb)
      have n2_ := Aside0.mk (blk_below (g := gb105) (o := .cells #[.int .i64 ((rd_T35 l0 x6_1).f0), .int .i64 ((rd_T35 l0 x6_1).f1), .int .i64 ((rd_T35 l0 x6_1).f2.f0.f0), .int .i64 ((rd_T35 l0 x6_1).f2.f0.f1), .bool ((rd_T35 l0 x6_1).f2.f1), .bool ((rd_T35 l0 x6_1).f2.f2), .int .i64 ((rd_T35 l0 x6_1).f3.f0), .int .i64 ((rd_T35 l0 x6_1).f3.f1), .slice A104_8 ((rd_T35 l0 x6_1).f3.f2).length c104_8] 35 (0, 0)) (kb_ BK105.out) hb)
      have n3_ := Aside0.mk (IsS90.below (by repeat (first | (with_reducible first | exact HI102.out | apply IsS90.alloc | apply IsS90.drewN | apply IsS90.drew | apply IsS90.set_0 | refine IsS90.far ?_ NB102_105.out (by repeat (first | exact Ty.mk BK105.out (by decide) | apply Ty.set)) _) | exact HI102.out)) hb)
      have n4_ := Aside0.mk (below_step (by repeat (first | (with_reducible first | exact HB.out | apply below_alloc | apply pw_below_drewN | apply below_drew1 | refine below_set ?_ (IsS90.ge HI102.out) | refine below_set ?_ GE105.out) | exact HB.out)) hb)
      have n5_ := Aside0.mk (hbox)
      have n6_ := Aside0.mk ((by rw [hg]; exact (below_size (by repeat (first | (with_reducible first | exact HB.out | apply below_alloc | apply pw_below_drewN | apply below_drew1 | refine below_set ?_ (IsS90.ge HI102.out) | refine below_set ?_ GE105.out) | exact HB.out))) : w.heap.size ≤ gb159))
      have n7_ := Aside0.mk ((by rw [hg]; exact (below_size (by repeat (first | (with_reducible first | exact HB.out | apply below_alloc | apply pw_below_drewN | apply below_drew1 | refine below_set ?_ (IsS90.ge HI102.out) | refine below_set ?_ GE105.out) | exact HB.out))) : w.heap.size ≤ gb159))
      have n8_ := Aside0.mk ((by rw [hg]; exact Nat.ne_of_lt (blk_lt (g := gb105) (o := .cells #[.int .i64 ((rd_T35 l0 x6_1).f0), .int .i64 ((rd_T35 l0 x6_1).f1), .int .i64 ((rd_T35 l0 x6_1).f2.f0.f0), .int .i64 ((rd_T35 l0 x6_1).f2.f0.f1), .bool ((rd_T35 l0 x6_1).f2.f1), .bool ((rd_T35 l0 x6_1).f2.f2), .int .i64 ((rd_T35 l0 x6_1).f3.f0), .int .i64 ((rd_T35 l0 x6_1).f3.f1), .slice A104_8 ((rd_T35 l0 x6_1).f3.f2).length c104_8] 35 (0, 0)) (kb_ BK105.out)) : gb105 ≠ gb159))
      have n9_ := Aside0.mk ((by rw [hg]; exact Nat.ne_of_gt (blk_lt (g := gb105) (o := .cells #[.int .i64 ((rd_T35 l0 x6_1).f0), .int .i64 ((rd_T35 l0 x6_1).f1), .int .i64 ((rd_T35 l0 x6_1).f2.f0.f0), .int .i64 ((rd_T35 l0 x6_1).f2.f0.f1), .bool ((rd_T35 l0 x6_1).f2.f1), .bool ((rd_T35 l0 x6_1).f2.f2), .int .i64 ((rd_T35 l0 x6_1).f3.f0), .int .i64 ((rd_T35 l0 x6_1).f3.f1), .slice A104_8 ((rd_T35 l0 x6_1).f3.f2).length c104_8] 35 (0, 0)) (kb_ BK105.out)) : gb159 ≠ gb105))
      have n10_ := Aside0.mk ((by rw [hg]; exact Nat.ne_of_lt (IsS90.lt (show IsS90 w _ g102 t151 from by repeat (first | (with_reducible first | exact HI102.out | apply IsS90.alloc | apply IsS90.drewN | apply IsS90.drew | apply IsS90.set_0 | refine IsS90.far ?_ NB102_105.out (by repeat (first | exact Ty.mk BK105.out (by decide) | apply Ty.set)) _) | exact HI102.out))) : g102 ≠ gb159))
      have n11_ := Aside0.mk ((by rw [hg]; exact Nat.ne_of_gt (IsS90.lt (show IsS90 w _ g102 t151 from by repeat (first | (with_reducible first | exact HI102.out | apply IsS90.alloc | apply IsS90.drewN | apply IsS90.drew | apply IsS90.set_0 | refine IsS90.far ?_ NB102_105.out (by repeat (first | exact Ty.mk BK105.out (by decide) | apply Ty.set)) _) | exact HI102.out))) : gb159 ≠ g102))
      clear HO_4 HO_14 BK105 HI102 HB
      have HO_4 := n0_
      have HO_14 := n1_
      have BK105 := n2_
      have HI102 := n3_
      have HB := n4_
      have BK159 := n5_
      have GW159 := n6_
      have GE159 := n7_
      have NB105_159 := n8_
      have NB159_105 := n9_
      have NB102_159 := n10_
      have NB159_102 := n11_
      clear n0_ n1_ n2_ n3_ n4_ n5_ n6_ n7_ n8_ n9_ n10_ n11_ hb hbox hg
      refine hK.out _ _ ⟨(blk_cell BK105.out 0).trans rfl, (blk_cell BK105.out 1).trans rfl, (blk_cell BK105.out 2).trans rfl, (blk_cell BK105.out 3).trans rfl, (blk_cell BK105.out 4).trans rfl, (blk_cell BK105.out 5).trans rfl, (blk_cell BK105.out 6).trans rfl, (blk_cell BK105.out 7).trans rfl, (blk_cell BK105.out 8).trans rfl, HS9_, HS10_, HS11_, HS12_, HS13_⟩ (fun hHeld => ?_)
      clear hK K; refine norm_ (a' := ?_) ?_ ?_; rotate_left
      · show Act.put _ (some 16) _ = _
        simp only [Act.put, List.setIfInBounds_toArray, List.set_cons_zero, List.set_cons_succ, i64_w, i32_w]
        rfl
      refine one_ (i := 6) (N := some 166) #[true, true, true, true, true, true, true, true, false] rfl rfl (one_of HT_.out (by kernel_rfl)) (by decide) (fun K hK => ?_)
      refine goes_ Try.func15 (by kernel_rfl) rfl #[.agg #[.int .i64 ((rd_T42 x4_1 x15_2).f0), .int .i64 ((rd_T42 x4_1 x15_2).f1), .bool ((rd_T42 x4_1 x15_2).f2), .bool ((rd_T42 x4_1 x15_2).f3), .int .i64 ((rd_T42 x4_1 x15_2).f4)], .agg #[.int .i64 ((rd_T35 l0 x6_1).f3.f0), .int .i64 ((rd_T35 l0 x6_1).f3.f1), .slice A104_8 ((rd_T35 l0 x6_1).f3.f2).length c104_8]] (by rfl) rfl rfl (by (try simp only [List.map_toArray, List.map_cons, List.map_nil]); first | done | rfl | (simp only [List.length_drop, List.length_take]; rfl)) ?_
      with_reducible refine (stylusref04_Move.calls ((rd_T42 x4_1 x15_2).f0) ((rd_T42 x4_1 x15_2).f1) ((rd_T42 x4_1 x15_2).f2) ((rd_T42 x4_1 x15_2).f3) ((rd_T42 x4_1 x15_2).f4) ((rd_T35 l0 x6_1).f3.f0) ((rd_T35 l0 x6_1).f3.f1) _ _ ((rd_T35 l0 x6_1).f3.f2) t154 t155 t156 t157 t158 _ ?side1 ?side2 A103.out).mono ?_
      (case side1 => repeat (first | exact (Kd.C_below HR104_8.out HB.out) | (with_reducible refine Kd.C_alloc ?_ _) | (with_reducible refine Kd.C_drewN ?_ _) | (with_reducible refine Kd.C_drew ?_))); (case side2 => exact HC104_8.out); rintro e w108 ⟨rfl, hb⟩
      have HS9_ := (hb.cell (World.block_lt_of_cell? _ _ (hHeld.2.2.2.2.2.2.2.2.2.1))).trans (hHeld.2.2.2.2.2.2.2.2.2.1)
      have HS10_ := (hb.cell (World.block_lt_of_cell? _ _ (hHeld.2.2.2.2.2.2.2.2.2.2.1))).trans (hHeld.2.2.2.2.2.2.2.2.2.2.1)
      have HS11_ := (hb.cell (World.block_lt_of_cell? _ _ (hHeld.2.2.2.2.2.2.2.2.2.2.2.1))).trans (hHeld.2.2.2.2.2.2.2.2.2.2.2.1)
      have HS12_ := (hb.cell (World.block_lt_of_cell? _ _ (hHeld.2.2.2.2.2.2.2.2.2.2.2.2.1))).trans (hHeld.2.2.2.2.2.2.2.2.2.2.2.2.1)
      have HS13_ := (hb.cell (World.block_lt_of_cell? _ _ (hHeld.2.2.2.2.2.2.2.2.2.2.2.2.2))).trans (hHeld.2.2.2.2.2.2.2.2.2.2.2.2.2)
      refine ⟨_, rfl, ?_⟩
      have n0_ := Aside0.mk (Kd.R_below (rr_ HO_4.out) hb)
      have n1_ := Aside0.mk (Kd.R_below (rr_ HO_14.out) hb)
      have n2_ := Aside0.mk (blk_below (g := gb105) (o := .cells #[.int .i64 ((rd_T35 l0 x6_1).f0), .int .i64 ((rd_T35 l0 x6_1).f1), .int .i64 ((rd_T35 l0 x6_1).f2.f0.f0), .int .i64 ((rd_T35 l0 x6_1).f2.f0.f1), .bool ((rd_T35 l0 x6_1).f2.f1), .bool ((rd_T35 l0 x6_1).f2.f2), .int .i64 ((rd_T35 l0 x6_1).f3.f0), .int .i64 ((rd_T35 l0 x6_1).f3.f1), .slice A104_8 ((rd_T35 l0 x6_1).f3.f2).length c104_8] 35 (0, 0)) (kb_ BK105.out) hb)
      have n3_ := Aside0.mk (IsS90.below (by repeat (first | (with_reducible first | exact HI102.out | apply IsS90.alloc | apply IsS90.drewN | apply IsS90.drew | apply IsS90.set_0 | refine IsS90.far ?_ NB102_105.out (by repeat (first | exact Ty.mk BK105.out (by decide) | apply Ty.set)) _ | refine IsS90.far ?_ NB102_159.out (by repeat (first | exact Ty.mk BK159.out (by decide) | apply Ty.set)) _) | exact HI102.out)) hb)
      have n4_ := Aside0.mk (blk_below (g := gb159) (o := .cells #[.int .i64 0, .int .i64 0, .bool false, .bool false, .int .i64 0] 42 (0, 0)) (kb_ BK159.out) hb)
      have n5_ := Aside0.mk (below_step (by repeat (first | (with_reducible first | exact HB.out | apply below_alloc | apply pw_below_drewN | apply below_drew1 | refine below_set ?_ (IsS90.ge HI102.out) | refine below_set ?_ GE105.out | refine below_set ?_ GE159.out) | exact HB.out)) hb)
      clear HO_4 HO_14 BK105 HI102 BK159 HB
      have HO_4 := n0_
      have HO_14 := n1_
      have BK105 := n2_
      have HI102 := n3_
      have BK159 := n4_
      have HB := n5_
      clear n0_ n1_ n2_ n3_ n4_ n5_; (try clear hb); (try clear hk); (try clear hi)
      refine hK.out _ _ ⟨(blk_cell BK105.out 0).trans rfl, (blk_cell BK105.out 1).trans rfl, (blk_cell BK105.out 2).trans rfl, (blk_cell BK105.out 3).trans rfl, (blk_cell BK105.out 4).trans rfl, (blk_cell BK105.out 5).trans rfl, (blk_cell BK105.out 6).trans rfl, (blk_cell BK105.out 7).trans rfl, (blk_cell BK105.out 8).trans rfl, HS9_, HS10_, HS11_, HS12_, HS13_⟩ (fun hHeld => ?_)
      clear hK K; refine norm_ (a' := ?_) ?_ ?_; rotate_left
      · show Act.put _ (some 166) _ = _
        simp only [Act.put, List.setIfInBounds_toArray, List.set_cons_zero, List.set_cons_succ, i64_w, i32_w]
        rfl
      exact norm_ (by simp only [putAll, Act.put, List.setIfInBounds_toArray, List.set_cons_zero, List.set_cons_succ]) (hCont (gb159) _ ⟨hHeld, (rr_ HO_14.out), (rr_ HO_4.out), (kb_ BK105.out), (kb_ BK159.out), GW159.out, GE159.out, NB102_159.out, NB159_102.out, NB105_159.out, NB159_105.out, (by repeat (first | (with_reducible first | exact HI102.out | apply IsS90.alloc | apply IsS90.drewN | apply IsS90.drew | apply IsS90.set_0 | refine IsS90.far ?_ NB102_105.out (by repeat (first | exact Ty.mk BK105.out (by decide) | apply Ty.set)) _ | refine IsS90.far ?_ NB102_159.out (by repeat (first | exact Ty.mk BK159.out (by decide) | apply Ty.set)) _) | exact HI102.out)), (by repeat (first | (with_reducible first | exact HB.out | apply below_alloc | apply pw_below_drewN | apply below_drew1 | refine below_set ?_ (IsS90.ge HI102.out) | refine below_set ?_ GE105.out | refine below_set ?_ GE159.out) | exact HB.out))⟩)
    rintro gb159 w109 ⟨hS_, h0_, h1_, h2_, h3_, h4_, h5_, h6_, h7_, h8_, h9_, h10_, h11_⟩
    have n0_ : Aside0 (Kd.R k42 42 w109 w.heap.size (fun k_ => some k_ ≠ (.slice (some ad153) x4_1.length co21 : Value).ownBlock ∧ k_ ≠ gb159) u14 x14_2) := ⟨h0_⟩
    have n1_ : Aside0 (Kd.R k42 42 w109 w.heap.size (fun k_ => some k_ ≠ (u14 : Value).ownBlock ∧ k_ ≠ gb159) (.slice (some ad153) x4_1.length co21) x4_1) := ⟨h1_⟩
    have n2_ : Aside0 (w109.heap[gb105]? = some (.cells #[.int .i64 ((rd_T35 l0 x6_1).f0), .int .i64 ((rd_T35 l0 x6_1).f1), .int .i64 ((rd_T35 l0 x6_1).f2.f0.f0), .int .i64 ((rd_T35 l0 x6_1).f2.f0.f1), .bool ((rd_T35 l0 x6_1).f2.f1), .bool ((rd_T35 l0 x6_1).f2.f2), .int .i64 ((rd_T35 l0 x6_1).f3.f0), .int .i64 ((rd_T35 l0 x6_1).f3.f1), .slice A104_8 ((rd_T35 l0 x6_1).f3.f2).length c104_8] 35 (0, 0))) := ⟨h2_⟩
    have n3_ : Aside0 (w109.heap[gb159]? = some (.cells #[.int .i64 0, .int .i64 0, .bool false, .bool false, .int .i64 0] 42 (0, 0))) := ⟨h3_⟩
    have n4_ : Aside0 (w.heap.size ≤ gb159) := ⟨h4_⟩
    have n5_ : Aside0 (w.heap.size ≤ gb159) := ⟨h5_⟩
    have n6_ : Aside0 (g102 ≠ gb159) := ⟨h6_⟩
    have n7_ : Aside0 (gb159 ≠ g102) := ⟨h7_⟩
    have n8_ : Aside0 (gb105 ≠ gb159) := ⟨h8_⟩
    have n9_ : Aside0 (gb159 ≠ gb105) := ⟨h9_⟩
    have n10_ : Aside0 (IsS90 w w109 g102 t151) := ⟨h10_⟩
    have n11_ : Aside0 (Below w.heap.size w w109) := ⟨h11_⟩
    clear HO_4 HO_14 BK105 HI102 HB h0_ h1_ h2_ h3_ h4_ h5_ h6_ h7_ h8_ h9_ h10_ h11_
    have HO_14 := n0_
    have HO_4 := n1_
    have BK105 := n2_
    have BK159 := n3_
    have GW159 := n4_
    have GE159 := n5_
    have NB102_159 := n6_
    have NB159_102 := n7_
    have NB105_159 := n8_
    have NB159_105 := n9_
    have HI102 := n10_
    have HB := n11_
    clear n0_ n1_ n2_ n3_ n4_ n5_ n6_ n7_ n8_ n9_ n10_ n11_
    have hHeld : w109.cell? ⟨gb105, 0, none⟩ = some (.int .i64 ((rd_T35 l0 x6_1).f0)) ∧ w109.cell? ⟨gb105, 1, none⟩ = some (.int .i64 ((rd_T35 l0 x6_1).f1)) ∧ w109.cell? ⟨gb105, 2, none⟩ = some (.int .i64 ((rd_T35 l0 x6_1).f2.f0.f0)) ∧ w109.cell? ⟨gb105, 3, none⟩ = some (.int .i64 ((rd_T35 l0 x6_1).f2.f0.f1)) ∧ w109.cell? ⟨gb105, 4, none⟩ = some (.bool ((rd_T35 l0 x6_1).f2.f1)) ∧ w109.cell? ⟨gb105, 5, none⟩ = some (.bool ((rd_T35 l0 x6_1).f2.f2)) ∧ w109.cell? ⟨gb105, 6, none⟩ = some (.int .i64 ((rd_T35 l0 x6_1).f3.f0)) ∧ w109.cell? ⟨gb105, 7, none⟩ = some (.int .i64 ((rd_T35 l0 x6_1).f3.f1)) ∧ w109.cell? ⟨gb105, 8, none⟩ = some (.slice A104_8 ((rd_T35 l0 x6_1).f3.f2).length c104_8) ∧ w109.cell? (ad153.add ((x15_2).toNat * 5)) = some (.int .i64 ((rd_T42 x4_1 x15_2).f0)) ∧ w109.cell? ⟨(ad153.add ((x15_2).toNat * 5)).block, (ad153.add ((x15_2).toNat * 5)).off + 1, none⟩ = some (.int .i64 ((rd_T42 x4_1 x15_2).f1)) ∧ w109.cell? ⟨(ad153.add ((x15_2).toNat * 5)).block, (ad153.add ((x15_2).toNat * 5)).off + 2, none⟩ = some (.bool ((rd_T42 x4_1 x15_2).f2)) ∧ w109.cell? ⟨(ad153.add ((x15_2).toNat * 5)).block, (ad153.add ((x15_2).toNat * 5)).off + 3, none⟩ = some (.bool ((rd_T42 x4_1 x15_2).f3)) ∧ w109.cell? ⟨(ad153.add ((x15_2).toNat * 5)).block, (ad153.add ((x15_2).toNat * 5)).off + 4, none⟩ = some (.int .i64 ((rd_T42 x4_1 x15_2).f4)) := hS_
    refine norm_ (a' := ?_) ?_ ?_; rotate_left
    · simp only [putAll, Act.put, List.setIfInBounds_toArray, List.set_cons_zero, List.set_cons_succ]
      rfl
    refine one_ (i := 8) (N := none) #[true, true, true, true, true, true, true, true, true] rfl rfl (one_of HT_.out (by kernel_rfl)) (by decide) (fun K hK => ?_)
    have hs110 : w109.cell? ⟨gb159, 0, none⟩ = some (.int .i64 0) := (blk_cell BK159.out 0).trans rfl
    have hfs110 := blk_frozen BK159.out 0
    have hns110_0 := NB105_159.out
    have hms110_0 := NB159_105.out
    have hs111 : w109.cell? ⟨gb159, 1, none⟩ = some (.int .i64 0) := (blk_cell BK159.out 1).trans rfl
    have hfs111 := blk_frozen BK159.out 1
    have hns111_0 := NB105_159.out
    have hms111_0 := NB159_105.out
    have hs112 : w109.cell? ⟨gb159, 2, none⟩ = some (.bool false) := (blk_cell BK159.out 2).trans rfl
    have hfs112 := blk_frozen BK159.out 2
    have hns112_0 := NB105_159.out
    have hms112_0 := NB159_105.out
    have hs113 : w109.cell? ⟨gb159, 3, none⟩ = some (.bool false) := (blk_cell BK159.out 3).trans rfl
    have hfs113 := blk_frozen BK159.out 3
    have hns113_0 := NB105_159.out
    have hms113_0 := NB159_105.out
    have hs114 : w109.cell? ⟨gb159, 4, none⟩ = some (.int .i64 0) := (blk_cell BK159.out 4).trans rfl
    have hfs114 := blk_frozen BK159.out 4
    have hns114_0 := NB105_159.out
    have hms114_0 := NB159_105.out
    refine skip_ (w1 := ?_) (by rfl) rfl ?_ ?_
    rotate_left
    · go_simp
      rfl
    refine hK.out _ _ ⟨((cell_far (p := ⟨gb159, _, none⟩) NB105_159.out _).trans (((cell_far (p := ⟨gb159, _, none⟩) NB105_159.out _).trans (((cell_far (p := ⟨gb159, _, none⟩) NB105_159.out _).trans (((cell_far (p := ⟨gb159, _, none⟩) NB105_159.out _).trans (((cell_far (p := ⟨gb159, _, none⟩) NB105_159.out _).trans (hHeld.1)))))))))), ((cell_far (p := ⟨gb159, _, none⟩) NB105_159.out _).trans (((cell_far (p := ⟨gb159, _, none⟩) NB105_159.out _).trans (((cell_far (p := ⟨gb159, _, none⟩) NB105_159.out _).trans (((cell_far (p := ⟨gb159, _, none⟩) NB105_159.out _).trans (((cell_far (p := ⟨gb159, _, none⟩) NB105_159.out _).trans (hHeld.2.1)))))))))), ((cell_far (p := ⟨gb159, _, none⟩) NB105_159.out _).trans (((cell_far (p := ⟨gb159, _, none⟩) NB105_159.out _).trans (((cell_far (p := ⟨gb159, _, none⟩) NB105_159.out _).trans (((cell_far (p := ⟨gb159, _, none⟩) NB105_159.out _).trans (((cell_far (p := ⟨gb159, _, none⟩) NB105_159.out _).trans (hHeld.2.2.1)))))))))), ((cell_far (p := ⟨gb159, _, none⟩) NB105_159.out _).trans (((cell_far (p := ⟨gb159, _, none⟩) NB105_159.out _).trans (((cell_far (p := ⟨gb159, _, none⟩) NB105_159.out _).trans (((cell_far (p := ⟨gb159, _, none⟩) NB105_159.out _).trans (((cell_far (p := ⟨gb159, _, none⟩) NB105_159.out _).trans (hHeld.2.2.2.1)))))))))), ((cell_far (p := ⟨gb159, _, none⟩) NB105_159.out _).trans (((cell_far (p := ⟨gb159, _, none⟩) NB105_159.out _).trans (((cell_far (p := ⟨gb159, _, none⟩) NB105_159.out _).trans (((cell_far (p := ⟨gb159, _, none⟩) NB105_159.out _).trans (((cell_far (p := ⟨gb159, _, none⟩) NB105_159.out _).trans (hHeld.2.2.2.2.1)))))))))), ((cell_far (p := ⟨gb159, _, none⟩) NB105_159.out _).trans (((cell_far (p := ⟨gb159, _, none⟩) NB105_159.out _).trans (((cell_far (p := ⟨gb159, _, none⟩) NB105_159.out _).trans (((cell_far (p := ⟨gb159, _, none⟩) NB105_159.out _).trans (((cell_far (p := ⟨gb159, _, none⟩) NB105_159.out _).trans (hHeld.2.2.2.2.2.1)))))))))), ((cell_far (p := ⟨gb159, _, none⟩) NB105_159.out _).trans (((cell_far (p := ⟨gb159, _, none⟩) NB105_159.out _).trans (((cell_far (p := ⟨gb159, _, none⟩) NB105_159.out _).trans (((cell_far (p := ⟨gb159, _, none⟩) NB105_159.out _).trans (((cell_far (p := ⟨gb159, _, none⟩) NB105_159.out _).trans (hHeld.2.2.2.2.2.2.1)))))))))), ((cell_far (p := ⟨gb159, _, none⟩) NB105_159.out _).trans (((cell_far (p := ⟨gb159, _, none⟩) NB105_159.out _).trans (((cell_far (p := ⟨gb159, _, none⟩) NB105_159.out _).trans (((cell_far (p := ⟨gb159, _, none⟩) NB105_159.out _).trans (((cell_far (p := ⟨gb159, _, none⟩) NB105_159.out _).trans (hHeld.2.2.2.2.2.2.2.1)))))))))), ((cell_far (p := ⟨gb159, _, none⟩) NB105_159.out _).trans (((cell_far (p := ⟨gb159, _, none⟩) NB105_159.out _).trans (((cell_far (p := ⟨gb159, _, none⟩) NB105_159.out _).trans (((cell_far (p := ⟨gb159, _, none⟩) NB105_159.out _).trans (((cell_far (p := ⟨gb159, _, none⟩) NB105_159.out _).trans (hHeld.2.2.2.2.2.2.2.2.1)))))))))), ((cell_far (p := ⟨gb159, _, none⟩) (by first | exact Kd.own_blk (Kd.R_away HO_4.out (fun _ hk => hk.2)) | (rw [add_block]; exact Kd.own_blk (Kd.R_away HO_4.out (fun _ hk => hk.2))) | (show (Addr.add _ _).block ≠ _; rw [add_block]; exact Kd.own_blk (Kd.R_away HO_4.out (fun _ hk => hk.2))) | (dsimp only; exact Kd.own_blk (Kd.R_away HO_4.out (fun _ hk => hk.2)))) _).trans (((cell_far (p := ⟨gb159, _, none⟩) (by first | exact Kd.own_blk (Kd.R_away HO_4.out (fun _ hk => hk.2)) | (rw [add_block]; exact Kd.own_blk (Kd.R_away HO_4.out (fun _ hk => hk.2))) | (show (Addr.add _ _).block ≠ _; rw [add_block]; exact Kd.own_blk (Kd.R_away HO_4.out (fun _ hk => hk.2))) | (dsimp only; exact Kd.own_blk (Kd.R_away HO_4.out (fun _ hk => hk.2)))) _).trans (((cell_far (p := ⟨gb159, _, none⟩) (by first | exact Kd.own_blk (Kd.R_away HO_4.out (fun _ hk => hk.2)) | (rw [add_block]; exact Kd.own_blk (Kd.R_away HO_4.out (fun _ hk => hk.2))) | (show (Addr.add _ _).block ≠ _; rw [add_block]; exact Kd.own_blk (Kd.R_away HO_4.out (fun _ hk => hk.2))) | (dsimp only; exact Kd.own_blk (Kd.R_away HO_4.out (fun _ hk => hk.2)))) _).trans (((cell_far (p := ⟨gb159, _, none⟩) (by first | exact Kd.own_blk (Kd.R_away HO_4.out (fun _ hk => hk.2)) | (rw [add_block]; exact Kd.own_blk (Kd.R_away HO_4.out (fun _ hk => hk.2))) | (show (Addr.add _ _).block ≠ _; rw [add_block]; exact Kd.own_blk (Kd.R_away HO_4.out (fun _ hk => hk.2))) | (dsimp only; exact Kd.own_blk (Kd.R_away HO_4.out (fun _ hk => hk.2)))) _).trans (((cell_far (p := ⟨gb159, _, none⟩) (by first | exact Kd.own_blk (Kd.R_away HO_4.out (fun _ hk => hk.2)) | (rw [add_block]; exact Kd.own_blk (Kd.R_away HO_4.out (fun _ hk => hk.2))) | (show (Addr.add _ _).block ≠ _; rw [add_block]; exact Kd.own_blk (Kd.R_away HO_4.out (fun _ hk => hk.2))) | (dsimp only; exact Kd.own_blk (Kd.R_away HO_4.out (fun _ hk => hk.2)))) _).trans (hHeld.2.2.2.2.2.2.2.2.2.1)))))))))), ((cell_far (p := ⟨gb159, _, none⟩) (by first | exact Kd.own_blk (Kd.R_away HO_4.out (fun _ hk => hk.2)) | (rw [add_block]; exact Kd.own_blk (Kd.R_away HO_4.out (fun _ hk => hk.2))) | (show (Addr.add _ _).block ≠ _; rw [add_block]; exact Kd.own_blk (Kd.R_away HO_4.out (fun _ hk => hk.2))) | (dsimp only; exact Kd.own_blk (Kd.R_away HO_4.out (fun _ hk => hk.2)))) _).trans (((cell_far (p := ⟨gb159, _, none⟩) (by first | exact Kd.own_blk (Kd.R_away HO_4.out (fun _ hk => hk.2)) | (rw [add_block]; exact Kd.own_blk (Kd.R_away HO_4.out (fun _ hk => hk.2))) | (show (Addr.add _ _).block ≠ _; rw [add_block]; exact Kd.own_blk (Kd.R_away HO_4.out (fun _ hk => hk.2))) | (dsimp only; exact Kd.own_blk (Kd.R_away HO_4.out (fun _ hk => hk.2)))) _).trans (((cell_far (p := ⟨gb159, _, none⟩) (by first | exact Kd.own_blk (Kd.R_away HO_4.out (fun _ hk => hk.2)) | (rw [add_block]; exact Kd.own_blk (Kd.R_away HO_4.out (fun _ hk => hk.2))) | (show (Addr.add _ _).block ≠ _; rw [add_block]; exact Kd.own_blk (Kd.R_away HO_4.out (fun _ hk => hk.2))) | (dsimp only; exact Kd.own_blk (Kd.R_away HO_4.out (fun _ hk => hk.2)))) _).trans (((cell_far (p := ⟨gb159, _, none⟩) (by first | exact Kd.own_blk (Kd.R_away HO_4.out (fun _ hk => hk.2)) | (rw [add_block]; exact Kd.own_blk (Kd.R_away HO_4.out (fun _ hk => hk.2))) | (show (Addr.add _ _).block ≠ _; rw [add_block]; exact Kd.own_blk (Kd.R_away HO_4.out (fun _ hk => hk.2))) | (dsimp only; exact Kd.own_blk (Kd.R_away HO_4.out (fun _ hk => hk.2)))) _).trans (((cell_far (p := ⟨gb159, _, none⟩) (by first | exact Kd.own_blk (Kd.R_away HO_4.out (fun _ hk => hk.2)) | (rw [add_block]; exact Kd.own_blk (Kd.R_away HO_4.out (fun _ hk => hk.2))) | (show (Addr.add _ _).block ≠ _; rw [add_block]; exact Kd.own_blk (Kd.R_away HO_4.out (fun _ hk => hk.2))) | (dsimp only; exact Kd.own_blk (Kd.R_away HO_4.out (fun _ hk => hk.2)))) _).trans (hHeld.2.2.2.2.2.2.2.2.2.2.1)))))))))), ((cell_far (p := ⟨gb159, _, none⟩) (by first | exact Kd.own_blk (Kd.R_away HO_4.out (fun _ hk => hk.2)) | (rw [add_block]; exact Kd.own_blk (Kd.R_away HO_4.out (fun _ hk => hk.2))) | (show (Addr.add _ _).block ≠ _; rw [add_block]; exact Kd.own_blk (Kd.R_away HO_4.out (fun _ hk => hk.2))) | (dsimp only; exact Kd.own_blk (Kd.R_away HO_4.out (fun _ hk => hk.2)))) _).trans (((cell_far (p := ⟨gb159, _, none⟩) (by first | exact Kd.own_blk (Kd.R_away HO_4.out (fun _ hk => hk.2)) | (rw [add_block]; exact Kd.own_blk (Kd.R_away HO_4.out (fun _ hk => hk.2))) | (show (Addr.add _ _).block ≠ _; rw [add_block]; exact Kd.own_blk (Kd.R_away HO_4.out (fun _ hk => hk.2))) | (dsimp only; exact Kd.own_blk (Kd.R_away HO_4.out (fun _ hk => hk.2)))) _).trans (((cell_far (p := ⟨gb159, _, none⟩) (by first | exact Kd.own_blk (Kd.R_away HO_4.out (fun _ hk => hk.2)) | (rw [add_block]; exact Kd.own_blk (Kd.R_away HO_4.out (fun _ hk => hk.2))) | (show (Addr.add _ _).block ≠ _; rw [add_block]; exact Kd.own_blk (Kd.R_away HO_4.out (fun _ hk => hk.2))) | (dsimp only; exact Kd.own_blk (Kd.R_away HO_4.out (fun _ hk => hk.2)))) _).trans (((cell_far (p := ⟨gb159, _, none⟩) (by first | exact Kd.own_blk (Kd.R_away HO_4.out (fun _ hk => hk.2)) | (rw [add_block]; exact Kd.own_blk (Kd.R_away HO_4.out (fun _ hk => hk.2))) | (show (Addr.add _ _).block ≠ _; rw [add_block]; exact Kd.own_blk (Kd.R_away HO_4.out (fun _ hk => hk.2))) | (dsimp only; exact Kd.own_blk (Kd.R_away HO_4.out (fun _ hk => hk.2)))) _).trans (((cell_far (p := ⟨gb159, _, none⟩) (by first | exact Kd.own_blk (Kd.R_away HO_4.out (fun _ hk => hk.2)) | (rw [add_block]; exact Kd.own_blk (Kd.R_away HO_4.out (fun _ hk => hk.2))) | (show (Addr.add _ _).block ≠ _; rw [add_block]; exact Kd.own_blk (Kd.R_away HO_4.out (fun _ hk => hk.2))) | (dsimp only; exact Kd.own_blk (Kd.R_away HO_4.out (fun _ hk => hk.2)))) _).trans (hHeld.2.2.2.2.2.2.2.2.2.2.2.1)))))))))), ((cell_far (p := ⟨gb159, _, none⟩) (by first | exact Kd.own_blk (Kd.R_away HO_4.out (fun _ hk => hk.2)) | (rw [add_block]; exact Kd.own_blk (Kd.R_away HO_4.out (fun _ hk => hk.2))) | (show (Addr.add _ _).block ≠ _; rw [add_block]; exact Kd.own_blk (Kd.R_away HO_4.out (fun _ hk => hk.2))) | (dsimp only; exact Kd.own_blk (Kd.R_away HO_4.out (fun _ hk => hk.2)))) _).trans (((cell_far (p := ⟨gb159, _, none⟩) (by first | exact Kd.own_blk (Kd.R_away HO_4.out (fun _ hk => hk.2)) | (rw [add_block]; exact Kd.own_blk (Kd.R_away HO_4.out (fun _ hk => hk.2))) | (show (Addr.add _ _).block ≠ _; rw [add_block]; exact Kd.own_blk (Kd.R_away HO_4.out (fun _ hk => hk.2))) | (dsimp only; exact Kd.own_blk (Kd.R_away HO_4.out (fun _ hk => hk.2)))) _).trans (((cell_far (p := ⟨gb159, _, none⟩) (by first | exact Kd.own_blk (Kd.R_away HO_4.out (fun _ hk => hk.2)) | (rw [add_block]; exact Kd.own_blk (Kd.R_away HO_4.out (fun _ hk => hk.2))) | (show (Addr.add _ _).block ≠ _; rw [add_block]; exact Kd.own_blk (Kd.R_away HO_4.out (fun _ hk => hk.2))) | (dsimp only; exact Kd.own_blk (Kd.R_away HO_4.out (fun _ hk => hk.2)))) _).trans (((cell_far (p := ⟨gb159, _, none⟩) (by first | exact Kd.own_blk (Kd.R_away HO_4.out (fun _ hk => hk.2)) | (rw [add_block]; exact Kd.own_blk (Kd.R_away HO_4.out (fun _ hk => hk.2))) | (show (Addr.add _ _).block ≠ _; rw [add_block]; exact Kd.own_blk (Kd.R_away HO_4.out (fun _ hk => hk.2))) | (dsimp only; exact Kd.own_blk (Kd.R_away HO_4.out (fun _ hk => hk.2)))) _).trans (((cell_far (p := ⟨gb159, _, none⟩) (by first | exact Kd.own_blk (Kd.R_away HO_4.out (fun _ hk => hk.2)) | (rw [add_block]; exact Kd.own_blk (Kd.R_away HO_4.out (fun _ hk => hk.2))) | (show (Addr.add _ _).block ≠ _; rw [add_block]; exact Kd.own_blk (Kd.R_away HO_4.out (fun _ hk => hk.2))) | (dsimp only; exact Kd.own_blk (Kd.R_away HO_4.out (fun _ hk => hk.2)))) _).trans (hHeld.2.2.2.2.2.2.2.2.2.2.2.2.1)))))))))), ((cell_far (p := ⟨gb159, _, none⟩) (by first | exact Kd.own_blk (Kd.R_away HO_4.out (fun _ hk => hk.2)) | (rw [add_block]; exact Kd.own_blk (Kd.R_away HO_4.out (fun _ hk => hk.2))) | (show (Addr.add _ _).block ≠ _; rw [add_block]; exact Kd.own_blk (Kd.R_away HO_4.out (fun _ hk => hk.2))) | (dsimp only; exact Kd.own_blk (Kd.R_away HO_4.out (fun _ hk => hk.2)))) _).trans (((cell_far (p := ⟨gb159, _, none⟩) (by first | exact Kd.own_blk (Kd.R_away HO_4.out (fun _ hk => hk.2)) | (rw [add_block]; exact Kd.own_blk (Kd.R_away HO_4.out (fun _ hk => hk.2))) | (show (Addr.add _ _).block ≠ _; rw [add_block]; exact Kd.own_blk (Kd.R_away HO_4.out (fun _ hk => hk.2))) | (dsimp only; exact Kd.own_blk (Kd.R_away HO_4.out (fun _ hk => hk.2)))) _).trans (((cell_far (p := ⟨gb159, _, none⟩) (by first | exact Kd.own_blk (Kd.R_away HO_4.out (fun _ hk => hk.2)) | (rw [add_block]; exact Kd.own_blk (Kd.R_away HO_4.out (fun _ hk => hk.2))) | (show (Addr.add _ _).block ≠ _; rw [add_block]; exact Kd.own_blk (Kd.R_away HO_4.out (fun _ hk => hk.2))) | (dsimp only; exact Kd.own_blk (Kd.R_away HO_4.out (fun _ hk => hk.2)))) _).trans (((cell_far (p := ⟨gb159, _, none⟩) (by first | exact Kd.own_blk (Kd.R_away HO_4.out (fun _ hk => hk.2)) | (rw [add_block]; exact Kd.own_blk (Kd.R_away HO_4.out (fun _ hk => hk.2))) | (show (Addr.add _ _).block ≠ _; rw [add_block]; exact Kd.own_blk (Kd.R_away HO_4.out (fun _ hk => hk.2))) | (dsimp only; exact Kd.own_blk (Kd.R_away HO_4.out (fun _ hk => hk.2)))) _).trans (((cell_far (p := ⟨gb159, _, none⟩) (by first | exact Kd.own_blk (Kd.R_away HO_4.out (fun _ hk => hk.2)) | (rw [add_block]; exact Kd.own_blk (Kd.R_away HO_4.out (fun _ hk => hk.2))) | (show (Addr.add _ _).block ≠ _; rw [add_block]; exact Kd.own_blk (Kd.R_away HO_4.out (fun _ hk => hk.2))) | (dsimp only; exact Kd.own_blk (Kd.R_away HO_4.out (fun _ hk => hk.2)))) _).trans (hHeld.2.2.2.2.2.2.2.2.2.2.2.2.2))))))))))⟩ (fun hHeld => ?_)
    clear hK K
    refine done_ (done_of HT_.out (by kernel_rfl)) ?_
    have hnb115 := NB159_105.out
    have hnc115 := NB105_159.out
    have hnb116 := NB159_102.out
    have hnc116 := NB102_159.out
    have hcz117_0 : w109.cell? ⟨gb159, 0, none⟩ = some (.int .i64 0) := (blk_cell BK159.out 0).trans rfl
    have hcz117_1 : w109.cell? ⟨gb159, 1, none⟩ = some (.int .i64 0) := (blk_cell BK159.out 1).trans rfl
    have hcz117_2 : w109.cell? ⟨gb159, 2, none⟩ = some (.bool false) := (blk_cell BK159.out 2).trans rfl
    have hcz117_3 : w109.cell? ⟨gb159, 3, none⟩ = some (.bool false) := (blk_cell BK159.out 3).trans rfl
    have hcz117_4 : w109.cell? ⟨gb159, 4, none⟩ = some (.int .i64 0) := (blk_cell BK159.out 4).trans rfl
    have hfz117_0 := blk_frozen BK159.out 0
    have hfz117_1 := blk_frozen BK159.out 1
    have hfz117_2 := blk_frozen BK159.out 2
    have hfz117_3 := blk_frozen BK159.out 3
    have hfz117_4 := blk_frozen BK159.out 4
    try go_wp2_with (first | ((with_reducible refine gate_callee (f := 10) rfl ?_); refine goesL_ (some 168) rfl rfl Try.func10 (by kernel_rfl) rfl #[.agg #[.int .i64 t154, .int .i64 t155, .bool t156, .bool t157, .int .i64 t158]] rfl (by (try simp only [List.map_toArray, List.map_cons, List.map_nil]); first | done | rfl | (simp only [List.length_drop, List.length_take]; rfl)) ?_; (with_reducible refine (stylusref04_May.calls t154 t155 t156 t157 t158 t160 _ A104.out).mono ?_); rintro e w118 ⟨rfl, hb⟩; refine ⟨_, rfl, ?_⟩; have n0_ := Aside0.mk (Kd.R_below (rr_ ((Kd.R_mono (Kd.R_far (p := ⟨gb159, 4, none⟩) (Kd.R_far (p := ⟨gb159, 3, none⟩) (Kd.R_far (p := ⟨gb159, 2, none⟩) (Kd.R_far (p := ⟨gb159, 1, none⟩) (Kd.R_far (p := ⟨gb159, 0, none⟩) (Kd.R_mono HO_4.out (fun k_ hk => (⟨hk, hk.2⟩ : _ ∧ k_ ≠ gb159))) (fun _ hk => hk.2) (.int .i64 t154)) (fun _ hk => hk.2) (.int .i64 t155)) (fun _ hk => hk.2) (.bool t156)) (fun _ hk => hk.2) (.bool t157)) (fun _ hk => hk.2) (.int .i64 t158)) (fun _ h_ => h_.1)))) hb); have n1_ := Aside0.mk (Kd.R_below (rr_ ((Kd.R_mono (Kd.R_far (p := ⟨gb159, 4, none⟩) (Kd.R_far (p := ⟨gb159, 3, none⟩) (Kd.R_far (p := ⟨gb159, 2, none⟩) (Kd.R_far (p := ⟨gb159, 1, none⟩) (Kd.R_far (p := ⟨gb159, 0, none⟩) (Kd.R_mono HO_14.out (fun k_ hk => (⟨hk, hk.2⟩ : _ ∧ k_ ≠ gb159))) (fun _ hk => hk.2) (.int .i64 t154)) (fun _ hk => hk.2) (.int .i64 t155)) (fun _ hk => hk.2) (.bool t156)) (fun _ hk => hk.2) (.bool t157)) (fun _ hk => hk.2) (.int .i64 t158)) (fun _ h_ => h_.1)))) hb); have n2_ := Aside0.mk (blk_below (g := gb105) (o := .cells #[.int .i64 ((rd_T35 l0 x6_1).f0), .int .i64 ((rd_T35 l0 x6_1).f1), .int .i64 ((rd_T35 l0 x6_1).f2.f0.f0), .int .i64 ((rd_T35 l0 x6_1).f2.f0.f1), .bool ((rd_T35 l0 x6_1).f2.f1), .bool ((rd_T35 l0 x6_1).f2.f2), .int .i64 ((rd_T35 l0 x6_1).f3.f0), .int .i64 ((rd_T35 l0 x6_1).f3.f1), .slice A104_8 ((rd_T35 l0 x6_1).f3.f2).length c104_8] 35 (0, 0)) (by (with_reducible repeat (first | refine blk_drewN ?_ _ | refine blk_drew ?_ | refine blk_alloc ?_ _)); refine blk_far ?_ NB105_159.out _; (with_reducible repeat (first | refine blk_drewN ?_ _ | refine blk_drew ?_ | refine blk_alloc ?_ _)); refine blk_far ?_ NB105_159.out _; (with_reducible repeat (first | refine blk_drewN ?_ _ | refine blk_drew ?_ | refine blk_alloc ?_ _)); refine blk_far ?_ NB105_159.out _; (with_reducible repeat (first | refine blk_drewN ?_ _ | refine blk_drew ?_ | refine blk_alloc ?_ _)); refine blk_far ?_ NB105_159.out _; (with_reducible repeat (first | refine blk_drewN ?_ _ | refine blk_drew ?_ | refine blk_alloc ?_ _)); refine blk_far ?_ NB105_159.out _; (with_reducible repeat (first | refine blk_drewN ?_ _ | refine blk_drew ?_ | refine blk_alloc ?_ _)); exact BK105.out) hb); have n3_ := Aside0.mk (IsS90.below (show IsS90 w (((((w109.setCell ⟨gb159, 0, none⟩ (.int .i64 t154)).setCell ⟨gb159, 1, none⟩ (.int .i64 t155)).setCell ⟨gb159, 2, none⟩ (.bool t156)).setCell ⟨gb159, 3, none⟩ (.bool t157)).setCell ⟨gb159, 4, none⟩ (.int .i64 t158)) g102 t151 from by repeat (first | (with_reducible first | exact HI102.out | apply IsS90.alloc | apply IsS90.drewN | apply IsS90.drew | apply IsS90.set_0 | refine IsS90.far ?_ NB102_105.out (by repeat (first | exact Ty.mk BK105.out (by decide) | apply Ty.set)) _ | refine IsS90.far ?_ NB102_159.out (by repeat (first | exact Ty.mk BK159.out (by decide) | apply Ty.set)) _) | exact HI102.out)) hb); have n4_ := Aside0.mk (blk_below (g := gb159) (o := .cells #[.int .i64 t154, .int .i64 t155, .bool t156, .bool t157, .int .i64 t158] 42 (0, 0)) (by (with_reducible repeat (first | refine blk_drewN ?_ _ | refine blk_drew ?_ | refine blk_alloc ?_ _)); refine blk_put (cs := #[.int .i64 t154, .int .i64 t155, .bool t156, .bool t157, .int .i64 0]) ?_ 4 _ rfl; (with_reducible repeat (first | refine blk_drewN ?_ _ | refine blk_drew ?_ | refine blk_alloc ?_ _)); refine blk_put (cs := #[.int .i64 t154, .int .i64 t155, .bool t156, .bool false, .int .i64 0]) ?_ 3 _ rfl; (with_reducible repeat (first | refine blk_drewN ?_ _ | refine blk_drew ?_ | refine blk_alloc ?_ _)); refine blk_put (cs := #[.int .i64 t154, .int .i64 t155, .bool false, .bool false, .int .i64 0]) ?_ 2 _ rfl; (with_reducible repeat (first | refine blk_drewN ?_ _ | refine blk_drew ?_ | refine blk_alloc ?_ _)); refine blk_put (cs := #[.int .i64 t154, .int .i64 0, .bool false, .bool false, .int .i64 0]) ?_ 1 _ rfl; (with_reducible repeat (first | refine blk_drewN ?_ _ | refine blk_drew ?_ | refine blk_alloc ?_ _)); refine blk_put (cs := #[.int .i64 0, .int .i64 0, .bool false, .bool false, .int .i64 0]) ?_ 0 _ rfl; (with_reducible repeat (first | refine blk_drewN ?_ _ | refine blk_drew ?_ | refine blk_alloc ?_ _)); exact BK159.out) hb); have n5_ := Aside0.mk (below_step (by repeat (first | (with_reducible first | exact HB.out | apply below_alloc | apply pw_below_drewN | apply below_drew1 | refine below_set ?_ (IsS90.ge HI102.out) | refine below_set ?_ GE105.out | refine below_set ?_ GE159.out) | exact HB.out)) hb); clear HO_4; clear HO_14; clear BK105; clear HI102; clear BK159; clear HB; have HO_4 := n0_; have HO_14 := n1_; have BK105 := n2_; have HI102 := n3_; have BK159 := n4_; have HB := n5_; clear n0_ n1_ n2_ n3_ n4_ n5_; (try clear hb); (try clear hk); (try clear hi); have hcz119_0 : w118.cell? ⟨gb159, 0, none⟩ = some (.int .i64 t154) := (blk_cell BK159.out 0).trans rfl; have hcz119_1 : w118.cell? ⟨gb159, 1, none⟩ = some (.int .i64 t155) := (blk_cell BK159.out 1).trans rfl; have hcz119_2 : w118.cell? ⟨gb159, 2, none⟩ = some (.bool t156) := (blk_cell BK159.out 2).trans rfl; have hcz119_3 : w118.cell? ⟨gb159, 3, none⟩ = some (.bool t157) := (blk_cell BK159.out 3).trans rfl; have hcz119_4 : w118.cell? ⟨gb159, 4, none⟩ = some (.int .i64 t158) := (blk_cell BK159.out 4).trans rfl; have hfz119_0 := blk_frozen BK159.out 0; have hfz119_1 := blk_frozen BK159.out 1; have hfz119_2 := blk_frozen BK159.out 2; have hfz119_3 := blk_frozen BK159.out 3; have hfz119_4 := blk_frozen BK159.out 4) | ((with_reducible refine gate_builtin (b := .append) (xs := #[.tmp 169, .tmp 171]) rfl ?_); (try (refine gate_guard (by rfl) ?_; dsimp only)); at_builtin; refine Kd.R_append k42 (w0 := w) w.heap.size rfl (.tmp 169) (.tmp 171) 26 42 (.agg #[(.int .i64 0), (.int .i64 0), (.bool false), (.bool false), (.int .i64 0)]) 32 rfl Try.underlying26 info42 rfl (by decide) (by omega) u14 x14_2 (⟨t154, t155, t156, t157, t158⟩ : S42) [.int .i64 t154, .int .i64 t155, .bool t156, .bool t157, .int .i64 t158] (fun k_ => some k_ ≠ (.slice (some ad153) x4_1.length co21 : Value).ownBlock ∧ k_ ≠ gb159) (fun _ => False) rfl rfl ?aP (fun _ hk => hk.elim) ?aF ?aO ?aB ?aS ?aL ?_; (case aP => exact k42_mkM _ _ _ (⟨t154, t155, t156, t157, t158⟩ : S42)); (case aB => exact (by repeat (first | (with_reducible first | exact HB.out | apply below_alloc | apply pw_below_drewN | apply below_drew1 | refine below_set ?_ (IsS90.ge HI102.out) | refine below_set ?_ GE105.out | refine below_set ?_ GE159.out) | exact HB.out))); (case aF => exact (fun k_ hk => ⟨Kd.fresh' (Kd.R_lt (rr_ HO_4.out)) k_ hk, Kd.freshB (g := gb159) (o := .cells #[.int .i64 t154, .int .i64 t155, .bool t156, .bool t157, .int .i64 t158] 42 (0, 0)) (kb_ BK159.out) k_ hk⟩)); (case aO => exact (rr_ HO_14.out)); (case aS => exact (below_size (by repeat (first | (with_reducible first | exact HB.out | apply below_alloc | apply pw_below_drewN | apply below_drew1 | refine below_set ?_ (IsS90.ge HI102.out) | refine below_set ?_ GE105.out | refine below_set ?_ GE159.out) | exact HB.out)))); (case aL => have := LMc105.out; omega); intro v162 w120 ho hb hg hat; rw [← Ny161.out] at ho; have n0_ := Aside0.mk (Kd.R_after (ok := (fun k_ => k_ ≠ gb159)) (rr_ (Kd.R_mono HO_4.out (fun _ hk => ⟨hk.2, hk.1⟩))) hg hat); have n1_ := Aside0.mk (blk_grown (g := gb105) (o := .cells #[.int .i64 ((rd_T35 l0 x6_1).f0), .int .i64 ((rd_T35 l0 x6_1).f1), .int .i64 ((rd_T35 l0 x6_1).f2.f0.f0), .int .i64 ((rd_T35 l0 x6_1).f2.f0.f1), .bool ((rd_T35 l0 x6_1).f2.f1), .bool ((rd_T35 l0 x6_1).f2.f2), .int .i64 ((rd_T35 l0 x6_1).f3.f0), .int .i64 ((rd_T35 l0 x6_1).f3.f1), .slice A104_8 ((rd_T35 l0 x6_1).f3.f2).length c104_8] 35 (0, 0)) (kb_ BK105.out) hg (Kd.R_ne HO_14.out BK105.out (by decide))); have n2_ := Aside0.mk (IsS90.grown (by repeat (first | (with_reducible first | exact HI102.out | apply IsS90.alloc | apply IsS90.drewN | apply IsS90.drew | apply IsS90.set_0 | refine IsS90.far ?_ NB102_105.out (by repeat (first | exact Ty.mk BK105.out (by decide) | apply Ty.set)) _ | refine IsS90.far ?_ NB102_159.out (by repeat (first | exact Ty.mk BK159.out (by decide) | apply Ty.set)) _) | exact HI102.out)) hg (IsS90.own_ne HI102.out HO_14.out (by decide))); have n3_ := Aside0.mk (blk_grown (g := gb159) (o := .cells #[.int .i64 t154, .int .i64 t155, .bool t156, .bool t157, .int .i64 t158] 42 (0, 0)) (kb_ BK159.out) hg (Kd.R_away HO_14.out (fun _ hk => hk.2))); have n4_ := Aside0.mk (hb); have n5_ := Aside0.mk (ho); clear HO_4; clear BK105; clear HI102; clear BK159; clear HB; clear HO_14; have HO_4 := n0_; have BK105 := n1_; have HI102 := n2_; have BK159 := n3_; have HB := n4_; have HO163 := n5_; clear n0_ n1_ n2_ n3_ n4_ n5_; clear ho hb hg hat))
    go_roundg kj97
    case measure => have := HK1.out; have := HK2.out; have := HJ97.out; omega
    case rel => exact ⟨(t160), (y161), (wrap64 (x15_2 + 1)), (by first | rfl | (simp; done) | (simp [*]; done)), (by first | rfl | (simp; done) | (simp [*]; done)), H', ⟨by have := HK1.out; have := HK2.out; have := HJ97.out; omega⟩, ⟨rr_ (Kd.R_mono HO_4.out (fun _ hk => hk.2))⟩, ⟨rr_ (Kd.R_mono HO163.out (fun _ hk => hk.1))⟩, ⟨kb_ BK105.out⟩, ⟨by repeat (first | (with_reducible first | exact HI102.out | apply IsS90.alloc | apply IsS90.drewN | apply IsS90.drew | apply IsS90.set_0 | refine IsS90.far ?_ NB102_105.out (by repeat (first | exact Ty.mk BK105.out (by decide) | apply Ty.set)) _ | refine IsS90.far ?_ NB102_159.out (by repeat (first | exact Ty.mk BK159.out (by decide) | apply Ty.set)) _) | exact HI102.out)⟩, ⟨by repeat (first | (with_reducible first | exact HB.out | apply below_alloc | apply pw_below_drewN | apply below_drew1 | refine below_set ?_ (IsS90.ge HI102.out) | refine below_set ?_ GE105.out | refine below_set ?_ GE159.out) | exact HB.out)⟩⟩
end Go.Proofs.Ythbdiambigfgdae.PMarksPlay
