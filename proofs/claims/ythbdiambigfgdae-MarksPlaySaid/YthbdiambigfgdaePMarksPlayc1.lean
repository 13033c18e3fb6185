/- PRINTED by this session's mk.py (the kit's print, with some contracts by hand): the functions that the law MarksPlay reaches, as Lean functions, and that the machine's calls answer so. -/
import Derived.Test.YthbdiambigfgdaeSq
import Derived.Test.YthbdiambigfgdaePMarksPlayx0
import Derived.Test.YthbdiambigfgdaePMarksPlayx1
import Derived.Test.YthbdiambigfgdaePMarksPlayx2
import Derived.Test.YthbdiambigfgdaePMarksPlayx3
import Derived.Test.YthbdiambigfgdaePMarksPlayx4
import Derived.Test.YthbdiambigfgdaePMarksPlayc
namespace Go.Proofs.Ythbdiambigfgdae.PMarksPlay
open Go.Proofs.Ythbdiambigfgdae.Sq Go.Proofs.Ythbdiambigfgdae Go.Proofs.Ythbdiambigfgdae.PMarksRead Go.Proofs.Ythbdiambigfgdae.Hand Go.RowKit Go.Proofs.YthbdiambigfgdaeW.PrintWords Go.Proofs.YthbdiambigfgdaeW.PrintLast Go.Proofs.YthbdiambigfgdaeW.PrintMore
attribute [local go_sem] max2_int min2_int max_two min_two max_three min_three max_four min_four   -- for this text's walks alone
set_option linter.unusedVariables false
set_option linter.unusedSimpArgs false

attribute [local go_sem high] eqA30 eqA42
set_option maxHeartbeats 8000000 in
set_option maxRecDepth 100000 in
theorem lawP.sw1 {u0 u1 u2 u9 u10 u11 u12 u13 u14 u15 u16 u17 u18 u19 u20 u21 u22 u23 u24 u25 u26 u27 u28 u29 u30 u31 u32 u33 u34 u35 u36 u37 u38 u39 u40 u41 u42 u43 u44 u45 u46 u47 u48 u49 u50 u51 u52 u53 u54 u55 u56 u57 u58 u59 u60 u61 u63 u64 u65 u66 u67 u68 u69 u70 u71 u72 u73 u74 u75 u76 u77 u78 u79 u80 u81 u82 u83 u84 u85 u86 u87 u88 u89 u90 u91 u92 u93 u94 u95 u96 u97 u98 u99 u100 u101 u102 u103 u104 u105 u106 u107 u108 u109 u110 u111 u112 u113 u114 u115 u116 u117 u118 u119 u120 u121 u122 u123 u124 u125 u126 u127 u128 u129 u130 u131 u132 u133 u134 u135 u136 u137 u138 u139 u140 u141 u142 u143 u144 u145 u146 u147 u148 u149 u150 u151 u152 u153 u154 u155 u156 u157 u158 u159 u160 u161 u162 u163 u164 u165 u166 u167 u168 u169 u170 u171 u172 u173 u174 u175 u176 u177 u178 u179 u180 u181 u182 u183 u184 u185 u186 u187 u188 u189 u190 u191 u192 u193 u194 u195 u196 u197 u198 u199 u200 u201 u202 u203 u204 u205 u206 u207 u208 u209 u210 u211 u212 u213 u214 u215 u216 u217 u218 u219 u220 u221 u222 u223 u224 u225 u226 u227 u228 u229 u230 u231 u232 u233 u234 u235 u236 u237 u238 u239 u240 u241 u242 u243 u244 u245 u246 u247 u248 u249 u250 u251 u252 u253 u254 u255 u256 u257 u258 u259 u260 u261 u262 u263 u264 u265 u266 u267 u268 u269 u270 u271 u272 u273 u274 u275 u276 u277 u278 u279 u280 u281 u282 u283 u284 u285 u286 u287 u288 u289 u290 u291 u292 u293 u294 u295 u296 u297 u298 u299 u300 u301 u302 u303 u304 u305 u306 u307 u308 u309 u310 u311 u312 u313 u314 u315 u316 u317 u318 u319 u320 u321 u322 u323 u324 u325 u326 u327 u328 u329 u330 u331 u332 u333 u334 u335 u336 u337 u338 u339 u340 u341 u342 u343 u344 u345 u346 u347 u348 u349 u350 u351 u352 u353 u354 u355 u356 u357 u358 u359 u360 u361 u362 u363 u364 u365 u366 u367 u368 u369 u370 : Value} 
    {r : Bool} {w : World} {l0 : List (S35)} {g102 gb105 : Nat} {x4_1 : List (S42)} {x5_1 x6_1 t107 : Int} {x103000_1 : (List S94 × Int)} {k1 : Nat} {A104_8 : Option Addr} {c104_8 : Nat} {Ao21 : Option Addr} {co21 : Nat} {w18 : World} {J K' : Act → World → Prop} {Q' : Exit → Act → World → Prop}
    (HO_4 : Aside0 (Kd.R k42 42 w18 w.heap.size (fun _ => True) (.slice Ao21 x4_1.length co21) x4_1)) (HI102 : Aside0 (IsS90 w w18 g102 x103000_1)) (HB : Aside0 (Below w.heap.size w w18)) (BK105 : Aside0 (w18.heap[gb105]? = some (.cells #[.int .i64 ((rd_T35 l0 x6_1).f0), .int .i64 ((rd_T35 l0 x6_1).f1), .int .i64 ((rd_T35 l0 x6_1).f2.f0.f0), .int .i64 ((rd_T35 l0 x6_1).f2.f0.f1), .bool ((rd_T35 l0 x6_1).f2.f1), .bool ((rd_T35 l0 x6_1).f2.f2), .int .i64 ((rd_T35 l0 x6_1).f3.f0), .int .i64 ((rd_T35 l0 x6_1).f3.f1), (.slice A104_8 ((rd_T35 l0 x6_1).f3.f2).length c104_8)] 35 (0, 0)))) (GE105 : Aside0 (w.heap.size ≤ gb105)) (NB102_105 : Aside0 (g102 ≠ gb105)) (NB105_102 : Aside0 (gb105 ≠ g102)) (HR104_8 : Aside0 ((Kd.int .i32).C w A104_8 ((rd_T35 l0 x6_1).f3.f2).length ((rd_T35 l0 x6_1).f3.f2))) (HC104_8 : Aside0 (((rd_T35 l0 x6_1).f3.f2).length ≤ c104_8)) {k : Nat} (HK1 : Aside0 (k1 + 1 ≤ k))
    (c22 : ¬ ((rd_T35 l0 x6_1).f0) = 0) (c64 : ((rd_T35 l0 x6_1).f0) = 1)
    (H : ((marks_Marks_Remove.f k1 x103000_1 ((rd_T35 l0 x6_1).f1)).bind fun bt131 => (if t107 < 0 then (if bt131.1 = 4 then (if t107 ≥ 0 then (lawP.j4 k1 l0 x4_1 x5_1 x6_1 t107 (bt131.1 != 0) bt131.2) else (lawP.j4 k1 l0 x4_1 x5_1 x6_1 t107 false bt131.2)) else (lawP.j4 k1 l0 x4_1 x5_1 x6_1 t107 true bt131.2)) else (if t107 ≥ 0 then (lawP.j4 k1 l0 x4_1 x5_1 x6_1 t107 (bt131.1 != 0) bt131.2) else (lawP.j4 k1 l0 x4_1 x5_1 x6_1 t107 false bt131.2)))) = some r)
    (hJ : ∀ a' w', swR l0 g102 gb105 r w x6_1 t107 k1 A104_8 c104_8 u0 u1 u26 u27 u28 u29 u30 u31 u32 u33 u34 u35 u36 u37 u38 u39 u40 u370 a' w' → J a' w') (hK : ∀ a' w', Met J a' w' → K' a' w') (hQp : ∀ N v c a w', Q' (.panic c) (Act.put a N v) w' → Q' (.panic c) a w') :
    Code.wp Try.prog (.block 2 swBody) (Exit.then K' Q') ⟨#[u0, u1, u2, .pointer (some ⟨g102, 0, none⟩), .slice Ao21 x4_1.length co21, .int .i64 x5_1, .int .i64 x6_1, .pointer (some ⟨gb105, 0, none⟩), .int .i64 t107, u9, u10, u11, u12, u13, u14, u15, u16, u17, u18, u19, u20, u21, u22, u23, u24, u25, u26, u27, u28, u29, u30, u31, u32, u33, u34, u35, u36, u37, u38, u39, u40, u41, u42, u43, u44, u45, u46, u47, u48, u49, u50, u51, u52, u53, u54, u55, u56, u57, u58, u59, u60, u61, .int .i64 ((rd_T35 l0 x6_1).f0), u63, u64, u65, u66, u67, u68, u69, u70, u71, u72, u73, u74, u75, u76, u77, u78, u79, u80, u81, u82, u83, u84, u85, u86, u87, u88, u89, u90, u91, u92, u93, u94, u95, u96, u97, u98, u99, u100, u101, u102, u103, u104, u105, u106, u107, u108, u109, u110, u111, u112, u113, u114, u115, u116, u117, u118, u119, u120, u121, u122, u123, u124, u125, u126, u127, u128, u129, u130, u131, u132, u133, u134, u135, u136, u137, u138, u139, u140, u141, u142, u143, u144, u145, u146, u147, u148, u149, u150, u151, u152, u153, u154, u155, u156, u157, u158, u159, u160, u161, u162, u163, u164, u165, u166, u167, u168, u169, u170, u171, u172, u173, u174, u175, u176, u177, u178, u179, u180, u181, u182, u183, u184, u185, u186, u187, u188, u189, u190, u191, u192, u193, u194, u195, u196, u197, u198, u199, u200, u201, u202, u203, u204, u205, u206, u207, u208, u209, u210, u211, u212, u213, u214, u215, u216, u217, u218, u219, u220, u221, u222, u223, u224, u225, u226, u227, u228, u229, u230, u231, u232, u233, u234, u235, u236, u237, u238, u239, u240, u241, u242, u243, u244, u245, u246, u247, u248, u249, u250, u251, u252, u253, u254, u255, u256, u257, u258, u259, u260, u261, u262, u263, u264, u265, u266, u267, u268, u269, u270, u271, u272, u273, u274, u275, u276, u277, u278, u279, u280, u281, u282, u283, u284, u285, u286, u287, u288, u289, u290, u291, u292, u293, u294, u295, u296, u297, u298, u299, u300, u301, u302, u303, u304, u305, u306, u307, u308, u309, u310, u311, u312, u313, u314, u315, u316, u317, u318, u319, u320, u321, u322, u323, u324, u325, u326, u327, u328, u329, u330, u331, u332, u333, u334, u335, u336, u337, u338, u339, u340, u341, u342, u343, u344, u345, u346, u347, u348, u349, u350, u351, u352, u353, u354, u355, u356, u357, u358, u359, u360, u361, u362, u363, u364, u365, u366, u367, u368, u369, u370], []⟩ w18 := by
  let bp_ := bodyPost Try.prog Try.f3
  unfold swR at hJ
  dsimp only at hJ ⊢
  unfold swBody
  conv => { arg 2; arg 2; whnf }
  have hu35 := Try.underlying35
  have hu30 := Try.underlying30
  have hu33 := Try.underlying33
  have hu42 := Try.underlying42
  have hu28 := Try.underlying28
  have hnb0 := NB105_102.out
  have hnc0 := NB102_105.out
  have hcz0_0 : w18.cell? ⟨gb105, 0, none⟩ = some (.int .i64 ((rd_T35 l0 x6_1).f0)) := (blk_cell BK105.out 0).trans rfl
  have hcz0_1 : w18.cell? ⟨gb105, 1, none⟩ = some (.int .i64 ((rd_T35 l0 x6_1).f1)) := (blk_cell BK105.out 1).trans rfl
  have hcz0_2 : w18.cell? ⟨gb105, 2, none⟩ = some (.int .i64 ((rd_T35 l0 x6_1).f2.f0.f0)) := (blk_cell BK105.out 2).trans rfl
  have hcz0_3 : w18.cell? ⟨gb105, 3, none⟩ = some (.int .i64 ((rd_T35 l0 x6_1).f2.f0.f1)) := (blk_cell BK105.out 3).trans rfl
  have hcz0_4 : w18.cell? ⟨gb105, 4, none⟩ = some (.bool ((rd_T35 l0 x6_1).f2.f1)) := (blk_cell BK105.out 4).trans rfl
  have hcz0_5 : w18.cell? ⟨gb105, 5, none⟩ = some (.bool ((rd_T35 l0 x6_1).f2.f2)) := (blk_cell BK105.out 5).trans rfl
  have hcz0_6 : w18.cell? ⟨gb105, 6, none⟩ = some (.int .i64 ((rd_T35 l0 x6_1).f3.f0)) := (blk_cell BK105.out 6).trans rfl
  have hcz0_7 : w18.cell? ⟨gb105, 7, none⟩ = some (.int .i64 ((rd_T35 l0 x6_1).f3.f1)) := (blk_cell BK105.out 7).trans rfl
  have hcz0_8 : w18.cell? ⟨gb105, 8, none⟩ = some (.slice A104_8 ((rd_T35 l0 x6_1).f3.f2).length c104_8) := (blk_cell BK105.out 8).trans rfl
  have hfz0_0 := blk_frozen BK105.out 0
  have hfz0_1 := blk_frozen BK105.out 1
  have hfz0_2 := blk_frozen BK105.out 2
  have hfz0_3 := blk_frozen BK105.out 3
  have hfz0_4 := blk_frozen BK105.out 4
  have hfz0_5 := blk_frozen BK105.out 5
  have hfz0_6 := blk_frozen BK105.out 6
  have hfz0_7 := blk_frozen BK105.out 7
  have hfz0_8 := blk_frozen BK105.out 8
  have c22b0 : (((rd_T35 l0 x6_1).f0) == 0) = false := beq_eq_false_iff_ne.mpr c22
  have c22b1 : (((rd_T35 l0 x6_1).f0) != 0) = true := bne_iff_ne.mpr c22
  have c64b0 : (((rd_T35 l0 x6_1).f0) == 1) = true := beq_iff_eq.mpr c64
  have c64b1 : (((rd_T35 l0 x6_1).f0) != 1) = false := bne_eq_false_iff_eq.mpr c64
  clear c64
  replace H := Option.bind_eq_some_iff.mp H
  obtain ⟨⟨t131, t132⟩, A650, H⟩ := H
  replace H : (if t107 < 0 then (if t131 = 4 then (if t107 ≥ 0 then (lawP.j4 k1 l0 x4_1 x5_1 x6_1 t107 (t131 != 0) t132) else (lawP.j4 k1 l0 x4_1 x5_1 x6_1 t107 false t132)) else (lawP.j4 k1 l0 x4_1 x5_1 x6_1 t107 true t132)) else (if t107 ≥ 0 then (lawP.j4 k1 l0 x4_1 x5_1 x6_1 t107 (t131 != 0) t132) else (lawP.j4 k1 l0 x4_1 x5_1 x6_1 t107 false t132))) = some r := H
  have A65 := Aside0.mk A650; clear A650; have HC66 := Aside0.mk H; clear H
  have hnb67 := NB105_102.out
  have hnc67 := NB102_105.out
  go_upto_region 28 with (first | ((with_reducible refine gate_callee (f := 12) rfl ?_); refine goesL_ (some 115) rfl rfl Try.func12 (by kernel_rfl) rfl #[.pointer (some ⟨g102, 0, none⟩), .int .i64 ((rd_T35 l0 x6_1).f1)] rfl (by (try simp only [List.map_toArray, List.map_cons, List.map_nil]); first | done | rfl | (simp only [List.length_drop, List.length_take]; rfl)) ?_; (with_reducible refine (marks_Marks_Remove.calls k1 g102 x103000_1 ((rd_T35 l0 x6_1).f1) t131 t132 w _ ?side1 ?side2 A65.out).mono ?_); (case side1 => repeat (first | (with_reducible first | exact HI102.out | apply IsS90.alloc | apply IsS90.drewN | apply IsS90.drew | apply IsS90.set_0 | refine IsS90.far ?_ NB102_105.out (by repeat (first | exact Ty.mk BK105.out (by decide) | apply Ty.set)) _) | exact HI102.out)); (case side2 => repeat (first | (with_reducible first | exact HB.out | apply below_alloc | apply pw_below_drewN | apply below_drew1 | refine below_set ?_ (IsS90.ge HI102.out) | refine below_set ?_ GE105.out) | exact HB.out)); rintro e w69 ⟨rfl, hi, hb, hk⟩; refine ⟨_, rfl, ?_⟩; have n0_ := Aside0.mk (Kd.R_mono (R_keepM (IsS90.apart (show IsS90 w _ g102 x103000_1 from by repeat (first | (with_reducible first | exact HI102.out | apply IsS90.alloc | apply IsS90.drewN | apply IsS90.drew | apply IsS90.set_0 | refine IsS90.far ?_ NB102_105.out (by repeat (first | exact Ty.mk BK105.out (by decide) | apply Ty.set)) _) | exact HI102.out)) (rr_ (HO_4.out)) (by decide)) hk (fun _ h => h.2)) (fun _ h => h.1)); have n1_ := Aside0.mk (KeepM.blk hk (g' := gb105) (o := .cells #[.int .i64 ((rd_T35 l0 x6_1).f0), .int .i64 ((rd_T35 l0 x6_1).f1), .int .i64 ((rd_T35 l0 x6_1).f2.f0.f0), .int .i64 ((rd_T35 l0 x6_1).f2.f0.f1), .bool ((rd_T35 l0 x6_1).f2.f1), .bool ((rd_T35 l0 x6_1).f2.f2), .int .i64 ((rd_T35 l0 x6_1).f3.f0), .int .i64 ((rd_T35 l0 x6_1).f3.f1), .slice A104_8 ((rd_T35 l0 x6_1).f3.f2).length c104_8] 35 (0, 0)) (kb_ BK105.out) NB105_102.out (by simp)); have n2_ := Aside0.mk (hb); have n3_ := Aside0.mk (hi); clear HO_4; clear BK105; clear HB; clear HI102; have HO_4 := n0_; have BK105 := n1_; have HB := n2_; have HI102 := n3_; clear n0_ n1_ n2_ n3_; ))
  (try simp only [Act.put, List.setIfInBounds_toArray, List.set_cons_zero, List.set_cons_succ])
  go_cut [129] (fun v129 wc => ∃ (kq : Nat) (x129_65 : Bool), v129 = .bool x129_65 ∧ Aside0 (lawP.j4 kq l0 x4_1 x5_1 x6_1 t107 x129_65 t132 = some r) ∧ Aside0 (kq ≤ k1) ∧ Aside0 (Kd.R k42 42 wc w.heap.size (fun _ => True) (.slice Ao21 x4_1.length co21) x4_1) ∧ Aside0 (wc.heap[gb105]? = some (.cells #[.int .i64 ((rd_T35 l0 x6_1).f0), .int .i64 ((rd_T35 l0 x6_1).f1), .int .i64 ((rd_T35 l0 x6_1).f2.f0.f0), .int .i64 ((rd_T35 l0 x6_1).f2.f0.f1), .bool ((rd_T35 l0 x6_1).f2.f1), .bool ((rd_T35 l0 x6_1).f2.f2), .int .i64 ((rd_T35 l0 x6_1).f3.f0), .int .i64 ((rd_T35 l0 x6_1).f3.f1), (.slice A104_8 ((rd_T35 l0 x6_1).f3.f2).length c104_8)] 35 (0, 0))) ∧ Aside0 (IsS90 w wc g102 t132) ∧ Aside0 (Below w.heap.size w wc))
  case first =>
   as_aux_lemma =>
   have H := HC66.out
   clear HC66
   by_cases c70 : t107 < 0
   rotate_left
   · rw [if_neg c70] at H
     have c70b0 : decide (t107 < 0) = false := decide_eq_false c70
     clear c70; (first | rw [c70b0] | (simp only [i64_w, i32_w]; rw [c70b0]) | skip)
     by_cases c73 : t107 ≥ 0
     · rw [if_pos c73] at H
       have c73b0 : decide (0 ≤ t107) = true := decide_eq_true c73
       clear c73; have H' := Aside0.mk H; clear H
       go_wp2
       go_meet
       case rel => exact ⟨_, ((t131 != 0)), (by first | rfl | (simp; done) | (simp [*]; done)), H', ⟨by have := HK1.out; first | omega | exact Nat.le_refl _⟩, ⟨rr_ HO_4.out⟩, ⟨kb_ BK105.out⟩, ⟨by repeat (first | (with_reducible first | exact HI102.out | apply IsS90.alloc | apply IsS90.drewN | apply IsS90.drew | apply IsS90.set_0 | refine IsS90.far ?_ NB102_105.out (by repeat (first | exact Ty.mk BK105.out (by decide) | apply Ty.set)) _) | exact HI102.out)⟩, ⟨by repeat (first | (with_reducible first | exact HB.out | apply below_alloc | apply pw_below_drewN | apply below_drew1 | refine below_set ?_ (IsS90.ge HI102.out) | refine below_set ?_ GE105.out) | exact HB.out)⟩⟩
     rw [if_neg c73] at H
     have c73b0 : decide (0 ≤ t107) = false := decide_eq_false c73
     clear c73; have H' := Aside0.mk H; clear H
     go_wp2
     go_meet
     case rel => exact ⟨_, (false), (by first | rfl | (simp; done) | (simp [*]; done)), H', ⟨by have := HK1.out; first | omega | exact Nat.le_refl _⟩, ⟨rr_ HO_4.out⟩, ⟨kb_ BK105.out⟩, ⟨by repeat (first | (with_reducible first | exact HI102.out | apply IsS90.alloc | apply IsS90.drewN | apply IsS90.drew | apply IsS90.set_0 | refine IsS90.far ?_ NB102_105.out (by repeat (first | exact Ty.mk BK105.out (by decide) | apply Ty.set)) _) | exact HI102.out)⟩, ⟨by repeat (first | (with_reducible first | exact HB.out | apply below_alloc | apply pw_below_drewN | apply below_drew1 | refine below_set ?_ (IsS90.ge HI102.out) | refine below_set ?_ GE105.out) | exact HB.out)⟩⟩
   rw [if_pos c70] at H
   have c70b0 : decide (t107 < 0) = true := decide_eq_true c70
   clear c70; (first | rw [c70b0] | (simp only [i64_w, i32_w]; rw [c70b0]) | skip)
   by_cases c71 : t131 = 4
   rotate_left
   · rw [if_neg c71] at H
     have c71b0 : (t131 == 4) = false := beq_eq_false_iff_ne.mpr c71
     have c71b1 : (t131 != 4) = true := bne_iff_ne.mpr c71
     have H' := Aside0.mk H; clear H
     go_wp2
     go_meet
     case rel => exact ⟨_, (true), (by first | rfl | (simp; done) | (simp [*]; done)), H', ⟨by have := HK1.out; first | omega | exact Nat.le_refl _⟩, ⟨rr_ HO_4.out⟩, ⟨kb_ BK105.out⟩, ⟨by repeat (first | (with_reducible first | exact HI102.out | apply IsS90.alloc | apply IsS90.drewN | apply IsS90.drew | apply IsS90.set_0 | refine IsS90.far ?_ NB102_105.out (by repeat (first | exact Ty.mk BK105.out (by decide) | apply Ty.set)) _) | exact HI102.out)⟩, ⟨by repeat (first | (with_reducible first | exact HB.out | apply below_alloc | apply pw_below_drewN | apply below_drew1 | refine below_set ?_ (IsS90.ge HI102.out) | refine below_set ?_ GE105.out) | exact HB.out)⟩⟩
   rw [if_pos c71] at H
   have c71b0 : (t131 == 4) = true := beq_iff_eq.mpr c71
   have c71b1 : (t131 != 4) = false := bne_eq_false_iff_eq.mpr c71
   clear c71
   by_cases c72 : t107 ≥ 0
   · rw [if_pos c72] at H
     have c72b0 : decide (0 ≤ t107) = true := decide_eq_true c72
     clear c72; have H' := Aside0.mk H; clear H
     go_wp2
     go_meet
     case rel => exact ⟨_, ((t131 != 0)), (by first | rfl | (simp; done) | (simp [*]; done)), H', ⟨by have := HK1.out; first | omega | exact Nat.le_refl _⟩, ⟨rr_ HO_4.out⟩, ⟨kb_ BK105.out⟩, ⟨by repeat (first | (with_reducible first | exact HI102.out | apply IsS90.alloc | apply IsS90.drewN | apply IsS90.drew | apply IsS90.set_0 | refine IsS90.far ?_ NB102_105.out (by repeat (first | exact Ty.mk BK105.out (by decide) | apply Ty.set)) _) | exact HI102.out)⟩, ⟨by repeat (first | (with_reducible first | exact HB.out | apply below_alloc | apply pw_below_drewN | apply below_drew1 | refine below_set ?_ (IsS90.ge HI102.out) | refine below_set ?_ GE105.out) | exact HB.out)⟩⟩
   rw [if_neg c72] at H
   have c72b0 : decide (0 ≤ t107) = false := decide_eq_false c72
   clear c72; have H' := Aside0.mk H; clear H
   go_wp2
   go_meet
   case rel => exact ⟨_, (false), (by first | rfl | (simp; done) | (simp [*]; done)), H', ⟨by have := HK1.out; first | omega | exact Nat.le_refl _⟩, ⟨rr_ HO_4.out⟩, ⟨kb_ BK105.out⟩, ⟨by repeat (first | (with_reducible first | exact HI102.out | apply IsS90.alloc | apply IsS90.drewN | apply IsS90.drew | apply IsS90.set_0 | refine IsS90.far ?_ NB102_105.out (by repeat (first | exact Ty.mk BK105.out (by decide) | apply Ty.set)) _) | exact HI102.out)⟩, ⟨by repeat (first | (with_reducible first | exact HB.out | apply below_alloc | apply pw_below_drewN | apply below_drew1 | refine below_set ?_ (IsS90.ge HI102.out) | refine below_set ?_ GE105.out) | exact HB.out)⟩⟩
  as_aux_lemma =>
  clear HC66; (try clear c22); (try clear c22b0); (try clear c22b1); (try clear c64b0); (try clear c64b1); (try clear c70); (try clear c70b0); (try clear c71); (try clear c71b0); (try clear c71b1); (try clear c72); (try clear c72b0); (try clear c73); (try clear c73b0); obtain ⟨kq, x129_65, rfl, HA, HJ65, HO_4, BK105, HI102, HB⟩ := hcut
  cases kq with
  | zero => exact absurd HA.out (by simp [lawP.j4])
  | succ kj65 =>
   have H := HA.out
   clear HA
   simp only [lawP.j4] at H
   by_cases c74 : x129_65 = true
   · subst c74
     have H1 : (none) = some r := by rw [if_pos rfl] at H; exact H
     clear H
     have H := H1
     clear H1; exact absurd H (by simp)
   as_aux_lemma =>
   replace c74 := Bool.eq_false_iff.mpr c74
   subst c74
   have H1 : (if t107 ≥ 0 then ((some (([] : List (S42)) : List (S42))).bind fun y133 => (if 0 ≤ t107 then (if t107 ≤ (x4_1.length : Int) then ((some (x4_1.take (t107 : Int).toNat : List (S42))).bind fun y136 => (if y133.length + y136.length < 4398046511104 then ((some (y133 ++ y136 : List (S42))).bind fun y140 => (if 0 ≤ (wrap64 (t107 + 1)) then (if (wrap64 (t107 + 1)) ≤ (x4_1.length : Int) then ((some (x4_1.drop ((wrap64 (t107 + 1)) : Int).toNat : List (S42))).bind fun y143 => (if y140.length + y143.length < 4398046511104 then (lawP.j16 kj65 l0 (y140 ++ y143) x5_1 x6_1 t132) else (none))) else (none)) else (none))) else (none))) else (none)) else (none))) else (lawP.j16 kj65 l0 x4_1 x5_1 x6_1 t132)) = some r := by rw [if_neg (show ¬ (false = true) by decide)] at H; exact H
   clear H
   have H := H1
   clear H1
   by_cases c75 : t107 ≥ 0
   rotate_left
   · rw [if_neg c75] at H
     have c75b0 : decide (0 ≤ t107) = false := decide_eq_false c75
     clear c75; have H' := Aside0.mk H; clear H
     go_wp2
     go_meet
     case rel => exact ⟨_, (x4_1), (x5_1), (t132), (by first | rfl | (simp; done) | (simp [*]; done)), H', ⟨by have := HK1.out; have := HJ65.out; first | omega | exact Nat.le_refl _⟩, ⟨rr_ HO_4.out⟩, ⟨kb_ BK105.out⟩, ⟨by repeat (first | (with_reducible first | exact HI102.out | apply IsS90.alloc | apply IsS90.drewN | apply IsS90.drew | apply IsS90.set_0 | refine IsS90.far ?_ NB102_105.out (by repeat (first | exact Ty.mk BK105.out (by decide) | apply Ty.set)) _) | exact HI102.out)⟩, ⟨by repeat (first | (with_reducible first | exact HB.out | apply below_alloc | apply pw_below_drewN | apply below_drew1 | refine below_set ?_ (IsS90.ge HI102.out) | refine below_set ?_ GE105.out) | exact HB.out)⟩⟩
   as_aux_lemma =>
   rw [if_pos c75] at H
   have c75b0 : decide (0 ≤ t107) = true := decide_eq_true c75
   clear c75
   obtain ⟨y133, hy133⟩ : ∃ y_ : List (S42), y_ = (([] : List (S42))) := ⟨_, rfl⟩
   replace H : (if 0 ≤ t107 then (if t107 ≤ (x4_1.length : Int) then ((some (x4_1.take (t107 : Int).toNat : List (S42))).bind fun y136 => (if y133.length + y136.length < 4398046511104 then ((some (y133 ++ y136 : List (S42))).bind fun y140 => (if 0 ≤ (wrap64 (t107 + 1)) then (if (wrap64 (t107 + 1)) ≤ (x4_1.length : Int) then ((some (x4_1.drop ((wrap64 (t107 + 1)) : Int).toNat : List (S42))).bind fun y143 => (if y140.length + y143.length < 4398046511104 then (lawP.j16 kj65 l0 (y140 ++ y143) x5_1 x6_1 t132) else (none))) else (none)) else (none))) else (none))) else (none)) else (none)) = some r := by first | (rw [hy133]; with_reducible exact H) | (have H2_ := (Option.bind_some _ _).symm.trans H; rw [hy133]; with_reducible exact H2_) | (have H2_ := (Option.bind_some _ _).symm.trans H; with_reducible exact H2_) | with_reducible exact H | (rw [hy133]; exact H) | exact H
   have Ny133 := Aside0.mk hy133; clear hy133
   by_cases c76 : 0 ≤ t107
   rotate_left
   · rw [if_neg c76] at H
     exact absurd H (by simp)
   as_aux_lemma =>
   rw [if_pos c76] at H; have c76b0 := eq_true c76
   have c76b1 : decide (0 ≤ t107) = true := decide_eq_true c76
   clear c76
   by_cases c77 : t107 ≤ (x4_1.length : Int)
   rotate_left
   · rw [if_neg c77] at H
     exact absurd H (by simp)
   as_aux_lemma =>
   rw [if_pos c77] at H; have c77b0 := eq_true c77
   have c77b1 : decide (t107 ≤ (x4_1.length : Int)) = true := decide_eq_true c77
   clear c77
   obtain ⟨y136, hy136⟩ : ∃ y_ : List (S42), y_ = (x4_1.take (t107 : Int).toNat) := ⟨_, rfl⟩
   replace H : (if y133.length + y136.length < 4398046511104 then ((some (y133 ++ y136 : List (S42))).bind fun y140 => (if 0 ≤ (wrap64 (t107 + 1)) then (if (wrap64 (t107 + 1)) ≤ (x4_1.length : Int) then ((some (x4_1.drop ((wrap64 (t107 + 1)) : Int).toNat : List (S42))).bind fun y143 => (if y140.length + y143.length < 4398046511104 then (lawP.j16 kj65 l0 (y140 ++ y143) x5_1 x6_1 t132) else (none))) else (none)) else (none))) else (none)) = some r := by first | (rw [hy136]; with_reducible exact H) | (have H2_ := (Option.bind_some _ _).symm.trans H; rw [hy136]; with_reducible exact H2_) | (have H2_ := (Option.bind_some _ _).symm.trans H; with_reducible exact H2_) | with_reducible exact H | (rw [hy136]; exact H) | exact H
   have Ny136 := Aside0.mk hy136; clear hy136
   by_cases c78 : y133.length + y136.length < 4398046511104
   rotate_left
   · rw [if_neg c78] at H
     exact absurd H (by simp)
   as_aux_lemma =>
   rw [if_pos c78] at H; have LMc78 := Aside0.mk c78; clear c78
   obtain ⟨y140, hy140⟩ : ∃ y_ : List (S42), y_ = (y133 ++ y136) := ⟨_, rfl⟩
   replace H : (if 0 ≤ (wrap64 (t107 + 1)) then (if (wrap64 (t107 + 1)) ≤ (x4_1.length : Int) then ((some (x4_1.drop ((wrap64 (t107 + 1)) : Int).toNat : List (S42))).bind fun y143 => (if y140.length + y143.length < 4398046511104 then (lawP.j16 kj65 l0 (y140 ++ y143) x5_1 x6_1 t132) else (none))) else (none)) else (none)) = some r := by first | (rw [hy140]; with_reducible exact H) | (have H2_ := (Option.bind_some _ _).symm.trans H; rw [hy140]; with_reducible exact H2_) | (have H2_ := (Option.bind_some _ _).symm.trans H; with_reducible exact H2_) | with_reducible exact H | (rw [hy140]; exact H) | exact H
   have Ny140 := Aside0.mk hy140; clear hy140
   obtain ⟨ji79, hji79⟩ : ∃ j_ : Int, (wrap64 (t107 + 1)) = j_ := ⟨_, rfl⟩
   replace H : (if 0 ≤ (ji79) then (if (ji79) ≤ (x4_1.length : Int) then ((some (x4_1.drop ((ji79) : Int).toNat : List (S42))).bind fun y143 => (if y140.length + y143.length < 4398046511104 then (lawP.j16 kj65 l0 (y140 ++ y143) x5_1 x6_1 t132) else (none))) else (none)) else (none)) = some r := by first | (rw [hji79] at H; exact H) | (simp only [hji79] at H ⊢; exact H)
   have hji79w : (IntKind.i64.wrap (t107 + 1)) = ji79 := (i64_w _).trans hji79
   by_cases c80 : 0 ≤ (ji79)
   rotate_left
   · rw [if_neg c80] at H
     exact absurd H (by simp)
   as_aux_lemma =>
   rw [if_pos c80] at H; have c80b0 := eq_true c80
   have c80b1 : decide (0 ≤ (ji79)) = true := decide_eq_true c80
   clear c80
   by_cases c81 : (ji79) ≤ (x4_1.length : Int)
   rotate_left
   · rw [if_neg c81] at H
     exact absurd H (by simp)
   as_aux_lemma =>
   rw [if_pos c81] at H; have c81b0 := eq_true c81
   have c81b1 : decide ((ji79) ≤ (x4_1.length : Int)) = true := decide_eq_true c81
   clear c81
   obtain ⟨y143, hy143⟩ : ∃ y_ : List (S42), y_ = (x4_1.drop ((ji79) : Int).toNat) := ⟨_, rfl⟩
   replace H : (if y140.length + y143.length < 4398046511104 then (lawP.j16 kj65 l0 (y140 ++ y143) x5_1 x6_1 t132) else (none)) = some r := by first | (rw [hy143]; with_reducible exact H) | (have H2_ := (Option.bind_some _ _).symm.trans H; rw [hy143]; with_reducible exact H2_) | (have H2_ := (Option.bind_some _ _).symm.trans H; with_reducible exact H2_) | with_reducible exact H | (rw [hy143]; exact H) | exact H
   have Ny143 := Aside0.mk hy143; clear hy143
   by_cases c82 : y140.length + y143.length < 4398046511104
   rotate_left
   · rw [if_neg c82] at H
     exact absurd H (by simp)
   as_aux_lemma =>
   rw [if_pos c82] at H; have LMc82 := Aside0.mk c82; clear c82
   obtain ⟨y147, hy147⟩ : ∃ y_ : List (S42), y_ = (y140 ++ y143) := ⟨_, rfl⟩
   replace H : (lawP.j16 kj65 l0 y147 x5_1 x6_1 t132) = some r := by first | (rw [hy147]; with_reducible exact H) | (have H2_ := (Option.bind_some _ _).symm.trans H; rw [hy147]; with_reducible exact H2_) | (have H2_ := (Option.bind_some _ _).symm.trans H; with_reducible exact H2_) | with_reducible exact H | (rw [hy147]; exact H) | exact H
   have Ny147 := Aside0.mk hy147; clear hy147; have H' := Aside0.mk H; clear H
   try go_wp2
   have n0_ := Aside0.mk (Kd.R_drew HO_4.out)
   have n1_ := Aside0.mk (blk_drew BK105.out)
   have n2_ := Aside0.mk (IsS90.drew HI102.out)
   have n3_ := Aside0.mk (below_drew1 HB.out)
   clear HO_4 BK105 HI102 HB
   have HO_4 := n0_
   have BK105 := n1_
   have HI102 := n2_
   have HB := n3_
   clear n0_ n1_ n2_ n3_
   have q84 : (t107 : Int) ≤ ((x4_1.length : Int) : Int) := od_
   obtain ⟨i084, hi084, _, hsz84, _⟩ := info_parts info42
   have hroom84 : x4_1.length ≤ co21 := (Kd.R_reads' HO_4.out).2.1
   have hC84 : Kd.C k42 _ Ao21 x4_1.length x4_1 := (Kd.R_reads' HO_4.out).2.2
   have hcut84 := cut_to (P := Try.prog) 26 42 .i64 Try.underlying26 hi084 Ao21 x4_1.length co21 t107 od_ q84 hroom84
   have hr84 := Kd.C_take (m := (t107 : Int).toNat) hC84 (by omega)
   have hy84 : y136.length = (t107 : Int).toNat := (by rw [Ny136.out, List.length_take]; omega)
   rw [← Ny136.out] at hr84; rw [← hy84] at hcut84; have HR139 := Aside0.mk hr84
   have HC139 := Aside0.mk (show y136.length ≤ co21 from by omega)
   clear hr84 hC84 hroom84 hi084 hsz84; have KY84 := Aside0.mk hy84; clear hy84
   have KL84 := Aside0.mk (show (t107 : Int).toNat ≤ x4_1.length from by omega)
   replace q84 := eq_true q84
   have q85 : ((ji79) : Int) ≤ ((x4_1.length : Int) : Int) := od_
   obtain ⟨i085, hi085, _, hsz85, _⟩ := info_parts info42
   have hroom85 : x4_1.length ≤ co21 := (Kd.R_reads' HO_4.out).2.1
   have hC85 : Kd.C k42 _ Ao21 x4_1.length x4_1 := (Kd.R_reads' HO_4.out).2.2
   have q085 : (0 : Int) ≤ ((ji79) : Int) := od_
   have hcut85 := cut_from (P := Try.prog) 26 42 .i64 Try.underlying26 hi085 5 hsz85 Ao21 x4_1.length co21 (ji79) q085 q85
   have hr85 := Kd.C_drop (m := ((ji79) : Int).toNat) (c := co21) hC85 (by omega) hroom85
   obtain ⟨A85, hA85⟩ : ∃ A1, A1 = (if co21 = ((ji79) : Int).toNat then Ao21 else (Ao21 : Option Addr).map (·.add (((ji79) : Int).toNat * 5))) := ⟨_, rfl⟩
   obtain ⟨c85, hc85⟩ : ∃ c1, c1 = co21 - ((ji79) : Int).toNat := ⟨_, rfl⟩
   have hy85 : y143.length = x4_1.length - ((ji79) : Int).toNat := (by rw [Ny143.out, List.length_drop] <;> omega)
   rw [show (x4_1).drop ((ji79) : Int).toNat = y143 from Ny143.out.symm] at hr85
   replace hr85 : Kd.C k42 _ A85 y143.length y143 := (by rw [hA85]; exact hr85)
   rw [← hy85, ← hA85, ← hc85] at hcut85; have HR146 := Aside0.mk hr85
   have HC146 := Aside0.mk (show y143.length ≤ c85 from by rw [hy85, hc85]; exact Nat.sub_le_sub_right hroom85 _)
   clear hr85 hC85 hroom85 hi085 hsz85 hc85; have KY85 := Aside0.mk hy85; have KA85 := Aside0.mk hA85; clear hy85 hA85
   have KL85 := Aside0.mk (show ((ji79) : Int).toNat ≤ x4_1.length from by omega)
   replace q85 := eq_true q85
   refine start_ (n := 11) (S := fun w' => True) (ds := []) #[false, false, false, false, false, false, false, false, false, false, false] (by kernel_rfl) rfl rfl trivial (fun hHeld => ?_); refine with_tabW lawP.tab31 lawP.bits31 (fun HT_ HW_ => ?_)
   generalize wc.drew = w83 at HO_4 BK105 HI102 HB HR139 HR146 hHeld ⊢
   refine q_ 1 (some 133) HT_.out ?_ (hQ := fun _ _ _ h_ => hQp _ _ _ _ _ h_)
   refine q_ 2 (some 134) HT_.out ?_ (hQ := fun _ _ _ h_ => hQp _ _ _ _ _ h_)
   refine q_ 3 (some 135) HT_.out ?_ (hQ := fun _ _ _ h_ => hQp _ _ _ _ _ h_)
   refine q_ 5 (some 137) HT_.out ?_ (hQ := fun _ _ _ h_ => hQp _ _ _ _ _ h_)
   refine q_ 6 (some 138) HT_.out ?_ (hQ := fun _ _ _ h_ => hQp _ _ _ _ _ h_)
   refine q_ 7 (some 139) HT_.out ?_ (hQ := fun _ _ _ h_ => hQp _ _ _ _ _ h_)
   refine q_ 8 (some 140) HT_.out ?_ (hQ := fun _ _ _ h_ => hQp _ _ _ _ _ h_)
   refine one_ (i := 0) (N := some 132) #[true, true, true, true, false, true, true, true, true, false, false] rfl rfl (one_of HT_.out (by kernel_rfl)) (by decide) (fun K hK => ?_)
   refine Kd.R_lit_step k42 _ 42 ?hg (N := 132) ?hd (xs := ([] : List (S42))) (inner := []) (ok := fun _ => True) (okp := fun _ => True) ?hr ?hp (fun _ hk => hk) trivial (Below.refl _ _) (Nat.le_refl _) (by simp) ?_; (case hd => rfl); (case hg => rfl); (case hr => first | (go_simp; done) | (go_simp; rfl)); (case hp => exact (Reps.none _ _))
   intro v134 w86 ho87 hb hg_ hnew_; clear hg_ hnew_; (first | rw [← Ny133.out] at ho87 | (simp only [Int.reduceToNat] at ho87; rw [← Ny133.out] at ho87))
   have n0_ := Aside0.mk (Kd.R_elder' (rr_ HO_4.out) (Kd.R_base ho87) hb)
   have n1_ := Aside0.mk (Kd.R_lower (Kd.R_new' ho87 (Kd.R_lt (rr_ HO_4.out))) (below_size (by repeat (first | (with_reducible first | exact HB.out | apply below_alloc | apply pw_below_drewN | apply below_drew1 | refine below_set ?_ (IsS90.ge HI102.out) | refine below_set ?_ GE105.out) | exact HB.out))))
   have n2_ := Aside0.mk (blk_below (g := gb105) (o := .cells #[.int .i64 ((rd_T35 l0 x6_1).f0), .int .i64 ((rd_T35 l0 x6_1).f1), .int .i64 ((rd_T35 l0 x6_1).f2.f0.f0), .int .i64 ((rd_T35 l0 x6_1).f2.f0.f1), .bool ((rd_T35 l0 x6_1).f2.f1), .bool ((rd_T35 l0 x6_1).f2.f2), .int .i64 ((rd_T35 l0 x6_1).f3.f0), .int .i64 ((rd_T35 l0 x6_1).f3.f1), .slice A104_8 ((rd_T35 l0 x6_1).f3.f2).length c104_8] 35 (0, 0)) (kb_ BK105.out) hb)
   have n3_ := Aside0.mk (IsS90.below (by repeat (first | (with_reducible first | exact HI102.out | apply IsS90.alloc | apply IsS90.drewN | apply IsS90.drew | apply IsS90.set_0 | refine IsS90.far ?_ NB102_105.out (by repeat (first | exact Ty.mk BK105.out (by decide) | apply Ty.set)) _) | exact HI102.out)) hb)
   have n4_ := Aside0.mk (Kd.C_below (by repeat (first | (with_reducible exact HR139.out) | (with_reducible refine Kd.C_alloc ?_ _) | (with_reducible refine Kd.C_drewN ?_ _) | (with_reducible refine Kd.C_drew ?_) | exact HR139.out)) hb)
   have n5_ := Aside0.mk (Kd.C_below (by repeat (first | (with_reducible exact HR146.out) | (with_reducible refine Kd.C_alloc ?_ _) | (with_reducible refine Kd.C_drewN ?_ _) | (with_reducible refine Kd.C_drew ?_) | exact HR146.out)) hb)
   have n6_ := Aside0.mk (below_step (by repeat (first | (with_reducible first | exact HB.out | apply below_alloc | apply pw_below_drewN | apply below_drew1 | refine below_set ?_ (IsS90.ge HI102.out) | refine below_set ?_ GE105.out) | exact HB.out)) hb)
   clear HO_4 BK105 HI102 HR139 HR146 HB
   have HO_4 := n0_
   have HO135 := n1_
   have BK105 := n2_
   have HI102 := n3_
   have HR139 := n4_
   have HR146 := n5_
   have HB := n6_
   clear n0_ n1_ n2_ n3_ n4_ n5_ n6_ hb ho87
   refine hK.out _ _ trivial (fun hHeld => ?_)
   clear hK K; refine norm_ (a' := ?_) ?_ ?_; rotate_left
   · show Act.put _ (some 132) _ = _
     simp only [Act.put, List.setIfInBounds_toArray, List.set_cons_zero, List.set_cons_succ, i64_w, i32_w]
     rfl
   refine one_ (i := 4) (N := some 136) #[true, true, true, true, true, true, true, true, true, false, false] rfl rfl (one_of HT_.out (by kernel_rfl)) (by decide) (fun K hK => ?_)
   refine Kd.R_append_rows_step k42 (w0 := w) w.heap.size (by rfl) (.tmp 132) (.tmp 135) 26 42 (.agg #[(.int .i64 0), (.int .i64 0), (.bool false), (.bool false), (.int .i64 0)]) 32 rfl Try.underlying26 info42 rfl (by decide) (by omega) v134 y133 y136 _ _ _ (fun k_ => some k_ ≠ (.slice Ao21 x4_1.length co21 : Value).ownBlock) (fun _ => False) rfl rfl ?aO ?aR (fun _ _ h => h) (fun _ h => h.elim) ?aF ?aB ?aS ?aL ?_
   (case aR => repeat (first | exact (by repeat (first | (with_reducible exact HR139.out) | (with_reducible refine Kd.C_alloc ?_ _) | (with_reducible refine Kd.C_drewN ?_ _) | (with_reducible refine Kd.C_drew ?_) | exact HR139.out)) | (with_reducible refine Kd.C_alloc ?_ _) | (with_reducible refine Kd.C_drewN ?_ _) | (with_reducible refine Kd.C_drew ?_))); (case aB => exact (by repeat (first | (with_reducible first | exact HB.out | apply below_alloc | apply pw_below_drewN | apply below_drew1 | refine below_set ?_ (IsS90.ge HI102.out) | refine below_set ?_ GE105.out) | exact HB.out))); (case aF => exact (fun k_ hk => Kd.fresh' (Kd.R_lt (rr_ HO_4.out)) k_ hk)); (case aO => exact (rr_ (Kd.R_mono HO135.out (fun _ hk => hk.2)))); (case aS => exact (below_size (by repeat (first | (with_reducible first | exact HB.out | apply below_alloc | apply pw_below_drewN | apply below_drew1 | refine below_set ?_ (IsS90.ge HI102.out) | refine below_set ?_ GE105.out) | exact HB.out)))); (case aL => have := LMc78.out; omega); intro v141 w88 ho hb hg hat; rw [← Ny140.out] at ho
   have n0_ := Aside0.mk (Kd.R_after (ok := (fun _ => True)) (rr_ HO_4.out) hg hat)
   have n1_ := Aside0.mk (blk_grown (g := gb105) (o := .cells #[.int .i64 ((rd_T35 l0 x6_1).f0), .int .i64 ((rd_T35 l0 x6_1).f1), .int .i64 ((rd_T35 l0 x6_1).f2.f0.f0), .int .i64 ((rd_T35 l0 x6_1).f2.f0.f1), .bool ((rd_T35 l0 x6_1).f2.f1), .bool ((rd_T35 l0 x6_1).f2.f2), .int .i64 ((rd_T35 l0 x6_1).f3.f0), .int .i64 ((rd_T35 l0 x6_1).f3.f1), .slice A104_8 ((rd_T35 l0 x6_1).f3.f2).length c104_8] 35 (0, 0)) (kb_ BK105.out) hg (Kd.R_ne HO135.out BK105.out (by decide)))
   have n2_ := Aside0.mk (IsS90.grown (by repeat (first | (with_reducible first | exact HI102.out | apply IsS90.alloc | apply IsS90.drewN | apply IsS90.drew | apply IsS90.set_0 | refine IsS90.far ?_ NB102_105.out (by repeat (first | exact Ty.mk BK105.out (by decide) | apply Ty.set)) _) | exact HI102.out)) hg (IsS90.own_ne HI102.out HO135.out (by decide)))
   have n3_ := Aside0.mk (hb)
   have n4_ := Aside0.mk ((show Kd.C k42 w88 Ao21 y136.length y136 from by rw [Ny136.out]; exact Kd.C_take (m := (t107 : Int).toNat) ((Kd.R_reads' (Kd.R_after (ok := (fun _ => True)) (rr_ HO_4.out) hg hat)).2.2) KL84.out))
   have n5_ := Aside0.mk ((show Kd.C k42 w88 A85 y143.length y143 from by rw [Ny143.out, KA85.out]; exact Kd.C_drop (m := ((ji79) : Int).toNat) (c := co21) ((Kd.R_reads' (Kd.R_after (ok := (fun _ => True)) (rr_ HO_4.out) hg hat)).2.2) KL85.out ((Kd.R_reads' (Kd.R_after (ok := (fun _ => True)) (rr_ HO_4.out) hg hat)).2.1)))
   have n6_ := Aside0.mk (ho)
   clear HO_4 BK105 HI102 HB HR139 HR146 HO135
   have HO_4 := n0_
   have BK105 := n1_
   have HI102 := n2_
   have HB := n3_
   have HR139 := n4_
   have HR146 := n5_
   have HO142 := n6_
   clear n0_ n1_ n2_ n3_ n4_ n5_ n6_ ho hb hg hat
   refine hK.out _ _ trivial (fun hHeld => ?_)
   clear hK K; refine norm_ (a' := ?_) ?_ ?_; rotate_left
   · show Act.put _ (some 136) _ = _
     simp only [Act.put, List.setIfInBounds_toArray, List.set_cons_zero, List.set_cons_succ, i64_w, i32_w]
     rfl
   refine one_ (i := 9) (N := some 141) #[true, true, true, true, true, true, true, true, true, true, false] rfl rfl (one_of HT_.out (by kernel_rfl)) (by decide) (fun K hK => ?_)
   refine Kd.R_append_rows_step k42 (w0 := w) w.heap.size (by rfl) (.tmp 136) (.tmp 140) 26 42 (.agg #[(.int .i64 0), (.int .i64 0), (.bool false), (.bool false), (.int .i64 0)]) 32 rfl Try.underlying26 info42 rfl (by decide) (by omega) v141 y140 y143 _ _ _ (fun k_ => some k_ ≠ (.slice Ao21 x4_1.length co21 : Value).ownBlock) (fun _ => False) rfl rfl ?aO ?aR (fun _ _ h => h) (fun _ h => h.elim) ?aF ?aB ?aS ?aL ?_
   (case aR => repeat (first | exact (by repeat (first | (with_reducible exact HR146.out) | (with_reducible refine Kd.C_alloc ?_ _) | (with_reducible refine Kd.C_drewN ?_ _) | (with_reducible refine Kd.C_drew ?_) | exact HR146.out)) | (with_reducible refine Kd.C_alloc ?_ _) | (with_reducible refine Kd.C_drewN ?_ _) | (with_reducible refine Kd.C_drew ?_))); (case aB => exact (by repeat (first | (with_reducible first | exact HB.out | apply below_alloc | apply pw_below_drewN | apply below_drew1 | refine below_set ?_ (IsS90.ge HI102.out) | refine below_set ?_ GE105.out) | exact HB.out))); (case aF => exact (fun k_ hk => Kd.fresh' (Kd.R_lt (rr_ HO_4.out)) k_ hk)); (case aO => exact (rr_ HO142.out)); (case aS => exact (below_size (by repeat (first | (with_reducible first | exact HB.out | apply below_alloc | apply pw_below_drewN | apply below_drew1 | refine below_set ?_ (IsS90.ge HI102.out) | refine below_set ?_ GE105.out) | exact HB.out)))); (case aL => have := LMc82.out; omega); intro v148 w89 ho hb hg hat; rw [← Ny147.out] at ho
   have n0_ := Aside0.mk (Kd.R_after (ok := (fun _ => True)) (rr_ HO_4.out) hg hat)
   have n1_ := Aside0.mk (blk_grown (g := gb105) (o := .cells #[.int .i64 ((rd_T35 l0 x6_1).f0), .int .i64 ((rd_T35 l0 x6_1).f1), .int .i64 ((rd_T35 l0 x6_1).f2.f0.f0), .int .i64 ((rd_T35 l0 x6_1).f2.f0.f1), .bool ((rd_T35 l0 x6_1).f2.f1), .bool ((rd_T35 l0 x6_1).f2.f2), .int .i64 ((rd_T35 l0 x6_1).f3.f0), .int .i64 ((rd_T35 l0 x6_1).f3.f1), .slice A104_8 ((rd_T35 l0 x6_1).f3.f2).length c104_8] 35 (0, 0)) (kb_ BK105.out) hg (Kd.R_ne HO142.out BK105.out (by decide)))
   have n2_ := Aside0.mk (IsS90.grown (by repeat (first | (with_reducible first | exact HI102.out | apply IsS90.alloc | apply IsS90.drewN | apply IsS90.drew | apply IsS90.set_0 | refine IsS90.far ?_ NB102_105.out (by repeat (first | exact Ty.mk BK105.out (by decide) | apply Ty.set)) _) | exact HI102.out)) hg (IsS90.own_ne HI102.out HO142.out (by decide)))
   have n3_ := Aside0.mk (hb)
   have n4_ := Aside0.mk ((show Kd.C k42 w89 Ao21 y136.length y136 from by rw [Ny136.out]; exact Kd.C_take (m := (t107 : Int).toNat) ((Kd.R_reads' (Kd.R_after (ok := (fun _ => True)) (rr_ HO_4.out) hg hat)).2.2) KL84.out))
   have n5_ := Aside0.mk ((show Kd.C k42 w89 A85 y143.length y143 from by rw [Ny143.out, KA85.out]; exact Kd.C_drop (m := ((ji79) : Int).toNat) (c := co21) ((Kd.R_reads' (Kd.R_after (ok := (fun _ => True)) (rr_ HO_4.out) hg hat)).2.2) KL85.out ((Kd.R_reads' (Kd.R_after (ok := (fun _ => True)) (rr_ HO_4.out) hg hat)).2.1)))
   have n6_ := Aside0.mk (ho)
   clear HO_4 BK105 HI102 HB HR139 HR146 HO142
   have HO_4 := n0_
   have BK105 := n1_
   have HI102 := n2_
   have HB := n3_
   have HR139 := n4_
   have HR146 := n5_
   have HO149 := n6_
   clear n0_ n1_ n2_ n3_ n4_ n5_ n6_ ho hb hg hat
   refine hK.out _ _ trivial (fun hHeld => ?_)
   clear hK K; refine norm_ (a' := ?_) ?_ ?_; rotate_left
   · show Act.put _ (some 141) _ = _
     simp only [Act.put, List.setIfInBounds_toArray, List.set_cons_zero, List.set_cons_succ, i64_w, i32_w]
     rfl
   refine q_ 10 (some 4) HT_.out ?_ (hQ := fun _ _ _ h_ => hQp _ _ _ _ _ h_)
   refine done_ (done_of HT_.out (by kernel_rfl)) ?_
   try go_wp2
   go_meet
   case rel => exact ⟨_, (y147), (x5_1), (t132), (by first | rfl | (simp; done) | (simp [*]; done)), H', ⟨by have := HK1.out; have := HJ65.out; first | omega | exact Nat.le_refl _⟩, ⟨rr_ (Kd.R_mono HO149.out (fun _ hk => trivial))⟩, ⟨kb_ BK105.out⟩, ⟨by repeat (first | (with_reducible first | exact HI102.out | apply IsS90.alloc | apply IsS90.drewN | apply IsS90.drew | apply IsS90.set_0 | refine IsS90.far ?_ NB102_105.out (by repeat (first | exact Ty.mk BK105.out (by decide) | apply Ty.set)) _) | exact HI102.out)⟩, ⟨by repeat (first | (with_reducible first | exact HB.out | apply below_alloc | apply pw_below_drewN | apply below_drew1 | refine below_set ?_ (IsS90.ge HI102.out) | refine below_set ?_ GE105.out) | exact HB.out)⟩⟩
end Go.Proofs.Ythbdiambigfgdae.PMarksPlay
