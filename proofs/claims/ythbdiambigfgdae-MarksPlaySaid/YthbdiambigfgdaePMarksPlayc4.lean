/- PRINTED by this session's mk.py (the kit's print, with some contracts by hand): the functions that the law MarksPlay reaches, as Lean functions, and that the machine's calls answer so. -/
import Derived.Test.YthbdiambigfgdaeSq
import Derived.Test.YthbdiambigfgdaePMarksPlayx0
import Derived.Test.YthbdiambigfgdaePMarksPlayx1
import Derived.Test.YthbdiambigfgdaePMarksPlayx2
import Derived.Test.YthbdiambigfgdaePMarksPlayx3
import Derived.Test.YthbdiambigfgdaePMarksPlayx4
import Derived.Test.YthbdiambigfgdaePMarksPlayc
namespace Go.Proofs.Ythbdiambigfgdae.PMarksPlay
open Go.Proofs.Ythbdiambigfgdae.Sq Go.Proofs.Ythbdiambigfgdae Go.Proofs.Ythbdiambigfgdae.PMarksRead Go.Proofs.Ythbdiambigfgdae.Hand Go.RowKit Go.Proofs.YthbdiambigfgdaeW.PrintWords Go.Proofs.YthbdiambigfgdaeW.PrintLast Go.Proofs.YthbdiambigfgdaeW.PrintMore
attribute [local go_sem] max2_int min2_int max_two min_two max_three min_three max_four min_four   -- for this text's walks alone
set_option linter.unusedVariables false
set_option linter.unusedSimpArgs false

attribute [local go_sem high] eqA30 eqA42
set_option maxHeartbeats 8000000 in
set_option maxRecDepth 100000 in
theorem lawP.sw4 {u0 u1 u2 u9 u10 u11 u12 u13 u14 u15 u16 u17 u18 u19 u20 u21 u22 u23 u24 u25 u26 u27 u28 u29 u30 u31 u32 u33 u34 u35 u36 u37 u38 u39 u40 u41 u42 u43 u44 u45 u46 u47 u48 u49 u50 u51 u52 u53 u54 u55 u56 u57 u58 u59 u60 u61 u63 u64 u65 u66 u67 u68 u69 u70 u71 u72 u73 u74 u75 u76 u77 u78 u79 u80 u81 u82 u83 u84 u85 u86 u87 u88 u89 u90 u91 u92 u93 u94 u95 u96 u97 u98 u99 u100 u101 u102 u103 u104 u105 u106 u107 u108 u109 u110 u111 u112 u113 u114 u115 u116 u117 u118 u119 u120 u121 u122 u123 u124 u125 u126 u127 u128 u129 u130 u131 u132 u133 u134 u135 u136 u137 u138 u139 u140 u141 u142 u143 u144 u145 u146 u147 u148 u149 u150 u151 u152 u153 u154 u155 u156 u157 u158 u159 u160 u161 u162 u163 u164 u165 u166 u167 u168 u169 u170 u171 u172 u173 u174 u175 u176 u177 u178 u179 u180 u181 u182 u183 u184 u185 u186 u187 u188 u189 u190 u191 u192 u193 u194 u195 u196 u197 u198 u199 u200 u201 u202 u203 u204 u205 u206 u207 u208 u209 u210 u211 u212 u213 u214 u215 u216 u217 u218 u219 u220 u221 u222 u223 u224 u225 u226 u227 u228 u229 u230 u231 u232 u233 u234 u235 u236 u237 u238 u239 u240 u241 u242 u243 u244 u245 u246 u247 u248 u249 u250 u251 u252 u253 u254 u255 u256 u257 u258 u259 u260 u261 u262 u263 u264 u265 u266 u267 u268 u269 u270 u271 u272 u273 u274 u275 u276 u277 u278 u279 u280 u281 u282 u283 u284 u285 u286 u287 u288 u289 u290 u291 u292 u293 u294 u295 u296 u297 u298 u299 u300 u301 u302 u303 u304 u305 u306 u307 u308 u309 u310 u311 u312 u313 u314 u315 u316 u317 u318 u319 u320 u321 u322 u323 u324 u325 u326 u327 u328 u329 u330 u331 u332 u333 u334 u335 u336 u337 u338 u339 u340 u341 u342 u343 u344 u345 u346 u347 u348 u349 u350 u351 u352 u353 u354 u355 u356 u357 u358 u359 u360 u361 u362 u363 u364 u365 u366 u367 u368 u369 u370 : Value} 
    {r : Bool} {w : World} {l0 : List (S35)} {g102 gb105 : Nat} {x4_1 : List (S42)} {x5_1 x6_1 t107 : Int} {x103000_1 : (List S94 × Int)} {k1 : Nat} {A104_8 : Option Addr} {c104_8 : Nat} {Ao21 : Option Addr} {co21 : Nat} {w18 : World} {J K' : Act → World → Prop} {Q' : Exit → Act → World → Prop}
    (HO_4 : Aside0 (Kd.R k42 42 w18 w.heap.size (fun _ => True) (.slice Ao21 x4_1.length co21) x4_1)) (HI102 : Aside0 (IsS90 w w18 g102 x103000_1)) (HB : Aside0 (Below w.heap.size w w18)) (BK105 : Aside0 (w18.heap[gb105]? = some (.cells #[.int .i64 ((rd_T35 l0 x6_1).f0), .int .i64 ((rd_T35 l0 x6_1).f1), .int .i64 ((rd_T35 l0 x6_1).f2.f0.f0), .int .i64 ((rd_T35 l0 x6_1).f2.f0.f1), .bool ((rd_T35 l0 x6_1).f2.f1), .bool ((rd_T35 l0 x6_1).f2.f2), .int .i64 ((rd_T35 l0 x6_1).f3.f0), .int .i64 ((rd_T35 l0 x6_1).f3.f1), (.slice A104_8 ((rd_T35 l0 x6_1).f3.f2).length c104_8)] 35 (0, 0)))) (GE105 : Aside0 (w.heap.size ≤ gb105)) (NB102_105 : Aside0 (g102 ≠ gb105)) (NB105_102 : Aside0 (gb105 ≠ g102)) (HR104_8 : Aside0 ((Kd.int .i32).C w A104_8 ((rd_T35 l0 x6_1).f3.f2).length ((rd_T35 l0 x6_1).f3.f2))) (HC104_8 : Aside0 (((rd_T35 l0 x6_1).f3.f2).length ≤ c104_8)) {k : Nat} (HK1 : Aside0 (k1 + 1 ≤ k))
    (c22 : ¬ ((rd_T35 l0 x6_1).f0) = 0) (c64 : ¬ ((rd_T35 l0 x6_1).f0) = 1) (c90 : ¬ ((rd_T35 l0 x6_1).f0) = 2) (c126 : ¬ ((rd_T35 l0 x6_1).f0) = 3)
    (H : (if ((rd_T35 l0 x6_1).f0) = 4 then (lawP.j9 k1 l0 x4_1 x5_1 x6_1 t107 ((rd_T35 l0 x6_1).f0) (((rd_T35 l0 x6_1).f0) == 4) x103000_1 ((rd_T35 l0 x6_1).f0) ((rd_T35 l0 x6_1).f1) ((rd_T35 l0 x6_1).f2.f0.f0) ((rd_T35 l0 x6_1).f2.f0.f1) ((rd_T35 l0 x6_1).f2.f1) ((rd_T35 l0 x6_1).f2.f2) ((rd_T35 l0 x6_1).f3.f0) ((rd_T35 l0 x6_1).f3.f1) ((rd_T35 l0 x6_1).f3.f2)) else (lawP.j9 k1 l0 x4_1 x5_1 x6_1 t107 ((rd_T35 l0 x6_1).f0) (((rd_T35 l0 x6_1).f0) == 5) x103000_1 ((rd_T35 l0 x6_1).f0) ((rd_T35 l0 x6_1).f1) ((rd_T35 l0 x6_1).f2.f0.f0) ((rd_T35 l0 x6_1).f2.f0.f1) ((rd_T35 l0 x6_1).f2.f1) ((rd_T35 l0 x6_1).f2.f2) ((rd_T35 l0 x6_1).f3.f0) ((rd_T35 l0 x6_1).f3.f1) ((rd_T35 l0 x6_1).f3.f2))) = some r)
    (hJ : ∀ a' w', swR l0 g102 gb105 r w x6_1 t107 k1 A104_8 c104_8 u0 u1 u26 u27 u28 u29 u30 u31 u32 u33 u34 u35 u36 u37 u38 u39 u40 u370 a' w' → J a' w') (hK : ∀ a' w', Met J a' w' → K' a' w') (hQp : ∀ N v c a w', Q' (.panic c) (Act.put a N v) w' → Q' (.panic c) a w') :
    Code.wp Try.prog (.block 2 swBody) (Exit.then K' Q') ⟨#[u0, u1, u2, .pointer (some ⟨g102, 0, none⟩), .slice Ao21 x4_1.length co21, .int .i64 x5_1, .int .i64 x6_1, .pointer (some ⟨gb105, 0, none⟩), .int .i64 t107, u9, u10, u11, u12, u13, u14, u15, u16, u17, u18, u19, u20, u21, u22, u23, u24, u25, u26, u27, u28, u29, u30, u31, u32, u33, u34, u35, u36, u37, u38, u39, u40, u41, u42, u43, u44, u45, u46, u47, u48, u49, u50, u51, u52, u53, u54, u55, u56, u57, u58, u59, u60, u61, .int .i64 ((rd_T35 l0 x6_1).f0), u63, u64, u65, u66, u67, u68, u69, u70, u71, u72, u73, u74, u75, u76, u77, u78, u79, u80, u81, u82, u83, u84, u85, u86, u87, u88, u89, u90, u91, u92, u93, u94, u95, u96, u97, u98, u99, u100, u101, u102, u103, u104, u105, u106, u107, u108, u109, u110, u111, u112, u113, u114, u115, u116, u117, u118, u119, u120, u121, u122, u123, u124, u125, u126, u127, u128, u129, u130, u131, u132, u133, u134, u135, u136, u137, u138, u139, u140, u141, u142, u143, u144, u145, u146, u147, u148, u149, u150, u151, u152, u153, u154, u155, u156, u157, u158, u159, u160, u161, u162, u163, u164, u165, u166, u167, u168, u169, u170, u171, u172, u173, u174, u175, u176, u177, u178, u179, u180, u181, u182, u183, u184, u185, u186, u187, u188, u189, u190, u191, u192, u193, u194, u195, u196, u197, u198, u199, u200, u201, u202, u203, u204, u205, u206, u207, u208, u209, u210, u211, u212, u213, u214, u215, u216, u217, u218, u219, u220, u221, u222, u223, u224, u225, u226, u227, u228, u229, u230, u231, u232, u233, u234, u235, u236, u237, u238, u239, u240, u241, u242, u243, u244, u245, u246, u247, u248, u249, u250, u251, u252, u253, u254, u255, u256, u257, u258, u259, u260, u261, u262, u263, u264, u265, u266, u267, u268, u269, u270, u271, u272, u273, u274, u275, u276, u277, u278, u279, u280, u281, u282, u283, u284, u285, u286, u287, u288, u289, u290, u291, u292, u293, u294, u295, u296, u297, u298, u299, u300, u301, u302, u303, u304, u305, u306, u307, u308, u309, u310, u311, u312, u313, u314, u315, u316, u317, u318, u319, u320, u321, u322, u323, u324, u325, u326, u327, u328, u329, u330, u331, u332, u333, u334, u335, u336, u337, u338, u339, u340, u341, u342, u343, u344, u345, u346, u347, u348, u349, u350, u351, u352, u353, u354, u355, u356, u357, u358, u359, u360, u361, u362, u363, u364, u365, u366, u367, u368, u369, u370], []⟩ w18 := by
  let bp_ := bodyPost Try.prog Try.f3
  unfold swR at hJ
  dsimp only at hJ ⊢
  unfold swBody
  conv => { arg 2; arg 2; whnf }
  have hu35 := Try.underlying35
  have hu30 := Try.underlying30
  have hu33 := Try.underlying33
  have hu42 := Try.underlying42
  have hu28 := Try.underlying28
  have hnb0 := NB105_102.out
  have hnc0 := NB102_105.out
  have hcz0_0 : w18.cell? ⟨gb105, 0, none⟩ = some (.int .i64 ((rd_T35 l0 x6_1).f0)) := (blk_cell BK105.out 0).trans rfl
  have hcz0_1 : w18.cell? ⟨gb105, 1, none⟩ = some (.int .i64 ((rd_T35 l0 x6_1).f1)) := (blk_cell BK105.out 1).trans rfl
  have hcz0_2 : w18.cell? ⟨gb105, 2, none⟩ = some (.int .i64 ((rd_T35 l0 x6_1).f2.f0.f0)) := (blk_cell BK105.out 2).trans rfl
  have hcz0_3 : w18.cell? ⟨gb105, 3, none⟩ = some (.int .i64 ((rd_T35 l0 x6_1).f2.f0.f1)) := (blk_cell BK105.out 3).trans rfl
  have hcz0_4 : w18.cell? ⟨gb105, 4, none⟩ = some (.bool ((rd_T35 l0 x6_1).f2.f1)) := (blk_cell BK105.out 4).trans rfl
  have hcz0_5 : w18.cell? ⟨gb105, 5, none⟩ = some (.bool ((rd_T35 l0 x6_1).f2.f2)) := (blk_cell BK105.out 5).trans rfl
  have hcz0_6 : w18.cell? ⟨gb105, 6, none⟩ = some (.int .i64 ((rd_T35 l0 x6_1).f3.f0)) := (blk_cell BK105.out 6).trans rfl
  have hcz0_7 : w18.cell? ⟨gb105, 7, none⟩ = some (.int .i64 ((rd_T35 l0 x6_1).f3.f1)) := (blk_cell BK105.out 7).trans rfl
  have hcz0_8 : w18.cell? ⟨gb105, 8, none⟩ = some (.slice A104_8 ((rd_T35 l0 x6_1).f3.f2).length c104_8) := (blk_cell BK105.out 8).trans rfl
  have hfz0_0 := blk_frozen BK105.out 0
  have hfz0_1 := blk_frozen BK105.out 1
  have hfz0_2 := blk_frozen BK105.out 2
  have hfz0_3 := blk_frozen BK105.out 3
  have hfz0_4 := blk_frozen BK105.out 4
  have hfz0_5 := blk_frozen BK105.out 5
  have hfz0_6 := blk_frozen BK105.out 6
  have hfz0_7 := blk_frozen BK105.out 7
  have hfz0_8 := blk_frozen BK105.out 8
  have c22b0 : (((rd_T35 l0 x6_1).f0) == 0) = false := beq_eq_false_iff_ne.mpr c22
  have c22b1 : (((rd_T35 l0 x6_1).f0) != 0) = true := bne_iff_ne.mpr c22
  have c64b0 : (((rd_T35 l0 x6_1).f0) == 1) = false := beq_eq_false_iff_ne.mpr c64
  have c64b1 : (((rd_T35 l0 x6_1).f0) != 1) = true := bne_iff_ne.mpr c64
  have c90b0 : (((rd_T35 l0 x6_1).f0) == 2) = false := beq_eq_false_iff_ne.mpr c90
  have c90b1 : (((rd_T35 l0 x6_1).f0) != 2) = true := bne_iff_ne.mpr c90
  have c126b0 : (((rd_T35 l0 x6_1).f0) == 3) = false := beq_eq_false_iff_ne.mpr c126
  have c126b1 : (((rd_T35 l0 x6_1).f0) != 3) = true := bne_iff_ne.mpr c126
  have HC158 := Aside0.mk H; clear H
  go_upto_if 227 with (fail)
  go_cut [227] (fun v227 wc => ∃ (kq : Nat) (x227_157 : Bool), v227 = .bool x227_157 ∧ Aside0 (lawP.j9 kq l0 x4_1 x5_1 x6_1 t107 ((rd_T35 l0 x6_1).f0) x227_157 x103000_1 ((rd_T35 l0 x6_1).f0) ((rd_T35 l0 x6_1).f1) ((rd_T35 l0 x6_1).f2.f0.f0) ((rd_T35 l0 x6_1).f2.f0.f1) ((rd_T35 l0 x6_1).f2.f1) ((rd_T35 l0 x6_1).f2.f2) ((rd_T35 l0 x6_1).f3.f0) ((rd_T35 l0 x6_1).f3.f1) ((rd_T35 l0 x6_1).f3.f2) = some r) ∧ Aside0 (kq ≤ k1) ∧ Aside0 (Kd.R k42 42 wc w.heap.size (fun _ => True) (.slice Ao21 x4_1.length co21) x4_1) ∧ Aside0 (wc.heap[gb105]? = some (.cells #[.int .i64 ((rd_T35 l0 x6_1).f0), .int .i64 ((rd_T35 l0 x6_1).f1), .int .i64 ((rd_T35 l0 x6_1).f2.f0.f0), .int .i64 ((rd_T35 l0 x6_1).f2.f0.f1), .bool ((rd_T35 l0 x6_1).f2.f1), .bool ((rd_T35 l0 x6_1).f2.f2), .int .i64 ((rd_T35 l0 x6_1).f3.f0), .int .i64 ((rd_T35 l0 x6_1).f3.f1), (.slice A104_8 ((rd_T35 l0 x6_1).f3.f2).length c104_8)] 35 (0, 0))) ∧ Aside0 (IsS90 w wc g102 x103000_1) ∧ Aside0 (Below w.heap.size w wc))
  case first =>
   as_aux_lemma =>
   have H := HC158.out
   clear HC158
   by_cases c159 : ((rd_T35 l0 x6_1).f0) = 4
   rotate_left
   · rw [if_neg c159] at H
     have c159b0 : (((rd_T35 l0 x6_1).f0) == 4) = false := beq_eq_false_iff_ne.mpr c159
     have c159b1 : (((rd_T35 l0 x6_1).f0) != 4) = true := bne_iff_ne.mpr c159
     (first | rw [c159b0] | (simp only [i64_w, i32_w]; rw [c159b0]) | skip); have H' := Aside0.mk H; clear H
     go_wp2
     go_meet
     case rel => exact ⟨_, ((((rd_T35 l0 x6_1).f0) == 5)), (by first | rfl | (simp; done) | (simp [*]; done)), H', ⟨by have := HK1.out; first | omega | exact Nat.le_refl _⟩, ⟨rr_ HO_4.out⟩, ⟨kb_ BK105.out⟩, ⟨by repeat (first | (with_reducible first | exact HI102.out | apply IsS90.alloc | apply IsS90.drewN | apply IsS90.drew | apply IsS90.set_0 | refine IsS90.far ?_ NB102_105.out (by repeat (first | exact Ty.mk BK105.out (by decide) | apply Ty.set)) _) | exact HI102.out)⟩, ⟨by repeat (first | (with_reducible first | exact HB.out | apply below_alloc | apply pw_below_drewN | apply below_drew1 | refine below_set ?_ (IsS90.ge HI102.out) | refine below_set ?_ GE105.out) | exact HB.out)⟩⟩
   rw [if_pos c159] at H
   have c159b0 : (((rd_T35 l0 x6_1).f0) == 4) = true := beq_iff_eq.mpr c159
   have c159b1 : (((rd_T35 l0 x6_1).f0) != 4) = false := bne_eq_false_iff_eq.mpr c159
   clear c159; (first | rw [c159b0] | (simp only [i64_w, i32_w]; rw [c159b0]) | skip); have H' := Aside0.mk H; clear H
   go_wp2
   go_meet
   case rel => exact ⟨_, ((((rd_T35 l0 x6_1).f0) == 4)), (by first | rfl | (simp; done) | (simp [*]; done)), H', ⟨by have := HK1.out; first | omega | exact Nat.le_refl _⟩, ⟨rr_ HO_4.out⟩, ⟨kb_ BK105.out⟩, ⟨by repeat (first | (with_reducible first | exact HI102.out | apply IsS90.alloc | apply IsS90.drewN | apply IsS90.drew | apply IsS90.set_0 | refine IsS90.far ?_ NB102_105.out (by repeat (first | exact Ty.mk BK105.out (by decide) | apply Ty.set)) _) | exact HI102.out)⟩, ⟨by repeat (first | (with_reducible first | exact HB.out | apply below_alloc | apply pw_below_drewN | apply below_drew1 | refine below_set ?_ (IsS90.ge HI102.out) | refine below_set ?_ GE105.out) | exact HB.out)⟩⟩
  as_aux_lemma =>
  clear HC158; (try clear c90); (try clear c90b0); (try clear c90b1); (try clear c126); (try clear c126b0); (try clear c126b1); (try clear c159); (try clear c159b0); (try clear c159b1)
  obtain ⟨kq, x227_157, rfl, HA, HJ157, HO_4, BK105, HI102, HB⟩ := hcut
  cases kq with
  | zero => exact absurd HA.out (by simp [lawP.j9])
  | succ kj157 =>
   have H := HA.out
   clear HA
   simp only [lawP.j9] at H
   by_cases c160 : x227_157 = true
   rotate_left
   · as_aux_lemma =>
     replace c160 := Bool.eq_false_iff.mpr c160
     subst c160
     have H1 : (if ((rd_T35 l0 x6_1).f0) = 6 then ((marks_Marks_Parent.f kj157 x103000_1 ((rd_T35 l0 x6_1).f1)).bind fun bt194 => (if t107 < 0 then (if bt194.2.1 = 4 then (if bt194.1 = 0 then (if t107 ≥ 0 then (lawP.j15 kj157 l0 x4_1 x5_1 x6_1 t107 bt194.1 (bt194.2.1 != 0) bt194.2.2) else (lawP.j15 kj157 l0 x4_1 x5_1 x6_1 t107 bt194.1 false bt194.2.2)) else (lawP.j15 kj157 l0 x4_1 x5_1 x6_1 t107 bt194.1 true bt194.2.2)) else (lawP.j15 kj157 l0 x4_1 x5_1 x6_1 t107 bt194.1 true bt194.2.2)) else (if t107 ≥ 0 then (lawP.j15 kj157 l0 x4_1 x5_1 x6_1 t107 bt194.1 (bt194.2.1 != 0) bt194.2.2) else (lawP.j15 kj157 l0 x4_1 x5_1 x6_1 t107 bt194.1 false bt194.2.2)))) else (lawP.j16 kj157 l0 x4_1 x5_1 x6_1 x103000_1)) = some r := by rw [if_neg (show ¬ (false = true) by decide)] at H; exact H
     clear H
     have H := H1
     clear H1
     by_cases c208 : ((rd_T35 l0 x6_1).f0) = 6
     rotate_left
     · rw [if_neg c208] at H
       have c208b0 : (((rd_T35 l0 x6_1).f0) == 6) = false := beq_eq_false_iff_ne.mpr c208
       have c208b1 : (((rd_T35 l0 x6_1).f0) != 6) = true := bne_iff_ne.mpr c208
       have H' := Aside0.mk H; clear H
       go_wp2
       go_meet
       case rel => exact ⟨_, (x4_1), (x5_1), (x103000_1), (by first | rfl | (simp; done) | (simp [*]; done)), H', ⟨by have := HK1.out; have := HJ157.out; first | omega | exact Nat.le_refl _⟩, ⟨rr_ HO_4.out⟩, ⟨kb_ BK105.out⟩, ⟨by repeat (first | (with_reducible first | exact HI102.out | apply IsS90.alloc | apply IsS90.drewN | apply IsS90.drew | apply IsS90.set_0 | refine IsS90.far ?_ NB102_105.out (by repeat (first | exact Ty.mk BK105.out (by decide) | apply Ty.set)) _) | exact HI102.out)⟩, ⟨by repeat (first | (with_reducible first | exact HB.out | apply below_alloc | apply pw_below_drewN | apply below_drew1 | refine below_set ?_ (IsS90.ge HI102.out) | refine below_set ?_ GE105.out) | exact HB.out)⟩⟩
     as_aux_lemma =>
     rw [if_pos c208] at H
     have c208b0 : (((rd_T35 l0 x6_1).f0) == 6) = true := beq_iff_eq.mpr c208
     have c208b1 : (((rd_T35 l0 x6_1).f0) != 6) = false := bne_eq_false_iff_eq.mpr c208
     clear c208
     replace H := Option.bind_eq_some_iff.mp H
     obtain ⟨⟨t194, t195, t196⟩, A2090, H⟩ := H
     replace H : (if t107 < 0 then (if t195 = 4 then (if t194 = 0 then (if t107 ≥ 0 then (lawP.j15 kj157 l0 x4_1 x5_1 x6_1 t107 t194 (t195 != 0) t196) else (lawP.j15 kj157 l0 x4_1 x5_1 x6_1 t107 t194 false t196)) else (lawP.j15 kj157 l0 x4_1 x5_1 x6_1 t107 t194 true t196)) else (lawP.j15 kj157 l0 x4_1 x5_1 x6_1 t107 t194 true t196)) else (if t107 ≥ 0 then (lawP.j15 kj157 l0 x4_1 x5_1 x6_1 t107 t194 (t195 != 0) t196) else (lawP.j15 kj157 l0 x4_1 x5_1 x6_1 t107 t194 false t196))) = some r := H
     have A209 := Aside0.mk A2090; clear A2090; have HC210 := Aside0.mk H; clear H
     have hnb211 := NB105_102.out
     have hnc211 := NB102_105.out
     have hcz212_0 : wc.cell? ⟨gb105, 0, none⟩ = some (.int .i64 ((rd_T35 l0 x6_1).f0)) := (blk_cell BK105.out 0).trans rfl
     have hcz212_1 : wc.cell? ⟨gb105, 1, none⟩ = some (.int .i64 ((rd_T35 l0 x6_1).f1)) := (blk_cell BK105.out 1).trans rfl
     have hcz212_2 : wc.cell? ⟨gb105, 2, none⟩ = some (.int .i64 ((rd_T35 l0 x6_1).f2.f0.f0)) := (blk_cell BK105.out 2).trans rfl
     have hcz212_3 : wc.cell? ⟨gb105, 3, none⟩ = some (.int .i64 ((rd_T35 l0 x6_1).f2.f0.f1)) := (blk_cell BK105.out 3).trans rfl
     have hcz212_4 : wc.cell? ⟨gb105, 4, none⟩ = some (.bool ((rd_T35 l0 x6_1).f2.f1)) := (blk_cell BK105.out 4).trans rfl
     have hcz212_5 : wc.cell? ⟨gb105, 5, none⟩ = some (.bool ((rd_T35 l0 x6_1).f2.f2)) := (blk_cell BK105.out 5).trans rfl
     have hcz212_6 : wc.cell? ⟨gb105, 6, none⟩ = some (.int .i64 ((rd_T35 l0 x6_1).f3.f0)) := (blk_cell BK105.out 6).trans rfl
     have hcz212_7 : wc.cell? ⟨gb105, 7, none⟩ = some (.int .i64 ((rd_T35 l0 x6_1).f3.f1)) := (blk_cell BK105.out 7).trans rfl
     have hcz212_8 : wc.cell? ⟨gb105, 8, none⟩ = some (.slice A104_8 ((rd_T35 l0 x6_1).f3.f2).length c104_8) := (blk_cell BK105.out 8).trans rfl
     have hfz212_0 := blk_frozen BK105.out 0
     have hfz212_1 := blk_frozen BK105.out 1
     have hfz212_2 := blk_frozen BK105.out 2
     have hfz212_3 := blk_frozen BK105.out 3
     have hfz212_4 := blk_frozen BK105.out 4
     have hfz212_5 := blk_frozen BK105.out 5
     have hfz212_6 := blk_frozen BK105.out 6
     have hfz212_7 := blk_frozen BK105.out 7
     have hfz212_8 := blk_frozen BK105.out 8
     go_upto_region 70 with (first | ((with_reducible refine gate_callee (f := 20) rfl ?_); refine goesL_ (some 320) rfl rfl Try.func20 (by kernel_rfl) rfl #[.pointer (some ⟨g102, 0, none⟩), .int .i64 ((rd_T35 l0 x6_1).f1)] rfl (by (try simp only [List.map_toArray, List.map_cons, List.map_nil]); first | done | rfl | (simp only [List.length_drop, List.length_take]; rfl)) ?_; (with_reducible refine (marks_Marks_Parent.calls kj157 g102 x103000_1 ((rd_T35 l0 x6_1).f1) t194 t195 t196 w _ ?side1 ?side2 A209.out).mono ?_); (case side1 => repeat (first | (with_reducible first | exact HI102.out | apply IsS90.alloc | apply IsS90.drewN | apply IsS90.drew | apply IsS90.set_0 | refine IsS90.far ?_ NB102_105.out (by repeat (first | exact Ty.mk BK105.out (by decide) | apply Ty.set)) _) | exact HI102.out)); (case side2 => repeat (first | (with_reducible first | exact HB.out | apply below_alloc | apply pw_below_drewN | apply below_drew1 | refine below_set ?_ (IsS90.ge HI102.out) | refine below_set ?_ GE105.out) | exact HB.out)); rintro e w213 ⟨rfl, hi, hb, hk⟩; refine ⟨_, rfl, ?_⟩; have n0_ := Aside0.mk (Kd.R_mono (R_keepM (IsS90.apart (show IsS90 w _ g102 x103000_1 from by repeat (first | (with_reducible first | exact HI102.out | apply IsS90.alloc | apply IsS90.drewN | apply IsS90.drew | apply IsS90.set_0 | refine IsS90.far ?_ NB102_105.out (by repeat (first | exact Ty.mk BK105.out (by decide) | apply Ty.set)) _) | exact HI102.out)) (rr_ HO_4.out) (by decide)) hk (fun _ h => h.2)) (fun _ h => h.1)); have n1_ := Aside0.mk (KeepM.blk hk (g' := gb105) (o := .cells #[.int .i64 ((rd_T35 l0 x6_1).f0), .int .i64 ((rd_T35 l0 x6_1).f1), .int .i64 ((rd_T35 l0 x6_1).f2.f0.f0), .int .i64 ((rd_T35 l0 x6_1).f2.f0.f1), .bool ((rd_T35 l0 x6_1).f2.f1), .bool ((rd_T35 l0 x6_1).f2.f2), .int .i64 ((rd_T35 l0 x6_1).f3.f0), .int .i64 ((rd_T35 l0 x6_1).f3.f1), .slice A104_8 ((rd_T35 l0 x6_1).f3.f2).length c104_8] 35 (0, 0)) (kb_ BK105.out) NB105_102.out (by simp)); have n2_ := Aside0.mk (hb); have n3_ := Aside0.mk (hi); clear HO_4; clear BK105; clear HB; clear HI102; have HO_4 := n0_; have BK105 := n1_; have HB := n2_; have HI102 := n3_; clear n0_ n1_ n2_ n3_; ))
     (try simp only [Act.put, List.setIfInBounds_toArray, List.set_cons_zero, List.set_cons_succ])
     go_cut [340] (fun v340 wc => ∃ (kq : Nat) (x340_209 : Bool), v340 = .bool x340_209 ∧ Aside0 (lawP.j15 kq l0 x4_1 x5_1 x6_1 t107 t194 x340_209 t196 = some r) ∧ Aside0 (kq ≤ kj157) ∧ Aside0 (Kd.R k42 42 wc w.heap.size (fun _ => True) (.slice Ao21 x4_1.length co21) x4_1) ∧ Aside0 (wc.heap[gb105]? = some (.cells #[.int .i64 ((rd_T35 l0 x6_1).f0), .int .i64 ((rd_T35 l0 x6_1).f1), .int .i64 ((rd_T35 l0 x6_1).f2.f0.f0), .int .i64 ((rd_T35 l0 x6_1).f2.f0.f1), .bool ((rd_T35 l0 x6_1).f2.f1), .bool ((rd_T35 l0 x6_1).f2.f2), .int .i64 ((rd_T35 l0 x6_1).f3.f0), .int .i64 ((rd_T35 l0 x6_1).f3.f1), (.slice A104_8 ((rd_T35 l0 x6_1).f3.f2).length c104_8)] 35 (0, 0))) ∧ Aside0 (IsS90 w wc g102 t196) ∧ Aside0 (Below w.heap.size w wc))
     case first =>
      as_aux_lemma =>
      have H := HC210.out
      clear HC210
      by_cases c214 : t107 < 0
      rotate_left
      · rw [if_neg c214] at H
        have c214b0 : decide (t107 < 0) = false := decide_eq_false c214
        clear c214; (first | rw [c214b0] | (simp only [i64_w, i32_w]; rw [c214b0]) | skip)
        by_cases c218 : t107 ≥ 0
        · rw [if_pos c218] at H
          have c218b0 : decide (0 ≤ t107) = true := decide_eq_true c218
          clear c218; have H' := Aside0.mk H; clear H
          go_wp2
          go_meet
          case rel => exact ⟨_, ((t195 != 0)), (by first | rfl | (simp; done) | (simp [*]; done)), H', ⟨by have := HK1.out; have := HJ157.out; first | omega | exact Nat.le_refl _⟩, ⟨rr_ HO_4.out⟩, ⟨kb_ BK105.out⟩, ⟨by repeat (first | (with_reducible first | exact HI102.out | apply IsS90.alloc | apply IsS90.drewN | apply IsS90.drew | apply IsS90.set_0 | refine IsS90.far ?_ NB102_105.out (by repeat (first | exact Ty.mk BK105.out (by decide) | apply Ty.set)) _) | exact HI102.out)⟩, ⟨by repeat (first | (with_reducible first | exact HB.out | apply below_alloc | apply pw_below_drewN | apply below_drew1 | refine below_set ?_ (IsS90.ge HI102.out) | refine below_set ?_ GE105.out) | exact HB.out)⟩⟩
        rw [if_neg c218] at H
        have c218b0 : decide (0 ≤ t107) = false := decide_eq_false c218
        clear c218; have H' := Aside0.mk H; clear H
        go_wp2
        go_meet
        case rel => exact ⟨_, (false), (by first | rfl | (simp; done) | (simp [*]; done)), H', ⟨by have := HK1.out; have := HJ157.out; first | omega | exact Nat.le_refl _⟩, ⟨rr_ HO_4.out⟩, ⟨kb_ BK105.out⟩, ⟨by repeat (first | (with_reducible first | exact HI102.out | apply IsS90.alloc | apply IsS90.drewN | apply IsS90.drew | apply IsS90.set_0 | refine IsS90.far ?_ NB102_105.out (by repeat (first | exact Ty.mk BK105.out (by decide) | apply Ty.set)) _) | exact HI102.out)⟩, ⟨by repeat (first | (with_reducible first | exact HB.out | apply below_alloc | apply pw_below_drewN | apply below_drew1 | refine below_set ?_ (IsS90.ge HI102.out) | refine below_set ?_ GE105.out) | exact HB.out)⟩⟩
      rw [if_pos c214] at H
      have c214b0 : decide (t107 < 0) = true := decide_eq_true c214
      clear c214; (first | rw [c214b0] | (simp only [i64_w, i32_w]; rw [c214b0]) | skip)
      by_cases c215 : t195 = 4
      rotate_left
      · rw [if_neg c215] at H
        have c215b0 : (t195 == 4) = false := beq_eq_false_iff_ne.mpr c215
        have c215b1 : (t195 != 4) = true := bne_iff_ne.mpr c215
        have H' := Aside0.mk H; clear H
        go_wp2
        go_meet
        case rel => exact ⟨_, (true), (by first | rfl | (simp; done) | (simp [*]; done)), H', ⟨by have := HK1.out; have := HJ157.out; first | omega | exact Nat.le_refl _⟩, ⟨rr_ HO_4.out⟩, ⟨kb_ BK105.out⟩, ⟨by repeat (first | (with_reducible first | exact HI102.out | apply IsS90.alloc | apply IsS90.drewN | apply IsS90.drew | apply IsS90.set_0 | refine IsS90.far ?_ NB102_105.out (by repeat (first | exact Ty.mk BK105.out (by decide) | apply Ty.set)) _) | exact HI102.out)⟩, ⟨by repeat (first | (with_reducible first | exact HB.out | apply below_alloc | apply pw_below_drewN | apply below_drew1 | refine below_set ?_ (IsS90.ge HI102.out) | refine below_set ?_ GE105.out) | exact HB.out)⟩⟩
      rw [if_pos c215] at H
      have c215b0 : (t195 == 4) = true := beq_iff_eq.mpr c215
      have c215b1 : (t195 != 4) = false := bne_eq_false_iff_eq.mpr c215
      clear c215
      by_cases c216 : t194 = 0
      rotate_left
      · rw [if_neg c216] at H
        have c216b0 : (t194 == 0) = false := beq_eq_false_iff_ne.mpr c216
        have c216b1 : (t194 != 0) = true := bne_iff_ne.mpr c216
        have H' := Aside0.mk H; clear H
        go_wp2
        go_meet
        case rel => exact ⟨_, (true), (by first | rfl | (simp; done) | (simp [*]; done)), H', ⟨by have := HK1.out; have := HJ157.out; first | omega | exact Nat.le_refl _⟩, ⟨rr_ HO_4.out⟩, ⟨kb_ BK105.out⟩, ⟨by repeat (first | (with_reducible first | exact HI102.out | apply IsS90.alloc | apply IsS90.drewN | apply IsS90.drew | apply IsS90.set_0 | refine IsS90.far ?_ NB102_105.out (by repeat (first | exact Ty.mk BK105.out (by decide) | apply Ty.set)) _) | exact HI102.out)⟩, ⟨by repeat (first | (with_reducible first | exact HB.out | apply below_alloc | apply pw_below_drewN | apply below_drew1 | refine below_set ?_ (IsS90.ge HI102.out) | refine below_set ?_ GE105.out) | exact HB.out)⟩⟩
      rw [if_pos c216] at H
      have c216b0 : (t194 == 0) = true := beq_iff_eq.mpr c216
      have c216b1 : (t194 != 0) = false := bne_eq_false_iff_eq.mpr c216
      clear c216
      by_cases c217 : t107 ≥ 0
      · rw [if_pos c217] at H
        have c217b0 : decide (0 ≤ t107) = true := decide_eq_true c217
        clear c217; have H' := Aside0.mk H; clear H
        go_wp2
        go_meet
        case rel => exact ⟨_, ((t195 != 0)), (by first | rfl | (simp; done) | (simp [*]; done)), H', ⟨by have := HK1.out; have := HJ157.out; first | omega | exact Nat.le_refl _⟩, ⟨rr_ HO_4.out⟩, ⟨kb_ BK105.out⟩, ⟨by repeat (first | (with_reducible first | exact HI102.out | apply IsS90.alloc | apply IsS90.drewN | apply IsS90.drew | apply IsS90.set_0 | refine IsS90.far ?_ NB102_105.out (by repeat (first | exact Ty.mk BK105.out (by decide) | apply Ty.set)) _) | exact HI102.out)⟩, ⟨by repeat (first | (with_reducible first | exact HB.out | apply below_alloc | apply pw_below_drewN | apply below_drew1 | refine below_set ?_ (IsS90.ge HI102.out) | refine below_set ?_ GE105.out) | exact HB.out)⟩⟩
      rw [if_neg c217] at H
      have c217b0 : decide (0 ≤ t107) = false := decide_eq_false c217
      clear c217; have H' := Aside0.mk H; clear H
      go_wp2
      go_meet
      case rel => exact ⟨_, (false), (by first | rfl | (simp; done) | (simp [*]; done)), H', ⟨by have := HK1.out; have := HJ157.out; first | omega | exact Nat.le_refl _⟩, ⟨rr_ HO_4.out⟩, ⟨kb_ BK105.out⟩, ⟨by repeat (first | (with_reducible first | exact HI102.out | apply IsS90.alloc | apply IsS90.drewN | apply IsS90.drew | apply IsS90.set_0 | refine IsS90.far ?_ NB102_105.out (by repeat (first | exact Ty.mk BK105.out (by decide) | apply Ty.set)) _) | exact HI102.out)⟩, ⟨by repeat (first | (with_reducible first | exact HB.out | apply below_alloc | apply pw_below_drewN | apply below_drew1 | refine below_set ?_ (IsS90.ge HI102.out) | refine below_set ?_ GE105.out) | exact HB.out)⟩⟩
     as_aux_lemma =>
     clear HC210; (try clear c160); (try clear c208b0); (try clear c208b1); (try clear c214); (try clear c214b0); (try clear c215); (try clear c215b0); (try clear c215b1); (try clear c216); (try clear c216b0); (try clear c216b1); (try clear c217); (try clear c217b0); (try clear c218); (try clear c218b0); (try clear hcz212_0); (try clear hcz212_1); (try clear hcz212_2); (try clear hcz212_3); (try clear hcz212_4); (try clear hcz212_5); (try clear hcz212_6); (try clear hcz212_7); (try clear hcz212_8)
     (try clear hfz212_0); (try clear hfz212_1); (try clear hfz212_2); (try clear hfz212_3); (try clear hfz212_4); (try clear hfz212_5); (try clear hfz212_6); (try clear hfz212_7); (try clear hfz212_8); obtain ⟨kq, x340_209, rfl, HA, HJ209, HO_4, BK105, HI102, HB⟩ := hcut
     cases kq with
     | zero => exact absurd HA.out (by simp [lawP.j15])
     | succ kj209 =>
      have H := HA.out
      clear HA
      simp only [lawP.j15] at H
      by_cases c219 : x340_209 = true
      · subst c219
        have H1 : (none) = some r := by rw [if_pos rfl] at H; exact H
        clear H
        have H := H1
        clear H1; exact absurd H (by simp)
      replace c219 := Bool.eq_false_iff.mpr c219
      subst c219
      have H1 : (if t107 ≥ 0 then (if 0 ≤ t107 then (if t107 < (x4_1.length : Int) then ((stylusref04_Parent.f kj209 x4_1 ((rd_T42 x4_1 t107).f0) ((rd_T42 x4_1 t107).f1) ((rd_T42 x4_1 t107).f2) ((rd_T42 x4_1 t107).f3) ((rd_T42 x4_1 t107).f4)).bind fun t198 => (if t194 = t198 then (lawP.j16 kj209 l0 x4_1 x5_1 x6_1 t196) else (none))) else (none)) else (none)) else (lawP.j16 kj209 l0 x4_1 x5_1 x6_1 t196)) = some r := by rw [if_neg (show ¬ (false = true) by decide)] at H; exact H
      clear H
      have H := H1
      clear H1
      by_cases c220 : t107 ≥ 0
      rotate_left
      · rw [if_neg c220] at H
        have c220b0 : decide (0 ≤ t107) = false := decide_eq_false c220
        clear c220; have H' := Aside0.mk H; clear H
        go_wp2
        go_meet
        case rel => exact ⟨_, (x4_1), (x5_1), (t196), (by first | rfl | (simp; done) | (simp [*]; done)), H', ⟨by have := HK1.out; have := HJ157.out; have := HJ209.out; first | omega | exact Nat.le_refl _⟩, ⟨rr_ HO_4.out⟩, ⟨kb_ BK105.out⟩, ⟨by repeat (first | (with_reducible first | exact HI102.out | apply IsS90.alloc | apply IsS90.drewN | apply IsS90.drew | apply IsS90.set_0 | refine IsS90.far ?_ NB102_105.out (by repeat (first | exact Ty.mk BK105.out (by decide) | apply Ty.set)) _) | exact HI102.out)⟩, ⟨by repeat (first | (with_reducible first | exact HB.out | apply below_alloc | apply pw_below_drewN | apply below_drew1 | refine below_set ?_ (IsS90.ge HI102.out) | refine below_set ?_ GE105.out) | exact HB.out)⟩⟩
      rw [if_pos c220] at H
      have c220b0 : decide (0 ≤ t107) = true := decide_eq_true c220
      clear c220
      by_cases c221 : 0 ≤ t107
      rotate_left
      · rw [if_neg c221] at H
        exact absurd H (by simp)
      rw [if_pos c221] at H
      have c221b0 : decide (0 ≤ t107) = true := decide_eq_true c221
      clear c221
      by_cases c222 : t107 < (x4_1.length : Int)
      rotate_left
      · rw [if_neg c222] at H
        exact absurd H (by simp)
      rw [if_pos c222] at H
      have c222b0 : decide (t107 < (x4_1.length : Int)) = true := decide_eq_true c222
      clear c222
      replace H := Option.bind_eq_some_iff.mp H
      obtain ⟨t198, A2230, H⟩ := H
      replace H : (if t194 = t198 then (lawP.j16 kj209 l0 x4_1 x5_1 x6_1 t196) else (none)) = some r := H
      have A223 := Aside0.mk A2230; clear A2230
      by_cases c224 : t194 = t198
      rotate_left
      · rw [if_neg c224] at H
        exact absurd H (by simp)
      rw [if_pos c224] at H
      have c224b0 : (t194 == t198) = true := beq_iff_eq.mpr c224
      have c224b1 : (t194 != t198) = false := bne_eq_false_iff_eq.mpr c224
      clear c224; have H' := Aside0.mk H; clear H
      have p197 : 0 ≤ (t107 : Int) := od_
      have q197 : t107 < (x4_1.length : Int) := od_
      obtain ⟨ad197, e197, hx197_0, hx197_1, hx197_2, hx197_3, hx197_4⟩ := at_T42 (Kd.R_reads' HO_4.out).2.2 t107 p197 q197
      cases e197
      replace p197 := eq_true p197; replace q197 := eq_true q197
      go_wp2_with (first | ((with_reducible refine gate_callee (f := 21) rfl ?_); refine goesL_ (some 349) rfl rfl Try.func21 (by kernel_rfl) rfl #[.slice (some ad197) x4_1.length co21, .agg #[.int .i64 ((rd_T42 x4_1 t107).f0), .int .i64 ((rd_T42 x4_1 t107).f1), .bool ((rd_T42 x4_1 t107).f2), .bool ((rd_T42 x4_1 t107).f3), .int .i64 ((rd_T42 x4_1 t107).f4)]] rfl (by (try simp only [List.map_toArray, List.map_cons, List.map_nil]); first | done | rfl | (simp only [List.length_drop, List.length_take]; rfl)) ?_; (with_reducible refine (stylusref04_Parent.calls kj209 _ _ x4_1 ((rd_T42 x4_1 t107).f0) ((rd_T42 x4_1 t107).f1) ((rd_T42 x4_1 t107).f2) ((rd_T42 x4_1 t107).f3) ((rd_T42 x4_1 t107).f4) t198 _ ?side1 ?side2 A223.out).mono ?_); (case side1 => repeat (first | exact (Kd.R_reads' HO_4.out).2.2 | (with_reducible refine Kd.C_alloc ?_ _) | (with_reducible refine Kd.C_drewN ?_ _) | (with_reducible refine Kd.C_drew ?_))); (case side2 => exact (Kd.R_reads' HO_4.out).2.1); rintro e w225 ⟨rfl, hb⟩; refine ⟨_, rfl, ?_⟩; have n0_ := Aside0.mk (Kd.R_below (rr_ HO_4.out) hb); have n1_ := Aside0.mk (blk_below (g := gb105) (o := .cells #[.int .i64 ((rd_T35 l0 x6_1).f0), .int .i64 ((rd_T35 l0 x6_1).f1), .int .i64 ((rd_T35 l0 x6_1).f2.f0.f0), .int .i64 ((rd_T35 l0 x6_1).f2.f0.f1), .bool ((rd_T35 l0 x6_1).f2.f1), .bool ((rd_T35 l0 x6_1).f2.f2), .int .i64 ((rd_T35 l0 x6_1).f3.f0), .int .i64 ((rd_T35 l0 x6_1).f3.f1), .slice A104_8 ((rd_T35 l0 x6_1).f3.f2).length c104_8] 35 (0, 0)) (kb_ BK105.out) hb); have n2_ := Aside0.mk (IsS90.below (by repeat (first | (with_reducible first | exact HI102.out | apply IsS90.alloc | apply IsS90.drewN | apply IsS90.drew | apply IsS90.set_0 | refine IsS90.far ?_ NB102_105.out (by repeat (first | exact Ty.mk BK105.out (by decide) | apply Ty.set)) _) | exact HI102.out)) hb); have n3_ := Aside0.mk (below_step (by repeat (first | (with_reducible first | exact HB.out | apply below_alloc | apply pw_below_drewN | apply below_drew1 | refine below_set ?_ (IsS90.ge HI102.out) | refine below_set ?_ GE105.out) | exact HB.out)) hb); clear HO_4; clear BK105; clear HI102; clear HB; have HO_4 := n0_; have BK105 := n1_; have HI102 := n2_; have HB := n3_; clear n0_ n1_ n2_ n3_; (try clear hb); (try clear hk); (try clear hi)))
      go_meet
      case rel => exact ⟨_, (x4_1), (x5_1), (t196), (by first | rfl | (simp; done) | (simp [*]; done)), H', ⟨by have := HK1.out; have := HJ157.out; have := HJ209.out; first | omega | exact Nat.le_refl _⟩, ⟨rr_ HO_4.out⟩, ⟨kb_ BK105.out⟩, ⟨by repeat (first | (with_reducible first | exact HI102.out | apply IsS90.alloc | apply IsS90.drewN | apply IsS90.drew | apply IsS90.set_0 | refine IsS90.far ?_ NB102_105.out (by repeat (first | exact Ty.mk BK105.out (by decide) | apply Ty.set)) _) | exact HI102.out)⟩, ⟨by repeat (first | (with_reducible first | exact HB.out | apply below_alloc | apply pw_below_drewN | apply below_drew1 | refine below_set ?_ (IsS90.ge HI102.out) | refine below_set ?_ GE105.out) | exact HB.out)⟩⟩
   as_aux_lemma =>
   subst c160
   have H1 : (lawP.l2 kj157 l0 x4_1 x5_1 x6_1 ([] : List Int) 0 x103000_1 ((rd_T35 l0 x6_1).f0) ((rd_T35 l0 x6_1).f1) ((rd_T35 l0 x6_1).f2.f0.f0) ((rd_T35 l0 x6_1).f2.f0.f1) ((rd_T35 l0 x6_1).f2.f1) ((rd_T35 l0 x6_1).f2.f2) ((rd_T35 l0 x6_1).f3.f0) ((rd_T35 l0 x6_1).f3.f1) ((rd_T35 l0 x6_1).f3.f2)) = some r := by rw [if_pos rfl] at H; exact H
   clear H
   have H := H1
   clear H1; have H' := Aside0.mk H; clear H
   go_wp2
   go_loopg [19, 20] kj157 (fun kq v19 v20 w' => ∃ (x19_3 : List Int) (x20_3 : Int), v20 = .int .i64 x20_3 ∧ Aside0 (lawP.l2 kq l0 x4_1 x5_1 x6_1 x19_3 x20_3 x103000_1 ((rd_T35 l0 x6_1).f0) ((rd_T35 l0 x6_1).f1) ((rd_T35 l0 x6_1).f2.f0.f0) ((rd_T35 l0 x6_1).f2.f0.f1) ((rd_T35 l0 x6_1).f2.f1) ((rd_T35 l0 x6_1).f2.f2) ((rd_T35 l0 x6_1).f3.f0) ((rd_T35 l0 x6_1).f3.f1) ((rd_T35 l0 x6_1).f3.f2) = some r) ∧ Aside0 (kq ≤ kj157) ∧ Aside0 (Kd.R k42 42 w' w.heap.size (fun _ => True) (.slice Ao21 x4_1.length co21) x4_1) ∧ Aside0 (Kd.R (Kd.int .i64) 3 w' w.heap.size (fun _ => True) v19 x19_3) ∧ Aside0 (w'.heap[gb105]? = some (.cells #[.int .i64 ((rd_T35 l0 x6_1).f0), .int .i64 ((rd_T35 l0 x6_1).f1), .int .i64 ((rd_T35 l0 x6_1).f2.f0.f0), .int .i64 ((rd_T35 l0 x6_1).f2.f0.f1), .bool ((rd_T35 l0 x6_1).f2.f1), .bool ((rd_T35 l0 x6_1).f2.f2), .int .i64 ((rd_T35 l0 x6_1).f3.f0), .int .i64 ((rd_T35 l0 x6_1).f3.f1), (.slice A104_8 ((rd_T35 l0 x6_1).f3.f2).length c104_8)] 35 (0, 0))) ∧ Aside0 (IsS90 w w' g102 x103000_1) ∧ Aside0 (Below w.heap.size w w'))
   case atStart => exact ⟨(([] : List Int)), (0), (by first | rfl | (simp; done) | (simp [*]; done)), H', ⟨Nat.le_refl _⟩, ⟨rr_ HO_4.out⟩, ⟨by first | exact Kd.R_nil _ _ _ _ _ | exact Kd.N_nil _ _ _ _ _ | exact Kd.V_nil _ _ _ _ _ | exact Kd.Q_nil _ _ _ _ _ | exact Kd.S_nil _ _ _ _ _⟩, ⟨kb_ BK105.out⟩, ⟨by repeat (first | (with_reducible first | exact HI102.out | apply IsS90.alloc | apply IsS90.drewN | apply IsS90.drew | apply IsS90.set_0 | refine IsS90.far ?_ NB102_105.out (by repeat (first | exact Ty.mk BK105.out (by decide) | apply Ty.set)) _) | exact HI102.out)⟩, ⟨by repeat (first | (with_reducible first | exact HB.out | apply below_alloc | apply pw_below_drewN | apply below_drew1 | refine below_set ?_ (IsS90.ge HI102.out) | refine below_set ?_ GE105.out) | exact HB.out)⟩⟩
   as_aux_lemma =>
   clear H'; (try clear c90); (try clear c90b0); (try clear c90b1); (try clear c126); (try clear c126b0); (try clear c126b1); (try clear c159); (try clear c159b0); (try clear c159b1); (try clear c160)
   obtain ⟨x19_3, x20_3, rfl, HA, HK3, HO_4, HO_19, BK105, HI102, HB⟩ := hrel
   cases gk with
   | zero => exact absurd HA.out (by simp [lawP.l2])
   | succ k3 =>
    have H := HA.out
    clear HA
    simp only [lawP.l2] at H
    by_cases c161 : x20_3 < (x4_1.length : Int)
    rotate_left
    · as_aux_lemma =>
      rw [if_neg c161] at H
      have c161b0 : decide (x20_3 < (x4_1.length : Int)) = false := decide_eq_false c161
      clear c161
      replace H := Option.bind_eq_some_iff.mp H
      obtain ⟨⟨t185, t188⟩, A1930, H⟩ := H
      replace H : (if ((rd_T35 l0 x6_1).f0) = 5 then ((marks_Marks_Over.f k3 t188 ((rd_T35 l0 x6_1).f2.f0.f0) ((rd_T35 l0 x6_1).f2.f0.f1)).bind fun bt189 => (lawP.j14 k3 l0 x4_1 x5_1 x6_1 x19_3 bt189.1 bt189.2)) else (lawP.j14 k3 l0 x4_1 x5_1 x6_1 x19_3 t185 t188)) = some r := H
      have A193 := Aside0.mk A1930; clear A1930; have HC194 := Aside0.mk H; clear H
      have hnb195 := NB105_102.out
      have hnc195 := NB102_105.out
      have hcz196_0 : wr.cell? ⟨gb105, 0, none⟩ = some (.int .i64 ((rd_T35 l0 x6_1).f0)) := (blk_cell BK105.out 0).trans rfl
      have hcz196_1 : wr.cell? ⟨gb105, 1, none⟩ = some (.int .i64 ((rd_T35 l0 x6_1).f1)) := (blk_cell BK105.out 1).trans rfl
      have hcz196_2 : wr.cell? ⟨gb105, 2, none⟩ = some (.int .i64 ((rd_T35 l0 x6_1).f2.f0.f0)) := (blk_cell BK105.out 2).trans rfl
      have hcz196_3 : wr.cell? ⟨gb105, 3, none⟩ = some (.int .i64 ((rd_T35 l0 x6_1).f2.f0.f1)) := (blk_cell BK105.out 3).trans rfl
      have hcz196_4 : wr.cell? ⟨gb105, 4, none⟩ = some (.bool ((rd_T35 l0 x6_1).f2.f1)) := (blk_cell BK105.out 4).trans rfl
      have hcz196_5 : wr.cell? ⟨gb105, 5, none⟩ = some (.bool ((rd_T35 l0 x6_1).f2.f2)) := (blk_cell BK105.out 5).trans rfl
      have hcz196_6 : wr.cell? ⟨gb105, 6, none⟩ = some (.int .i64 ((rd_T35 l0 x6_1).f3.f0)) := (blk_cell BK105.out 6).trans rfl
      have hcz196_7 : wr.cell? ⟨gb105, 7, none⟩ = some (.int .i64 ((rd_T35 l0 x6_1).f3.f1)) := (blk_cell BK105.out 7).trans rfl
      have hcz196_8 : wr.cell? ⟨gb105, 8, none⟩ = some (.slice A104_8 ((rd_T35 l0 x6_1).f3.f2).length c104_8) := (blk_cell BK105.out 8).trans rfl
      have hfz196_0 := blk_frozen BK105.out 0
      have hfz196_1 := blk_frozen BK105.out 1
      have hfz196_2 := blk_frozen BK105.out 2
      have hfz196_3 := blk_frozen BK105.out 3
      have hfz196_4 := blk_frozen BK105.out 4
      have hfz196_5 := blk_frozen BK105.out 5
      have hfz196_6 := blk_frozen BK105.out 6
      have hfz196_7 := blk_frozen BK105.out 7
      have hfz196_8 := blk_frozen BK105.out 8
      go_upto_if 304 with (first | ((with_reducible refine gate_callee (f := 17) rfl ?_); refine goesL_ (some 301) rfl rfl Try.func17 (by kernel_rfl) rfl #[.pointer (some ⟨g102, 0, none⟩), .int .i64 ((rd_T35 l0 x6_1).f1)] rfl (by (try simp only [List.map_toArray, List.map_cons, List.map_nil]); first | done | rfl | (simp only [List.length_drop, List.length_take]; rfl)) ?_; (with_reducible refine (marks_Marks_Stab.calls k3 g102 x103000_1 ((rd_T35 l0 x6_1).f1) t185 t188 w _ ?side1 ?side2 A193.out).mono ?_); (case side1 => repeat (first | (with_reducible first | exact HI102.out | apply IsS90.alloc | apply IsS90.drewN | apply IsS90.drew | apply IsS90.set_0 | refine IsS90.far ?_ NB102_105.out (by repeat (first | exact Ty.mk BK105.out (by decide) | apply Ty.set)) _) | exact HI102.out)); (case side2 => repeat (first | (with_reducible first | exact HB.out | apply below_alloc | apply pw_below_drewN | apply below_drew1 | refine below_set ?_ (IsS90.ge HI102.out) | refine below_set ?_ GE105.out) | exact HB.out)); rintro e w197 ⟨v186, rfl, ho0, hi, hb, hk⟩; refine ⟨_, rfl, ?_⟩; have n0_ := Aside0.mk (Kd.R_mono (R_keepM (IsS90.apart (show IsS90 w _ g102 x103000_1 from by repeat (first | (with_reducible first | exact HI102.out | apply IsS90.alloc | apply IsS90.drewN | apply IsS90.drew | apply IsS90.set_0 | refine IsS90.far ?_ NB102_105.out (by repeat (first | exact Ty.mk BK105.out (by decide) | apply Ty.set)) _) | exact HI102.out)) (rr_ HO_4.out) (by decide)) hk (fun _ h => h.2)) (fun _ h => h.1)); have n1_ := Aside0.mk (Kd.R_mono (Kd.R_told (R_oldKM (IsS90.apart (show IsS90 w _ g102 x103000_1 from by repeat (first | (with_reducible first | exact HI102.out | apply IsS90.alloc | apply IsS90.drewN | apply IsS90.drew | apply IsS90.set_0 | refine IsS90.far ?_ NB102_105.out (by repeat (first | exact Ty.mk BK105.out (by decide) | apply Ty.set)) _) | exact HI102.out)) (rr_ HO_19.out) (by decide)) hk) (Kd.R_base ho0)) (fun _ h_ => h_.1)); have n2_ := Aside0.mk (KeepM.blk hk (g' := gb105) (o := .cells #[.int .i64 ((rd_T35 l0 x6_1).f0), .int .i64 ((rd_T35 l0 x6_1).f1), .int .i64 ((rd_T35 l0 x6_1).f2.f0.f0), .int .i64 ((rd_T35 l0 x6_1).f2.f0.f1), .bool ((rd_T35 l0 x6_1).f2.f1), .bool ((rd_T35 l0 x6_1).f2.f2), .int .i64 ((rd_T35 l0 x6_1).f3.f0), .int .i64 ((rd_T35 l0 x6_1).f3.f1), .slice A104_8 ((rd_T35 l0 x6_1).f3.f2).length c104_8] 35 (0, 0)) (kb_ BK105.out) NB105_102.out (by simp)); have n3_ := Aside0.mk (Kd.R_lower (Kd.R_new' ho0 (Kd.R_lt (rr_ HO_19.out))) (below_size (by repeat (first | (with_reducible first | exact HB.out | apply below_alloc | apply pw_below_drewN | apply below_drew1 | refine below_set ?_ (IsS90.ge HI102.out) | refine below_set ?_ GE105.out) | exact HB.out)))); have n4_ := Aside0.mk (hb); have n5_ := Aside0.mk (hi); clear HO_4; clear HO_19; clear BK105; clear HB; clear HI102; have HO_4 := n0_; have HO_19 := n1_; have BK105 := n2_; have HO187 := n3_; have HB := n4_; have HI102 := n5_; clear n0_ n1_ n2_ n3_ n4_ n5_; (try clear hb); (try clear hk); (try clear hi); have hcz198_0 : w197.cell? ⟨gb105, 0, none⟩ = some (.int .i64 ((rd_T35 l0 x6_1).f0)) := (blk_cell BK105.out 0).trans rfl; have hcz198_1 : w197.cell? ⟨gb105, 1, none⟩ = some (.int .i64 ((rd_T35 l0 x6_1).f1)) := (blk_cell BK105.out 1).trans rfl; have hcz198_2 : w197.cell? ⟨gb105, 2, none⟩ = some (.int .i64 ((rd_T35 l0 x6_1).f2.f0.f0)) := (blk_cell BK105.out 2).trans rfl; have hcz198_3 : w197.cell? ⟨gb105, 3, none⟩ = some (.int .i64 ((rd_T35 l0 x6_1).f2.f0.f1)) := (blk_cell BK105.out 3).trans rfl; have hcz198_4 : w197.cell? ⟨gb105, 4, none⟩ = some (.bool ((rd_T35 l0 x6_1).f2.f1)) := (blk_cell BK105.out 4).trans rfl; have hcz198_5 : w197.cell? ⟨gb105, 5, none⟩ = some (.bool ((rd_T35 l0 x6_1).f2.f2)) := (blk_cell BK105.out 5).trans rfl; have hcz198_6 : w197.cell? ⟨gb105, 6, none⟩ = some (.int .i64 ((rd_T35 l0 x6_1).f3.f0)) := (blk_cell BK105.out 6).trans rfl; have hcz198_7 : w197.cell? ⟨gb105, 7, none⟩ = some (.int .i64 ((rd_T35 l0 x6_1).f3.f1)) := (blk_cell BK105.out 7).trans rfl; have hcz198_8 : w197.cell? ⟨gb105, 8, none⟩ = some (.slice A104_8 ((rd_T35 l0 x6_1).f3.f2).length c104_8) := (blk_cell BK105.out 8).trans rfl; have hfz198_0 := blk_frozen BK105.out 0; have hfz198_1 := blk_frozen BK105.out 1; have hfz198_2 := blk_frozen BK105.out 2; have hfz198_3 := blk_frozen BK105.out 3; have hfz198_4 := blk_frozen BK105.out 4; have hfz198_5 := blk_frozen BK105.out 5; have hfz198_6 := blk_frozen BK105.out 6; have hfz198_7 := blk_frozen BK105.out 7; have hfz198_8 := blk_frozen BK105.out 8))
      (try simp only [Act.put, List.setIfInBounds_toArray, List.set_cons_zero, List.set_cons_succ])
      go_cut [23] (fun v23 wc => ∃ (kq : Nat) (x23_193 : List Int) (x103000_193 : (List S94 × Int)), Aside0 (lawP.j14 kq l0 x4_1 x5_1 x6_1 x19_3 x23_193 x103000_193 = some r) ∧ Aside0 (kq ≤ k3) ∧ Aside0 (Kd.R k42 42 wc w.heap.size (fun _ => True) (.slice Ao21 x4_1.length co21) x4_1) ∧ Aside0 (Kd.R (Kd.int .i64) 3 wc w.heap.size (fun k_ => some k_ ≠ (v23 : Value).ownBlock) u19 x19_3) ∧ Aside0 (Kd.R (Kd.int .i64) 3 wc w.heap.size (fun k_ => some k_ ≠ (u19 : Value).ownBlock) v23 x23_193) ∧ Aside0 (wc.heap[gb105]? = some (.cells #[.int .i64 ((rd_T35 l0 x6_1).f0), .int .i64 ((rd_T35 l0 x6_1).f1), .int .i64 ((rd_T35 l0 x6_1).f2.f0.f0), .int .i64 ((rd_T35 l0 x6_1).f2.f0.f1), .bool ((rd_T35 l0 x6_1).f2.f1), .bool ((rd_T35 l0 x6_1).f2.f2), .int .i64 ((rd_T35 l0 x6_1).f3.f0), .int .i64 ((rd_T35 l0 x6_1).f3.f1), (.slice A104_8 ((rd_T35 l0 x6_1).f3.f2).length c104_8)] 35 (0, 0))) ∧ Aside0 (IsS90 w wc g102 x103000_193) ∧ Aside0 (Below w.heap.size w wc))
      case first =>
       as_aux_lemma =>
       have H := HC194.out
       clear HC194
       by_cases c199 : ((rd_T35 l0 x6_1).f0) = 5
       rotate_left
       · rw [if_neg c199] at H
         have c199b0 : (((rd_T35 l0 x6_1).f0) == 5) = false := beq_eq_false_iff_ne.mpr c199
         have c199b1 : (((rd_T35 l0 x6_1).f0) != 5) = true := bne_iff_ne.mpr c199
         (first | rw [c199b0] | (simp only [i64_w, i32_w]; rw [c199b0]) | skip); have H' := Aside0.mk H; clear H
         go_wp2
         go_meet
         case rel => exact ⟨_, (t185), (t188), H', ⟨by have := HK1.out; have := HJ157.out; have := HK3.out; first | omega | exact Nat.le_refl _⟩, ⟨rr_ HO_4.out⟩, ⟨rr_ (Kd.R_mono HO_19.out (fun _ hk => hk.2))⟩, ⟨rr_ (Kd.R_mono HO187.out (fun _ hk => hk.2))⟩, ⟨kb_ BK105.out⟩, ⟨by repeat (first | (with_reducible first | exact HI102.out | apply IsS90.alloc | apply IsS90.drewN | apply IsS90.drew | apply IsS90.set_0 | refine IsS90.far ?_ NB102_105.out (by repeat (first | exact Ty.mk BK105.out (by decide) | apply Ty.set)) _) | exact HI102.out)⟩, ⟨by repeat (first | (with_reducible first | exact HB.out | apply below_alloc | apply pw_below_drewN | apply below_drew1 | refine below_set ?_ (IsS90.ge HI102.out) | refine below_set ?_ GE105.out) | exact HB.out)⟩⟩
       rw [if_pos c199] at H
       have c199b0 : (((rd_T35 l0 x6_1).f0) == 5) = true := beq_iff_eq.mpr c199
       have c199b1 : (((rd_T35 l0 x6_1).f0) != 5) = false := bne_eq_false_iff_eq.mpr c199
       clear c199; (first | rw [c199b0] | (simp only [i64_w, i32_w]; rw [c199b0]) | skip)
       replace H := Option.bind_eq_some_iff.mp H
       obtain ⟨⟨t189, t192⟩, A2000, H⟩ := H
       replace H : (lawP.j14 k3 l0 x4_1 x5_1 x6_1 x19_3 t189 t192) = some r := H
       have A200 := Aside0.mk A2000; clear A2000; have H' := Aside0.mk H; clear H
       have hnb201 := NB105_102.out
       have hnc201 := NB102_105.out
       have hcz202_0 : w197.cell? ⟨gb105, 0, none⟩ = some (.int .i64 ((rd_T35 l0 x6_1).f0)) := (blk_cell BK105.out 0).trans rfl
       have hcz202_1 : w197.cell? ⟨gb105, 1, none⟩ = some (.int .i64 ((rd_T35 l0 x6_1).f1)) := (blk_cell BK105.out 1).trans rfl
       have hcz202_2 : w197.cell? ⟨gb105, 2, none⟩ = some (.int .i64 ((rd_T35 l0 x6_1).f2.f0.f0)) := (blk_cell BK105.out 2).trans rfl
       have hcz202_3 : w197.cell? ⟨gb105, 3, none⟩ = some (.int .i64 ((rd_T35 l0 x6_1).f2.f0.f1)) := (blk_cell BK105.out 3).trans rfl
       have hcz202_4 : w197.cell? ⟨gb105, 4, none⟩ = some (.bool ((rd_T35 l0 x6_1).f2.f1)) := (blk_cell BK105.out 4).trans rfl
       have hcz202_5 : w197.cell? ⟨gb105, 5, none⟩ = some (.bool ((rd_T35 l0 x6_1).f2.f2)) := (blk_cell BK105.out 5).trans rfl
       have hcz202_6 : w197.cell? ⟨gb105, 6, none⟩ = some (.int .i64 ((rd_T35 l0 x6_1).f3.f0)) := (blk_cell BK105.out 6).trans rfl
       have hcz202_7 : w197.cell? ⟨gb105, 7, none⟩ = some (.int .i64 ((rd_T35 l0 x6_1).f3.f1)) := (blk_cell BK105.out 7).trans rfl
       have hcz202_8 : w197.cell? ⟨gb105, 8, none⟩ = some (.slice A104_8 ((rd_T35 l0 x6_1).f3.f2).length c104_8) := (blk_cell BK105.out 8).trans rfl
       have hfz202_0 := blk_frozen BK105.out 0
       have hfz202_1 := blk_frozen BK105.out 1
       have hfz202_2 := blk_frozen BK105.out 2
       have hfz202_3 := blk_frozen BK105.out 3
       have hfz202_4 := blk_frozen BK105.out 4
       have hfz202_5 := blk_frozen BK105.out 5
       have hfz202_6 := blk_frozen BK105.out 6
       have hfz202_7 := blk_frozen BK105.out 7
       have hfz202_8 := blk_frozen BK105.out 8
       go_wp2_with (first | ((with_reducible refine gate_callee (f := 18) rfl ?_); refine goesL_ (some 309) rfl rfl Try.func18 (by kernel_rfl) rfl #[.pointer (some ⟨g102, 0, none⟩), .agg #[.int .i64 ((rd_T35 l0 x6_1).f2.f0.f0), .int .i64 ((rd_T35 l0 x6_1).f2.f0.f1)]] rfl (by (try simp only [List.map_toArray, List.map_cons, List.map_nil]); first | done | rfl | (simp only [List.length_drop, List.length_take]; rfl)) ?_; (with_reducible refine (marks_Marks_Over.calls k3 g102 t188 ((rd_T35 l0 x6_1).f2.f0.f0) ((rd_T35 l0 x6_1).f2.f0.f1) t189 t192 w _ ?side1 ?side2 A200.out).mono ?_); (case side1 => repeat (first | (with_reducible first | exact HI102.out | apply IsS90.alloc | apply IsS90.drewN | apply IsS90.drew | apply IsS90.set_0 | refine IsS90.far ?_ NB102_105.out (by repeat (first | exact Ty.mk BK105.out (by decide) | apply Ty.set)) _) | exact HI102.out)); (case side2 => repeat (first | (with_reducible first | exact HB.out | apply below_alloc | apply pw_below_drewN | apply below_drew1 | refine below_set ?_ (IsS90.ge HI102.out) | refine below_set ?_ GE105.out) | exact HB.out)); rintro e w203 ⟨v190, rfl, ho0, hi, hb, hk⟩; refine ⟨_, rfl, ?_⟩; have n0_ := Aside0.mk (Kd.R_mono (R_keepM (IsS90.apart (show IsS90 w _ g102 t188 from by repeat (first | (with_reducible first | exact HI102.out | apply IsS90.alloc | apply IsS90.drewN | apply IsS90.drew | apply IsS90.set_0 | refine IsS90.far ?_ NB102_105.out (by repeat (first | exact Ty.mk BK105.out (by decide) | apply Ty.set)) _) | exact HI102.out)) (rr_ HO_4.out) (by decide)) hk (fun _ h => h.2)) (fun _ h => h.1)); have n1_ := Aside0.mk (Kd.R_mono (Kd.R_told (R_oldKM (IsS90.apart (show IsS90 w _ g102 t188 from by repeat (first | (with_reducible first | exact HI102.out | apply IsS90.alloc | apply IsS90.drewN | apply IsS90.drew | apply IsS90.set_0 | refine IsS90.far ?_ NB102_105.out (by repeat (first | exact Ty.mk BK105.out (by decide) | apply Ty.set)) _) | exact HI102.out)) (rr_ HO_19.out) (by decide)) hk) (Kd.R_base ho0)) (fun _ h_ => h_.1)); have n2_ := Aside0.mk (KeepM.blk hk (g' := gb105) (o := .cells #[.int .i64 ((rd_T35 l0 x6_1).f0), .int .i64 ((rd_T35 l0 x6_1).f1), .int .i64 ((rd_T35 l0 x6_1).f2.f0.f0), .int .i64 ((rd_T35 l0 x6_1).f2.f0.f1), .bool ((rd_T35 l0 x6_1).f2.f1), .bool ((rd_T35 l0 x6_1).f2.f2), .int .i64 ((rd_T35 l0 x6_1).f3.f0), .int .i64 ((rd_T35 l0 x6_1).f3.f1), .slice A104_8 ((rd_T35 l0 x6_1).f3.f2).length c104_8] 35 (0, 0)) (kb_ BK105.out) NB105_102.out (by simp)); have n3_ := Aside0.mk (Kd.R_mono (Kd.R_told (R_oldKM (IsS90.apart (show IsS90 w _ g102 t188 from by repeat (first | (with_reducible first | exact HI102.out | apply IsS90.alloc | apply IsS90.drewN | apply IsS90.drew | apply IsS90.set_0 | refine IsS90.far ?_ NB102_105.out (by repeat (first | exact Ty.mk BK105.out (by decide) | apply Ty.set)) _) | exact HI102.out)) (rr_ HO187.out) (by decide)) hk) (Kd.R_base ho0)) (fun _ h_ => h_.1)); have n4_ := Aside0.mk (Kd.R_lower (Kd.R_new' (Kd.R_new' ho0 (Kd.R_lt (rr_ HO_19.out))) (Kd.R_lt (rr_ HO187.out))) (below_size (by repeat (first | (with_reducible first | exact HB.out | apply below_alloc | apply pw_below_drewN | apply below_drew1 | refine below_set ?_ (IsS90.ge HI102.out) | refine below_set ?_ GE105.out) | exact HB.out)))); have n5_ := Aside0.mk (hb); have n6_ := Aside0.mk (hi); clear HO_4; clear HO_19; clear BK105; clear HO187; clear HB; clear HI102; have HO_4 := n0_; have HO_19 := n1_; have BK105 := n2_; have HO187 := n3_; have HO191 := n4_; have HB := n5_; have HI102 := n6_; clear n0_ n1_ n2_ n3_ n4_ n5_ n6_; (try clear hb); (try clear hk); (try clear hi); (try clear ho0)))
       go_meet
       case rel => exact ⟨_, (t189), (t192), H', ⟨by have := HK1.out; have := HJ157.out; have := HK3.out; first | omega | exact Nat.le_refl _⟩, ⟨rr_ HO_4.out⟩, ⟨rr_ (Kd.R_mono HO_19.out (fun _ hk => hk.2))⟩, ⟨rr_ (Kd.R_mono HO191.out (fun _ hk => hk.1.2))⟩, ⟨kb_ BK105.out⟩, ⟨by repeat (first | (with_reducible first | exact HI102.out | apply IsS90.alloc | apply IsS90.drewN | apply IsS90.drew | apply IsS90.set_0 | refine IsS90.far ?_ NB102_105.out (by repeat (first | exact Ty.mk BK105.out (by decide) | apply Ty.set)) _) | exact HI102.out)⟩, ⟨by repeat (first | (with_reducible first | exact HB.out | apply below_alloc | apply pw_below_drewN | apply below_drew1 | refine below_set ?_ (IsS90.ge HI102.out) | refine below_set ?_ GE105.out) | exact HB.out)⟩⟩
      as_aux_lemma =>
      clear HC194; (try clear c161b0); (try clear c199); (try clear c199b0); (try clear c199b1); (try clear hcz196_0); (try clear hcz196_1); (try clear hcz196_2); (try clear hcz196_3); (try clear hcz196_4); (try clear hcz196_5); (try clear hcz196_6); (try clear hcz196_7); (try clear hcz196_8); (try clear hcz198_0); (try clear hcz198_1); (try clear hcz198_2); (try clear hcz198_3); (try clear hcz198_4); (try clear hcz198_5); (try clear hcz198_6); (try clear hcz198_7); (try clear hcz198_8); (try clear hcz202_0); (try clear hcz202_1); (try clear hcz202_2); (try clear hcz202_3); (try clear hcz202_4); (try clear hcz202_5); (try clear hcz202_6); (try clear hcz202_7); (try clear hcz202_8); (try clear hfz196_0); (try clear hfz196_1); (try clear hfz196_2); (try clear hfz196_3); (try clear hfz196_4); (try clear hfz196_5); (try clear hfz196_6); (try clear hfz196_7); (try clear hfz196_8); (try clear hfz198_0); (try clear hfz198_1); (try clear hfz198_2); (try clear hfz198_3); (try clear hfz198_4)
      (try clear hfz198_5); (try clear hfz198_6); (try clear hfz198_7); (try clear hfz198_8); (try clear hfz202_0); (try clear hfz202_1); (try clear hfz202_2); (try clear hfz202_3); (try clear hfz202_4); (try clear hfz202_5); (try clear hfz202_6); (try clear hfz202_7); (try clear hfz202_8); obtain ⟨kq, x23_193, x103000_193, HA, HJ193, HO_4, HO_19, HO_23, BK105, HI102, HB⟩ := hcut
      cases kq with
      | zero => exact absurd HA.out (by simp [lawP.j14])
      | succ kj193 =>
       have H := HA.out
       clear HA
       simp only [lawP.j14] at H
       replace H := Option.bind_eq_some_iff.mp H
       obtain ⟨t193, A2040, H⟩ := H
       replace H : (if t193 = true then (lawP.j16 kj193 l0 x4_1 x5_1 x6_1 x103000_193) else (none)) = some r := H
       have A204 := Aside0.mk A2040; clear A2040
       by_cases c205 : t193 = true
       rotate_left
       · replace c205 := Bool.eq_false_iff.mpr c205
         subst c205
         have H1 : (none) = some r := by rw [if_neg (show ¬ (false = true) by decide)] at H; exact H
         clear H
         have H := H1
         clear H1; exact absurd H (by simp)
       subst c205
       have H1 : (lawP.j16 kj193 l0 x4_1 x5_1 x6_1 x103000_193) = some r := by rw [if_pos rfl] at H; exact H
       clear H
       have H := H1
       clear H1; have H' := Aside0.mk H; clear H; obtain ⟨Ao206, co206, eo206⟩ := Kd.R_slice HO_23.out
       subst eo206
       obtain ⟨Ao207, co207, eo207⟩ := Kd.R_slice HO_19.out
       subst eo207
       go_wp2_with (first | ((with_reducible refine gate_callee (f := 19) rfl ?_); refine goesL_ (some 312) rfl rfl Try.func19 (by kernel_rfl) rfl #[.slice Ao206 x23_193.length co206, .slice Ao207 x19_3.length co207] rfl (by (try simp only [List.map_toArray, List.map_cons, List.map_nil]); first | done | rfl | (simp only [List.length_drop, List.length_take]; rfl)) ?_; (with_reducible refine (styluslaw04_same.calls kj193 _ _ x23_193 _ _ x19_3 true _ ?side1 ?side2 ?side3 ?side4 A204.out).mono ?_); (case side1 => repeat (first | exact (Kd.R_reads' HO_23.out).2.2 | (with_reducible refine Kd.C_alloc ?_ _) | (with_reducible refine Kd.C_drewN ?_ _) | (with_reducible refine Kd.C_drew ?_))); (case side2 => exact (Kd.R_reads' HO_23.out).2.1); (case side3 => repeat (first | exact (Kd.R_reads' HO_19.out).2.2 | (with_reducible refine Kd.C_alloc ?_ _) | (with_reducible refine Kd.C_drewN ?_ _) | (with_reducible refine Kd.C_drew ?_))); (case side4 => exact (Kd.R_reads' HO_19.out).2.1); rintro e w' ⟨rfl, ⟨nd, rfl⟩⟩; refine ⟨_, rfl, ?_⟩))
       go_meet
       case rel => exact ⟨_, (x4_1), (x5_1), (x103000_193), (by first | rfl | (simp; done) | (simp [*]; done)), H', ⟨by have := HK1.out; have := HJ157.out; have := HK3.out; have := HJ193.out; first | omega | exact Nat.le_refl _⟩, ⟨rr_ HO_4.out⟩, ⟨kb_ BK105.out⟩, ⟨by repeat (first | (with_reducible first | exact HI102.out | apply IsS90.alloc | apply IsS90.drewN | apply IsS90.drew | apply IsS90.set_0 | refine IsS90.far ?_ NB102_105.out (by repeat (first | exact Ty.mk BK105.out (by decide) | apply Ty.set)) _) | exact HI102.out)⟩, ⟨by repeat (first | (with_reducible first | exact HB.out | apply below_alloc | apply pw_below_drewN | apply below_drew1 | refine below_set ?_ (IsS90.ge HI102.out) | refine below_set ?_ GE105.out) | exact HB.out)⟩⟩
    as_aux_lemma =>
    rw [if_pos c161] at H
    have c161b0 : decide (x20_3 < (x4_1.length : Int)) = true := decide_eq_true c161
    clear c161; have HC162 := Aside0.mk H; clear H
    go_upto_region 59 with (fail)
    go_cut [21] (fun v21 wc => ∃ (kq : Nat) (x21_161 : Bool), v21 = .bool x21_161 ∧ Aside0 (lawP.j11 kq l0 x4_1 x5_1 x6_1 x19_3 x20_3 x21_161 x103000_1 ((rd_T35 l0 x6_1).f0) ((rd_T35 l0 x6_1).f1) ((rd_T35 l0 x6_1).f2.f0.f0) ((rd_T35 l0 x6_1).f2.f0.f1) ((rd_T35 l0 x6_1).f2.f1) ((rd_T35 l0 x6_1).f2.f2) ((rd_T35 l0 x6_1).f3.f0) ((rd_T35 l0 x6_1).f3.f1) ((rd_T35 l0 x6_1).f3.f2) = some r) ∧ Aside0 (kq ≤ k3) ∧ Aside0 (Kd.R k42 42 wc w.heap.size (fun _ => True) (.slice Ao21 x4_1.length co21) x4_1) ∧ Aside0 (Kd.R (Kd.int .i64) 3 wc w.heap.size (fun _ => True) u19 x19_3) ∧ Aside0 (wc.heap[gb105]? = some (.cells #[.int .i64 ((rd_T35 l0 x6_1).f0), .int .i64 ((rd_T35 l0 x6_1).f1), .int .i64 ((rd_T35 l0 x6_1).f2.f0.f0), .int .i64 ((rd_T35 l0 x6_1).f2.f0.f1), .bool ((rd_T35 l0 x6_1).f2.f1), .bool ((rd_T35 l0 x6_1).f2.f2), .int .i64 ((rd_T35 l0 x6_1).f3.f0), .int .i64 ((rd_T35 l0 x6_1).f3.f1), (.slice A104_8 ((rd_T35 l0 x6_1).f3.f2).length c104_8)] 35 (0, 0))) ∧ Aside0 (IsS90 w wc g102 x103000_1) ∧ Aside0 (Below w.heap.size w wc))
    case first =>
     as_aux_lemma =>
     have H := HC162.out
     clear HC162
     by_cases c163 : 0 ≤ x20_3
     rotate_left
     · rw [if_neg c163] at H
       exact absurd H (by simp)
     as_aux_lemma =>
     rw [if_pos c163] at H
     have c163b0 : decide (0 ≤ x20_3) = true := decide_eq_true c163
     clear c163; (first | rw [c163b0] | (simp only [i64_w, i32_w]; rw [c163b0]) | skip)
     by_cases c164 : ((rd_T42 x4_1 x20_3).f0) ≤ ((rd_T35 l0 x6_1).f1)
     rotate_left
     · rw [if_neg c164] at H
       have c164b0 : decide (((rd_T42 x4_1 x20_3).f0) ≤ ((rd_T35 l0 x6_1).f1)) = false := decide_eq_false c164
       clear c164; have H' := Aside0.mk H; clear H
       try go_wp2
       have n0_ := Aside0.mk (Kd.R_drew HO_4.out)
       have n1_ := Aside0.mk (Kd.R_drew HO_19.out)
       have n2_ := Aside0.mk (blk_drew BK105.out)
       have n3_ := Aside0.mk (IsS90.drew HI102.out)
       have n4_ := Aside0.mk (below_drew1 HB.out)
       clear HO_4 HO_19 BK105 HI102 HB
       have HO_4 := n0_
       have HO_19 := n1_
       have BK105 := n2_
       have HI102 := n3_
       have HB := n4_
       clear n0_ n1_ n2_ n3_ n4_
       have p177 : 0 ≤ (x20_3 : Int) := od_
       have q177 : x20_3 < (x4_1.length : Int) := od_
       obtain ⟨ad177, e177, hx177_0, hx177_1, hx177_2, hx177_3, hx177_4⟩ := at_T42 (Kd.R_reads' HO_4.out).2.2 x20_3 p177 q177
       cases e177
       replace p177 := eq_true p177; replace q177 := eq_true q177
       refine start_ (n := 19) (S := fun w' => w'.cell? ⟨gb105, 0, none⟩ = some (.int .i64 ((rd_T35 l0 x6_1).f0)) ∧ w'.cell? ⟨gb105, 1, none⟩ = some (.int .i64 ((rd_T35 l0 x6_1).f1)) ∧ w'.cell? ⟨gb105, 2, none⟩ = some (.int .i64 ((rd_T35 l0 x6_1).f2.f0.f0)) ∧ w'.cell? ⟨gb105, 3, none⟩ = some (.int .i64 ((rd_T35 l0 x6_1).f2.f0.f1)) ∧ w'.cell? ⟨gb105, 4, none⟩ = some (.bool ((rd_T35 l0 x6_1).f2.f1)) ∧ w'.cell? ⟨gb105, 5, none⟩ = some (.bool ((rd_T35 l0 x6_1).f2.f2)) ∧ w'.cell? ⟨gb105, 6, none⟩ = some (.int .i64 ((rd_T35 l0 x6_1).f3.f0)) ∧ w'.cell? ⟨gb105, 7, none⟩ = some (.int .i64 ((rd_T35 l0 x6_1).f3.f1)) ∧ w'.cell? ⟨gb105, 8, none⟩ = some (.slice A104_8 ((rd_T35 l0 x6_1).f3.f2).length c104_8) ∧ w'.cell? (ad177.add ((x20_3).toNat * 5)) = some (.int .i64 ((rd_T42 x4_1 x20_3).f0)) ∧ w'.cell? ⟨(ad177.add ((x20_3).toNat * 5)).block, (ad177.add ((x20_3).toNat * 5)).off + 1, none⟩ = some (.int .i64 ((rd_T42 x4_1 x20_3).f1)) ∧ w'.cell? ⟨(ad177.add ((x20_3).toNat * 5)).block, (ad177.add ((x20_3).toNat * 5)).off + 2, none⟩ = some (.bool ((rd_T42 x4_1 x20_3).f2)) ∧ w'.cell? ⟨(ad177.add ((x20_3).toNat * 5)).block, (ad177.add ((x20_3).toNat * 5)).off + 3, none⟩ = some (.bool ((rd_T42 x4_1 x20_3).f3)) ∧ w'.cell? ⟨(ad177.add ((x20_3).toNat * 5)).block, (ad177.add ((x20_3).toNat * 5)).off + 4, none⟩ = some (.int .i64 ((rd_T42 x4_1 x20_3).f4))) (ds := []) #[false, false, false, false, false, false, false, false, false, false, false, false, false, false, false, false, false, false, false] (by kernel_rfl) rfl rfl ⟨(blk_cell BK105.out 0).trans rfl, (blk_cell BK105.out 1).trans rfl, (blk_cell BK105.out 2).trans rfl, (blk_cell BK105.out 3).trans rfl, (blk_cell BK105.out 4).trans rfl, (blk_cell BK105.out 5).trans rfl, (blk_cell BK105.out 6).trans rfl, (blk_cell BK105.out 7).trans rfl, (blk_cell BK105.out 8).trans rfl, hx177_0, hx177_1, hx177_2, hx177_3, hx177_4⟩ (fun hHeld => ?_); refine with_tabW lawP.tab59 lawP.bits59 (fun HT_ HW_ => ?_)
       generalize wr.drew = w166 at HO_4 HO_19 BK105 HI102 HB hx177_0 hx177_1 hx177_2 hx177_3 hx177_4 hHeld ⊢
       refine q_ 0 (some 236) HT_.out ?_ (hQ := fun _ _ _ h_ => hQp _ _ _ _ _ h_)
       refine q_ 1 (some 237) HT_.out ?_ (hQ := fun _ _ _ h_ => hQp _ _ _ _ _ h_)
       refine q_ 2 (some 238) HT_.out ?_ (hQ := fun _ _ _ h_ => hQp _ _ _ _ _ h_)
       refine q_ 3 (some 239) HT_.out ?_ (hQ := fun _ _ _ h_ => hQp _ _ _ _ _ h_)
       refine q_ 5 (some 241) HT_.out ?_ (hQ := fun _ _ _ h_ => hQp _ _ _ _ _ h_)
       refine t_ 4 (some 240) HT_.out HW_.out hHeld ?_ (hQ := fun _ _ _ h_ => hQp _ _ _ _ _ h_)
       refine t_ 6 (some 242) HT_.out HW_.out hHeld ?_ (hQ := fun _ _ _ h_ => hQp _ _ _ _ _ h_)
       refine q_ 7 (some 243) HT_.out ?_ (hQ := fun _ _ _ h_ => hQp _ _ _ _ _ h_)
       refine q_ 8 (some 244) HT_.out ?_ (hQ := fun _ _ _ h_ => hQp _ _ _ _ _ h_)
       refine u_ 9 (some 245) HT_.out ?_ (hQ := fun _ _ _ h_ => hQp _ _ _ _ _ h_)
       refine u_ 10 (some 246) HT_.out ?_ (hQ := fun _ _ _ h_ => hQp _ _ _ _ _ h_)
       refine u_ 11 (some 247) HT_.out ?_ (hQ := fun _ _ _ h_ => hQp _ _ _ _ _ h_)
       refine u_ 12 (some 248) HT_.out ?_ (hQ := fun _ _ _ h_ => hQp _ _ _ _ _ h_)
       refine u_ 13 (some 249) HT_.out ?_ (hQ := fun _ _ _ h_ => hQp _ _ _ _ _ h_)
       refine u_ 14 (some 250) HT_.out ?_ (hQ := fun _ _ _ h_ => hQp _ _ _ _ _ h_)
       refine u_ 15 (some 251) HT_.out ?_ (hQ := fun _ _ _ h_ => hQp _ _ _ _ _ h_)
       refine u_ 16 (some 252) HT_.out ?_ (hQ := fun _ _ _ h_ => hQp _ _ _ _ _ h_)
       refine q_ 17 (some 253) HT_.out ?_ (hQ := fun _ _ _ h_ => hQp _ _ _ _ _ h_)
       refine q_ 18 (some 21) HT_.out ?_ (hQ := fun _ _ _ h_ => hQp _ _ _ _ _ h_)
       refine done_ (done_of HT_.out (by kernel_rfl)) ?_
       try go_wp2
       go_meet
       case rel => exact ⟨_, (false), (by first | rfl | (simp; done) | (simp [*]; done)), H', ⟨by have := HK1.out; have := HJ157.out; have := HK3.out; first | omega | exact Nat.le_refl _⟩, ⟨rr_ HO_4.out⟩, ⟨rr_ HO_19.out⟩, ⟨kb_ BK105.out⟩, ⟨by repeat (first | (with_reducible first | exact HI102.out | apply IsS90.alloc | apply IsS90.drewN | apply IsS90.drew | apply IsS90.set_0 | refine IsS90.far ?_ NB102_105.out (by repeat (first | exact Ty.mk BK105.out (by decide) | apply Ty.set)) _) | exact HI102.out)⟩, ⟨by repeat (first | (with_reducible first | exact HB.out | apply below_alloc | apply pw_below_drewN | apply below_drew1 | refine below_set ?_ (IsS90.ge HI102.out) | refine below_set ?_ GE105.out) | exact HB.out)⟩⟩
     rw [if_pos c164] at H
     have c164b0 : decide (((rd_T42 x4_1 x20_3).f0) ≤ ((rd_T35 l0 x6_1).f1)) = true := decide_eq_true c164
     clear c164; have H' := Aside0.mk H; clear H
     try go_wp2
     have n0_ := Aside0.mk (Kd.R_drew HO_4.out)
     have n1_ := Aside0.mk (Kd.R_drew HO_19.out)
     have n2_ := Aside0.mk (blk_drew BK105.out)
     have n3_ := Aside0.mk (IsS90.drew HI102.out)
     have n4_ := Aside0.mk (below_drew1 HB.out)
     clear HO_4 HO_19 BK105 HI102 HB
     have HO_4 := n0_
     have HO_19 := n1_
     have BK105 := n2_
     have HI102 := n3_
     have HB := n4_
     clear n0_ n1_ n2_ n3_ n4_
     have p177 : 0 ≤ (x20_3 : Int) := od_
     have q177 : x20_3 < (x4_1.length : Int) := od_
     obtain ⟨ad177, e177, hx177_0, hx177_1, hx177_2, hx177_3, hx177_4⟩ := at_T42 (Kd.R_reads' HO_4.out).2.2 x20_3 p177 q177
     cases e177
     replace p177 := eq_true p177; replace q177 := eq_true q177
     have p178 : 0 ≤ (x20_3 : Int) := od_
     have q178 : x20_3 < (x4_1.length : Int) := od_
     obtain ⟨ad178, e178, hx178_0, hx178_1, hx178_2, hx178_3, hx178_4⟩ := at_T42 (Kd.R_reads' HO_4.out).2.2 x20_3 p178 q178
     obtain rfl : ad177 = ad178 := (by injection e178)
     replace p178 := eq_true p178; replace q178 := eq_true q178
     refine start_ (n := 19) (S := fun w' => w'.cell? ⟨gb105, 0, none⟩ = some (.int .i64 ((rd_T35 l0 x6_1).f0)) ∧ w'.cell? ⟨gb105, 1, none⟩ = some (.int .i64 ((rd_T35 l0 x6_1).f1)) ∧ w'.cell? ⟨gb105, 2, none⟩ = some (.int .i64 ((rd_T35 l0 x6_1).f2.f0.f0)) ∧ w'.cell? ⟨gb105, 3, none⟩ = some (.int .i64 ((rd_T35 l0 x6_1).f2.f0.f1)) ∧ w'.cell? ⟨gb105, 4, none⟩ = some (.bool ((rd_T35 l0 x6_1).f2.f1)) ∧ w'.cell? ⟨gb105, 5, none⟩ = some (.bool ((rd_T35 l0 x6_1).f2.f2)) ∧ w'.cell? ⟨gb105, 6, none⟩ = some (.int .i64 ((rd_T35 l0 x6_1).f3.f0)) ∧ w'.cell? ⟨gb105, 7, none⟩ = some (.int .i64 ((rd_T35 l0 x6_1).f3.f1)) ∧ w'.cell? ⟨gb105, 8, none⟩ = some (.slice A104_8 ((rd_T35 l0 x6_1).f3.f2).length c104_8) ∧ w'.cell? (ad177.add ((x20_3).toNat * 5)) = some (.int .i64 ((rd_T42 x4_1 x20_3).f0)) ∧ w'.cell? ⟨(ad177.add ((x20_3).toNat * 5)).block, (ad177.add ((x20_3).toNat * 5)).off + 1, none⟩ = some (.int .i64 ((rd_T42 x4_1 x20_3).f1)) ∧ w'.cell? ⟨(ad177.add ((x20_3).toNat * 5)).block, (ad177.add ((x20_3).toNat * 5)).off + 2, none⟩ = some (.bool ((rd_T42 x4_1 x20_3).f2)) ∧ w'.cell? ⟨(ad177.add ((x20_3).toNat * 5)).block, (ad177.add ((x20_3).toNat * 5)).off + 3, none⟩ = some (.bool ((rd_T42 x4_1 x20_3).f3)) ∧ w'.cell? ⟨(ad177.add ((x20_3).toNat * 5)).block, (ad177.add ((x20_3).toNat * 5)).off + 4, none⟩ = some (.int .i64 ((rd_T42 x4_1 x20_3).f4)) ∧ w'.cell? (ad177.add ((x20_3).toNat * 5)) = some (.int .i64 ((rd_T42 x4_1 x20_3).f0)) ∧ w'.cell? ⟨(ad177.add ((x20_3).toNat * 5)).block, (ad177.add ((x20_3).toNat * 5)).off + 1, none⟩ = some (.int .i64 ((rd_T42 x4_1 x20_3).f1)) ∧ w'.cell? ⟨(ad177.add ((x20_3).toNat * 5)).block, (ad177.add ((x20_3).toNat * 5)).off + 2, none⟩ = some (.bool ((rd_T42 x4_1 x20_3).f2)) ∧ w'.cell? ⟨(ad177.add ((x20_3).toNat * 5)).block, (ad177.add ((x20_3).toNat * 5)).off + 3, none⟩ = some (.bool ((rd_T42 x4_1 x20_3).f3)) ∧ w'.cell? ⟨(ad177.add ((x20_3).toNat * 5)).block, (ad177.add ((x20_3).toNat * 5)).off + 4, none⟩ = some (.int .i64 ((rd_T42 x4_1 x20_3).f4))) (ds := []) #[false, false, false, false, false, false, false, false, false, false, false, false, false, false, false, false, false, false, false] (by kernel_rfl) rfl rfl ⟨(blk_cell BK105.out 0).trans rfl, (blk_cell BK105.out 1).trans rfl, (blk_cell BK105.out 2).trans rfl, (blk_cell BK105.out 3).trans rfl, (blk_cell BK105.out 4).trans rfl, (blk_cell BK105.out 5).trans rfl, (blk_cell BK105.out 6).trans rfl, (blk_cell BK105.out 7).trans rfl, (blk_cell BK105.out 8).trans rfl, hx177_0, hx177_1, hx177_2, hx177_3, hx177_4, hx178_0, hx178_1, hx178_2, hx178_3, hx178_4⟩ (fun hHeld => ?_); refine with_tabW lawP.tab59 lawP.bits59 (fun HT_ HW_ => ?_)
     generalize wr.drew = w165 at HO_4 HO_19 BK105 HI102 HB hx177_0 hx177_1 hx177_2 hx177_3 hx177_4 hx178_0 hx178_1 hx178_2 hx178_3 hx178_4 hHeld ⊢
     refine q_ 0 (some 236) HT_.out ?_ (hQ := fun _ _ _ h_ => hQp _ _ _ _ _ h_)
     refine q_ 1 (some 237) HT_.out ?_ (hQ := fun _ _ _ h_ => hQp _ _ _ _ _ h_)
     refine q_ 2 (some 238) HT_.out ?_ (hQ := fun _ _ _ h_ => hQp _ _ _ _ _ h_)
     refine q_ 3 (some 239) HT_.out ?_ (hQ := fun _ _ _ h_ => hQp _ _ _ _ _ h_)
     refine q_ 5 (some 241) HT_.out ?_ (hQ := fun _ _ _ h_ => hQp _ _ _ _ _ h_)
     refine t_ 4 (some 240) HT_.out HW_.out hHeld ?_ (hQ := fun _ _ _ h_ => hQp _ _ _ _ _ h_)
     refine t_ 6 (some 242) HT_.out HW_.out hHeld ?_ (hQ := fun _ _ _ h_ => hQp _ _ _ _ _ h_)
     refine q_ 7 (some 243) HT_.out ?_ (hQ := fun _ _ _ h_ => hQp _ _ _ _ _ h_)
     refine q_ 8 (some 244) HT_.out ?_ (hQ := fun _ _ _ h_ => hQp _ _ _ _ _ h_)
     refine q_ 9 (some 245) HT_.out ?_ (hQ := fun _ _ _ h_ => hQp _ _ _ _ _ h_)
     refine q_ 11 (some 247) HT_.out ?_ (hQ := fun _ _ _ h_ => hQp _ _ _ _ _ h_)
     refine q_ 12 (some 248) HT_.out ?_ (hQ := fun _ _ _ h_ => hQp _ _ _ _ _ h_)
     refine q_ 13 (some 249) HT_.out ?_ (hQ := fun _ _ _ h_ => hQp _ _ _ _ _ h_)
     refine q_ 14 (some 250) HT_.out ?_ (hQ := fun _ _ _ h_ => hQp _ _ _ _ _ h_)
     refine t_ 10 (some 246) HT_.out HW_.out hHeld ?_ (hQ := fun _ _ _ h_ => hQp _ _ _ _ _ h_)
     refine t_ 15 (some 251) HT_.out HW_.out hHeld ?_ (hQ := fun _ _ _ h_ => hQp _ _ _ _ _ h_)
     refine q_ 16 (some 252) HT_.out ?_ (hQ := fun _ _ _ h_ => hQp _ _ _ _ _ h_)
     refine q_ 17 (some 253) HT_.out ?_ (hQ := fun _ _ _ h_ => hQp _ _ _ _ _ h_)
     refine q_ 18 (some 21) HT_.out ?_ (hQ := fun _ _ _ h_ => hQp _ _ _ _ _ h_)
     refine done_ (done_of HT_.out (by kernel_rfl)) ?_
     try go_wp2
     go_meet
     case rel => exact ⟨_, (decide (((rd_T35 l0 x6_1).f1) < ((rd_T42 x4_1 x20_3).f1))), (by first | rfl | (simp; done) | (simp [*]; done)), H', ⟨by have := HK1.out; have := HJ157.out; have := HK3.out; first | omega | exact Nat.le_refl _⟩, ⟨rr_ HO_4.out⟩, ⟨rr_ HO_19.out⟩, ⟨kb_ BK105.out⟩, ⟨by repeat (first | (with_reducible first | exact HI102.out | apply IsS90.alloc | apply IsS90.drewN | apply IsS90.drew | apply IsS90.set_0 | refine IsS90.far ?_ NB102_105.out (by repeat (first | exact Ty.mk BK105.out (by decide) | apply Ty.set)) _) | exact HI102.out)⟩, ⟨by repeat (first | (with_reducible first | exact HB.out | apply below_alloc | apply pw_below_drewN | apply below_drew1 | refine below_set ?_ (IsS90.ge HI102.out) | refine below_set ?_ GE105.out) | exact HB.out)⟩⟩
    as_aux_lemma =>
    clear HC162; (try clear c161b0); (try clear c163); (try clear c163b0); (try clear c164); (try clear c164b0); (try clear hx177_0)
    (try clear hx177_1); (try clear hx177_2); (try clear hx177_3); (try clear hx177_4); (try clear hx178_0); (try clear hx178_1); (try clear hx178_2); (try clear hx178_3); (try clear hx178_4); (try clear p177); (try clear p178); (try clear q177); (try clear q178); obtain ⟨kq, x21_161, rfl, HA, HJ161, HO_4, HO_19, BK105, HI102, HB⟩ := hcut
    cases kq with
    | zero => exact absurd HA.out (by simp [lawP.j11])
    | succ kj161 =>
     have H := HA.out
     clear HA
     simp only [lawP.j11] at H
     have HC167 := Aside0.mk H; clear H
     go_upto_region 60 with (fail)
     go_cut [22] (fun v22 wc => ∃ (kq : Nat) (x22_166 : Bool), v22 = .bool x22_166 ∧ Aside0 (lawP.j12 kq l0 x4_1 x5_1 x6_1 x19_3 x20_3 x21_161 x22_166 x103000_1 ((rd_T35 l0 x6_1).f0) ((rd_T35 l0 x6_1).f1) ((rd_T35 l0 x6_1).f2.f0.f0) ((rd_T35 l0 x6_1).f2.f0.f1) ((rd_T35 l0 x6_1).f2.f1) ((rd_T35 l0 x6_1).f2.f2) ((rd_T35 l0 x6_1).f3.f0) ((rd_T35 l0 x6_1).f3.f1) ((rd_T35 l0 x6_1).f3.f2) = some r) ∧ Aside0 (kq ≤ kj161) ∧ Aside0 (Kd.R k42 42 wc w.heap.size (fun _ => True) (.slice Ao21 x4_1.length co21) x4_1) ∧ Aside0 (Kd.R (Kd.int .i64) 3 wc w.heap.size (fun _ => True) u19 x19_3) ∧ Aside0 (wc.heap[gb105]? = some (.cells #[.int .i64 ((rd_T35 l0 x6_1).f0), .int .i64 ((rd_T35 l0 x6_1).f1), .int .i64 ((rd_T35 l0 x6_1).f2.f0.f0), .int .i64 ((rd_T35 l0 x6_1).f2.f0.f1), .bool ((rd_T35 l0 x6_1).f2.f1), .bool ((rd_T35 l0 x6_1).f2.f2), .int .i64 ((rd_T35 l0 x6_1).f3.f0), .int .i64 ((rd_T35 l0 x6_1).f3.f1), (.slice A104_8 ((rd_T35 l0 x6_1).f3.f2).length c104_8)] 35 (0, 0))) ∧ Aside0 (IsS90 w wc g102 x103000_1) ∧ Aside0 (Below w.heap.size w wc))
     case first =>
      as_aux_lemma =>
      have H := HC167.out
      clear HC167
      by_cases c168 : 0 ≤ x20_3
      rotate_left
      · rw [if_neg c168] at H
        exact absurd H (by simp)
      as_aux_lemma =>
      rw [if_pos c168] at H
      have c168b0 : decide (0 ≤ x20_3) = true := decide_eq_true c168
      clear c168; (first | rw [c168b0] | (simp only [i64_w, i32_w]; rw [c168b0]) | skip)
      by_cases c169 : x20_3 < (x4_1.length : Int)
      rotate_left
      · rw [if_neg c169] at H
        exact absurd H (by simp)
      as_aux_lemma =>
      rw [if_pos c169] at H
      have c169b0 : decide (x20_3 < (x4_1.length : Int)) = true := decide_eq_true c169
      clear c169
      by_cases c170 : ((rd_T42 x4_1 x20_3).f0) < ((rd_T35 l0 x6_1).f2.f0.f1)
      rotate_left
      · rw [if_neg c170] at H
        have c170b0 : decide (((rd_T42 x4_1 x20_3).f0) < ((rd_T35 l0 x6_1).f2.f0.f1)) = false := decide_eq_false c170
        clear c170; have H' := Aside0.mk H; clear H
        try go_wp2
        have n0_ := Aside0.mk (Kd.R_drew HO_4.out)
        have n1_ := Aside0.mk (Kd.R_drew HO_19.out)
        have n2_ := Aside0.mk (blk_drew BK105.out)
        have n3_ := Aside0.mk (IsS90.drew HI102.out)
        have n4_ := Aside0.mk (below_drew1 HB.out)
        clear HO_4 HO_19 BK105 HI102 HB
        have HO_4 := n0_
        have HO_19 := n1_
        have BK105 := n2_
        have HI102 := n3_
        have HB := n4_
        clear n0_ n1_ n2_ n3_ n4_
        have p179 : 0 ≤ (x20_3 : Int) := od_
        have q179 : x20_3 < (x4_1.length : Int) := od_
        obtain ⟨ad179, e179, hx179_0, hx179_1, hx179_2, hx179_3, hx179_4⟩ := at_T42 (Kd.R_reads' HO_4.out).2.2 x20_3 p179 q179
        cases e179
        replace p179 := eq_true p179; replace q179 := eq_true q179
        refine start_ (n := 23) (S := fun w' => w'.cell? ⟨gb105, 0, none⟩ = some (.int .i64 ((rd_T35 l0 x6_1).f0)) ∧ w'.cell? ⟨gb105, 1, none⟩ = some (.int .i64 ((rd_T35 l0 x6_1).f1)) ∧ w'.cell? ⟨gb105, 2, none⟩ = some (.int .i64 ((rd_T35 l0 x6_1).f2.f0.f0)) ∧ w'.cell? ⟨gb105, 3, none⟩ = some (.int .i64 ((rd_T35 l0 x6_1).f2.f0.f1)) ∧ w'.cell? ⟨gb105, 4, none⟩ = some (.bool ((rd_T35 l0 x6_1).f2.f1)) ∧ w'.cell? ⟨gb105, 5, none⟩ = some (.bool ((rd_T35 l0 x6_1).f2.f2)) ∧ w'.cell? ⟨gb105, 6, none⟩ = some (.int .i64 ((rd_T35 l0 x6_1).f3.f0)) ∧ w'.cell? ⟨gb105, 7, none⟩ = some (.int .i64 ((rd_T35 l0 x6_1).f3.f1)) ∧ w'.cell? ⟨gb105, 8, none⟩ = some (.slice A104_8 ((rd_T35 l0 x6_1).f3.f2).length c104_8) ∧ w'.cell? (ad179.add ((x20_3).toNat * 5)) = some (.int .i64 ((rd_T42 x4_1 x20_3).f0)) ∧ w'.cell? ⟨(ad179.add ((x20_3).toNat * 5)).block, (ad179.add ((x20_3).toNat * 5)).off + 1, none⟩ = some (.int .i64 ((rd_T42 x4_1 x20_3).f1)) ∧ w'.cell? ⟨(ad179.add ((x20_3).toNat * 5)).block, (ad179.add ((x20_3).toNat * 5)).off + 2, none⟩ = some (.bool ((rd_T42 x4_1 x20_3).f2)) ∧ w'.cell? ⟨(ad179.add ((x20_3).toNat * 5)).block, (ad179.add ((x20_3).toNat * 5)).off + 3, none⟩ = some (.bool ((rd_T42 x4_1 x20_3).f3)) ∧ w'.cell? ⟨(ad179.add ((x20_3).toNat * 5)).block, (ad179.add ((x20_3).toNat * 5)).off + 4, none⟩ = some (.int .i64 ((rd_T42 x4_1 x20_3).f4))) (ds := []) #[false, false, false, false, false, false, false, false, false, false, false, false, false, false, false, false, false, false, false, false, false, false, false] (by kernel_rfl) rfl rfl ⟨(blk_cell BK105.out 0).trans rfl, (blk_cell BK105.out 1).trans rfl, (blk_cell BK105.out 2).trans rfl, (blk_cell BK105.out 3).trans rfl, (blk_cell BK105.out 4).trans rfl, (blk_cell BK105.out 5).trans rfl, (blk_cell BK105.out 6).trans rfl, (blk_cell BK105.out 7).trans rfl, (blk_cell BK105.out 8).trans rfl, hx179_0, hx179_1, hx179_2, hx179_3, hx179_4⟩ (fun hHeld => ?_); refine with_tabW lawP.tab60 lawP.bits60 (fun HT_ HW_ => ?_)
        generalize wc.drew = w172 at HO_4 HO_19 BK105 HI102 HB hx179_0 hx179_1 hx179_2 hx179_3 hx179_4 hHeld ⊢
        refine q_ 0 (some 254) HT_.out ?_ (hQ := fun _ _ _ h_ => hQp _ _ _ _ _ h_)
        refine q_ 1 (some 255) HT_.out ?_ (hQ := fun _ _ _ h_ => hQp _ _ _ _ _ h_)
        refine q_ 2 (some 256) HT_.out ?_ (hQ := fun _ _ _ h_ => hQp _ _ _ _ _ h_)
        refine q_ 3 (some 257) HT_.out ?_ (hQ := fun _ _ _ h_ => hQp _ _ _ _ _ h_)
        refine q_ 5 (some 259) HT_.out ?_ (hQ := fun _ _ _ h_ => hQp _ _ _ _ _ h_)
        refine q_ 6 (some 260) HT_.out ?_ (hQ := fun _ _ _ h_ => hQp _ _ _ _ _ h_)
        refine q_ 7 (some 261) HT_.out ?_ (hQ := fun _ _ _ h_ => hQp _ _ _ _ _ h_)
        refine t_ 4 (some 258) HT_.out HW_.out hHeld ?_ (hQ := fun _ _ _ h_ => hQp _ _ _ _ _ h_)
        refine t_ 8 (some 262) HT_.out HW_.out hHeld ?_ (hQ := fun _ _ _ h_ => hQp _ _ _ _ _ h_)
        refine q_ 9 (some 263) HT_.out ?_ (hQ := fun _ _ _ h_ => hQp _ _ _ _ _ h_)
        refine q_ 10 (some 264) HT_.out ?_ (hQ := fun _ _ _ h_ => hQp _ _ _ _ _ h_)
        refine u_ 11 (some 265) HT_.out ?_ (hQ := fun _ _ _ h_ => hQp _ _ _ _ _ h_)
        refine u_ 12 (some 266) HT_.out ?_ (hQ := fun _ _ _ h_ => hQp _ _ _ _ _ h_)
        refine u_ 13 (some 267) HT_.out ?_ (hQ := fun _ _ _ h_ => hQp _ _ _ _ _ h_)
        refine u_ 14 (some 268) HT_.out ?_ (hQ := fun _ _ _ h_ => hQp _ _ _ _ _ h_)
        refine u_ 15 (some 269) HT_.out ?_ (hQ := fun _ _ _ h_ => hQp _ _ _ _ _ h_)
        refine u_ 16 (some 270) HT_.out ?_ (hQ := fun _ _ _ h_ => hQp _ _ _ _ _ h_)
        refine u_ 17 (some 271) HT_.out ?_ (hQ := fun _ _ _ h_ => hQp _ _ _ _ _ h_)
        refine u_ 18 (some 272) HT_.out ?_ (hQ := fun _ _ _ h_ => hQp _ _ _ _ _ h_)
        refine u_ 19 (some 273) HT_.out ?_ (hQ := fun _ _ _ h_ => hQp _ _ _ _ _ h_)
        refine u_ 20 (some 274) HT_.out ?_ (hQ := fun _ _ _ h_ => hQp _ _ _ _ _ h_)
        refine q_ 21 (some 275) HT_.out ?_ (hQ := fun _ _ _ h_ => hQp _ _ _ _ _ h_)
        refine q_ 22 (some 22) HT_.out ?_ (hQ := fun _ _ _ h_ => hQp _ _ _ _ _ h_)
        refine done_ (done_of HT_.out (by kernel_rfl)) ?_
        try go_wp2
        go_meet
        case rel => exact ⟨_, (false), (by first | rfl | (simp; done) | (simp [*]; done)), H', ⟨by have := HK1.out; have := HJ157.out; have := HK3.out; have := HJ161.out; first | omega | exact Nat.le_refl _⟩, ⟨rr_ HO_4.out⟩, ⟨rr_ HO_19.out⟩, ⟨kb_ BK105.out⟩, ⟨by repeat (first | (with_reducible first | exact HI102.out | apply IsS90.alloc | apply IsS90.drewN | apply IsS90.drew | apply IsS90.set_0 | refine IsS90.far ?_ NB102_105.out (by repeat (first | exact Ty.mk BK105.out (by decide) | apply Ty.set)) _) | exact HI102.out)⟩, ⟨by repeat (first | (with_reducible first | exact HB.out | apply below_alloc | apply pw_below_drewN | apply below_drew1 | refine below_set ?_ (IsS90.ge HI102.out) | refine below_set ?_ GE105.out) | exact HB.out)⟩⟩
      as_aux_lemma =>
      rw [if_pos c170] at H
      have c170b0 : decide (((rd_T42 x4_1 x20_3).f0) < ((rd_T35 l0 x6_1).f2.f0.f1)) = true := decide_eq_true c170
      clear c170; have H' := Aside0.mk H; clear H
      try go_wp2
      have n0_ := Aside0.mk (Kd.R_drew HO_4.out)
      have n1_ := Aside0.mk (Kd.R_drew HO_19.out)
      have n2_ := Aside0.mk (blk_drew BK105.out)
      have n3_ := Aside0.mk (IsS90.drew HI102.out)
      have n4_ := Aside0.mk (below_drew1 HB.out)
      clear HO_4 HO_19 BK105 HI102 HB
      have HO_4 := n0_
      have HO_19 := n1_
      have BK105 := n2_
      have HI102 := n3_
      have HB := n4_
      clear n0_ n1_ n2_ n3_ n4_
      have p179 : 0 ≤ (x20_3 : Int) := od_
      have q179 : x20_3 < (x4_1.length : Int) := od_
      obtain ⟨ad179, e179, hx179_0, hx179_1, hx179_2, hx179_3, hx179_4⟩ := at_T42 (Kd.R_reads' HO_4.out).2.2 x20_3 p179 q179
      cases e179
      replace p179 := eq_true p179; replace q179 := eq_true q179
      have p180 : 0 ≤ (x20_3 : Int) := od_
      have q180 : x20_3 < (x4_1.length : Int) := od_
      obtain ⟨ad180, e180, hx180_0, hx180_1, hx180_2, hx180_3, hx180_4⟩ := at_T42 (Kd.R_reads' HO_4.out).2.2 x20_3 p180 q180
      obtain rfl : ad179 = ad180 := (by injection e180)
      replace p180 := eq_true p180; replace q180 := eq_true q180
      refine start_ (n := 23) (S := fun w' => w'.cell? ⟨gb105, 0, none⟩ = some (.int .i64 ((rd_T35 l0 x6_1).f0)) ∧ w'.cell? ⟨gb105, 1, none⟩ = some (.int .i64 ((rd_T35 l0 x6_1).f1)) ∧ w'.cell? ⟨gb105, 2, none⟩ = some (.int .i64 ((rd_T35 l0 x6_1).f2.f0.f0)) ∧ w'.cell? ⟨gb105, 3, none⟩ = some (.int .i64 ((rd_T35 l0 x6_1).f2.f0.f1)) ∧ w'.cell? ⟨gb105, 4, none⟩ = some (.bool ((rd_T35 l0 x6_1).f2.f1)) ∧ w'.cell? ⟨gb105, 5, none⟩ = some (.bool ((rd_T35 l0 x6_1).f2.f2)) ∧ w'.cell? ⟨gb105, 6, none⟩ = some (.int .i64 ((rd_T35 l0 x6_1).f3.f0)) ∧ w'.cell? ⟨gb105, 7, none⟩ = some (.int .i64 ((rd_T35 l0 x6_1).f3.f1)) ∧ w'.cell? ⟨gb105, 8, none⟩ = some (.slice A104_8 ((rd_T35 l0 x6_1).f3.f2).length c104_8) ∧ w'.cell? (ad179.add ((x20_3).toNat * 5)) = some (.int .i64 ((rd_T42 x4_1 x20_3).f0)) ∧ w'.cell? ⟨(ad179.add ((x20_3).toNat * 5)).block, (ad179.add ((x20_3).toNat * 5)).off + 1, none⟩ = some (.int .i64 ((rd_T42 x4_1 x20_3).f1)) ∧ w'.cell? ⟨(ad179.add ((x20_3).toNat * 5)).block, (ad179.add ((x20_3).toNat * 5)).off + 2, none⟩ = some (.bool ((rd_T42 x4_1 x20_3).f2)) ∧ w'.cell? ⟨(ad179.add ((x20_3).toNat * 5)).block, (ad179.add ((x20_3).toNat * 5)).off + 3, none⟩ = some (.bool ((rd_T42 x4_1 x20_3).f3)) ∧ w'.cell? ⟨(ad179.add ((x20_3).toNat * 5)).block, (ad179.add ((x20_3).toNat * 5)).off + 4, none⟩ = some (.int .i64 ((rd_T42 x4_1 x20_3).f4)) ∧ w'.cell? (ad179.add ((x20_3).toNat * 5)) = some (.int .i64 ((rd_T42 x4_1 x20_3).f0)) ∧ w'.cell? ⟨(ad179.add ((x20_3).toNat * 5)).block, (ad179.add ((x20_3).toNat * 5)).off + 1, none⟩ = some (.int .i64 ((rd_T42 x4_1 x20_3).f1)) ∧ w'.cell? ⟨(ad179.add ((x20_3).toNat * 5)).block, (ad179.add ((x20_3).toNat * 5)).off + 2, none⟩ = some (.bool ((rd_T42 x4_1 x20_3).f2)) ∧ w'.cell? ⟨(ad179.add ((x20_3).toNat * 5)).block, (ad179.add ((x20_3).toNat * 5)).off + 3, none⟩ = some (.bool ((rd_T42 x4_1 x20_3).f3)) ∧ w'.cell? ⟨(ad179.add ((x20_3).toNat * 5)).block, (ad179.add ((x20_3).toNat * 5)).off + 4, none⟩ = some (.int .i64 ((rd_T42 x4_1 x20_3).f4))) (ds := []) #[false, false, false, false, false, false, false, false, false, false, false, false, false, false, false, false, false, false, false, false, false, false, false] (by kernel_rfl) rfl rfl ⟨(blk_cell BK105.out 0).trans rfl, (blk_cell BK105.out 1).trans rfl, (blk_cell BK105.out 2).trans rfl, (blk_cell BK105.out 3).trans rfl, (blk_cell BK105.out 4).trans rfl, (blk_cell BK105.out 5).trans rfl, (blk_cell BK105.out 6).trans rfl, (blk_cell BK105.out 7).trans rfl, (blk_cell BK105.out 8).trans rfl, hx179_0, hx179_1, hx179_2, hx179_3, hx179_4, hx180_0, hx180_1, hx180_2, hx180_3, hx180_4⟩ (fun hHeld => ?_); refine with_tabW lawP.tab60 lawP.bits60 (fun HT_ HW_ => ?_)
      generalize wc.drew = w171 at HO_4 HO_19 BK105 HI102 HB hx179_0 hx179_1 hx179_2 hx179_3 hx179_4 hx180_0 hx180_1 hx180_2 hx180_3 hx180_4 hHeld ⊢
      refine q_ 0 (some 254) HT_.out ?_ (hQ := fun _ _ _ h_ => hQp _ _ _ _ _ h_)
      refine q_ 1 (some 255) HT_.out ?_ (hQ := fun _ _ _ h_ => hQp _ _ _ _ _ h_)
      refine q_ 2 (some 256) HT_.out ?_ (hQ := fun _ _ _ h_ => hQp _ _ _ _ _ h_)
      refine q_ 3 (some 257) HT_.out ?_ (hQ := fun _ _ _ h_ => hQp _ _ _ _ _ h_)
      refine q_ 5 (some 259) HT_.out ?_ (hQ := fun _ _ _ h_ => hQp _ _ _ _ _ h_)
      refine q_ 6 (some 260) HT_.out ?_ (hQ := fun _ _ _ h_ => hQp _ _ _ _ _ h_)
      refine q_ 7 (some 261) HT_.out ?_ (hQ := fun _ _ _ h_ => hQp _ _ _ _ _ h_)
      refine t_ 4 (some 258) HT_.out HW_.out hHeld ?_ (hQ := fun _ _ _ h_ => hQp _ _ _ _ _ h_)
      refine t_ 8 (some 262) HT_.out HW_.out hHeld ?_ (hQ := fun _ _ _ h_ => hQp _ _ _ _ _ h_)
      refine q_ 9 (some 263) HT_.out ?_ (hQ := fun _ _ _ h_ => hQp _ _ _ _ _ h_)
      refine q_ 10 (some 264) HT_.out ?_ (hQ := fun _ _ _ h_ => hQp _ _ _ _ _ h_)
      refine q_ 11 (some 265) HT_.out ?_ (hQ := fun _ _ _ h_ => hQp _ _ _ _ _ h_)
      refine q_ 12 (some 266) HT_.out ?_ (hQ := fun _ _ _ h_ => hQp _ _ _ _ _ h_)
      refine q_ 13 (some 267) HT_.out ?_ (hQ := fun _ _ _ h_ => hQp _ _ _ _ _ h_)
      refine q_ 15 (some 269) HT_.out ?_ (hQ := fun _ _ _ h_ => hQp _ _ _ _ _ h_)
      refine q_ 16 (some 270) HT_.out ?_ (hQ := fun _ _ _ h_ => hQp _ _ _ _ _ h_)
      refine q_ 17 (some 271) HT_.out ?_ (hQ := fun _ _ _ h_ => hQp _ _ _ _ _ h_)
      refine q_ 18 (some 272) HT_.out ?_ (hQ := fun _ _ _ h_ => hQp _ _ _ _ _ h_)
      refine t_ 14 (some 268) HT_.out HW_.out hHeld ?_ (hQ := fun _ _ _ h_ => hQp _ _ _ _ _ h_)
      refine t_ 19 (some 273) HT_.out HW_.out hHeld ?_ (hQ := fun _ _ _ h_ => hQp _ _ _ _ _ h_)
      refine q_ 20 (some 274) HT_.out ?_ (hQ := fun _ _ _ h_ => hQp _ _ _ _ _ h_)
      refine q_ 21 (some 275) HT_.out ?_ (hQ := fun _ _ _ h_ => hQp _ _ _ _ _ h_)
      refine q_ 22 (some 22) HT_.out ?_ (hQ := fun _ _ _ h_ => hQp _ _ _ _ _ h_)
      refine done_ (done_of HT_.out (by kernel_rfl)) ?_
      try go_wp2
      go_meet
      case rel => exact ⟨_, (decide (((rd_T35 l0 x6_1).f2.f0.f0) < ((rd_T42 x4_1 x20_3).f1))), (by first | rfl | (simp; done) | (simp [*]; done)), H', ⟨by have := HK1.out; have := HJ157.out; have := HK3.out; have := HJ161.out; first | omega | exact Nat.le_refl _⟩, ⟨rr_ HO_4.out⟩, ⟨rr_ HO_19.out⟩, ⟨kb_ BK105.out⟩, ⟨by repeat (first | (with_reducible first | exact HI102.out | apply IsS90.alloc | apply IsS90.drewN | apply IsS90.drew | apply IsS90.set_0 | refine IsS90.far ?_ NB102_105.out (by repeat (first | exact Ty.mk BK105.out (by decide) | apply Ty.set)) _) | exact HI102.out)⟩, ⟨by repeat (first | (with_reducible first | exact HB.out | apply below_alloc | apply pw_below_drewN | apply below_drew1 | refine below_set ?_ (IsS90.ge HI102.out) | refine below_set ?_ GE105.out) | exact HB.out)⟩⟩
     as_aux_lemma =>
     clear HC167; (try clear c168); (try clear c168b0); (try clear c169); (try clear c169b0); (try clear c170); (try clear c170b0); (try clear hx177_0); (try clear hx177_1); (try clear hx177_2); (try clear hx177_3); (try clear hx177_4); (try clear hx178_0); (try clear hx178_1); (try clear hx178_2); (try clear hx178_3); (try clear hx178_4); (try clear hx179_0); (try clear hx179_1); (try clear hx179_2); (try clear hx179_3); (try clear hx179_4); (try clear hx180_0); (try clear hx180_1); (try clear hx180_2); (try clear hx180_3); (try clear hx180_4); (try clear p177); (try clear p178); (try clear p179); (try clear p180); (try clear q177); (try clear q178); (try clear q179); (try clear q180); obtain ⟨kq, x22_166, rfl, HA, HJ166, HO_4, HO_19, BK105, HI102, HB⟩ := hcut
     cases kq with
     | zero => exact absurd HA.out (by simp [lawP.j12])
     | succ kj166 =>
      have H := HA.out
      clear HA
      simp only [lawP.j12] at H
      have HC173 := Aside0.mk H; clear H
      go_upto_region 61 with (fail)
      go_cut [289] (fun v289 wc => ∃ (kq : Nat) (x289_172 : Bool), v289 = .bool x289_172 ∧ Aside0 (lawP.j13 kq l0 x4_1 x5_1 x6_1 x19_3 x20_3 x289_172 x103000_1 ((rd_T35 l0 x6_1).f0) ((rd_T35 l0 x6_1).f1) ((rd_T35 l0 x6_1).f2.f0.f0) ((rd_T35 l0 x6_1).f2.f0.f1) ((rd_T35 l0 x6_1).f2.f1) ((rd_T35 l0 x6_1).f2.f2) ((rd_T35 l0 x6_1).f3.f0) ((rd_T35 l0 x6_1).f3.f1) ((rd_T35 l0 x6_1).f3.f2) = some r) ∧ Aside0 (kq ≤ kj166) ∧ Aside0 (Kd.R k42 42 wc w.heap.size (fun _ => True) (.slice Ao21 x4_1.length co21) x4_1) ∧ Aside0 (Kd.R (Kd.int .i64) 3 wc w.heap.size (fun _ => True) u19 x19_3) ∧ Aside0 (wc.heap[gb105]? = some (.cells #[.int .i64 ((rd_T35 l0 x6_1).f0), .int .i64 ((rd_T35 l0 x6_1).f1), .int .i64 ((rd_T35 l0 x6_1).f2.f0.f0), .int .i64 ((rd_T35 l0 x6_1).f2.f0.f1), .bool ((rd_T35 l0 x6_1).f2.f1), .bool ((rd_T35 l0 x6_1).f2.f2), .int .i64 ((rd_T35 l0 x6_1).f3.f0), .int .i64 ((rd_T35 l0 x6_1).f3.f1), (.slice A104_8 ((rd_T35 l0 x6_1).f3.f2).length c104_8)] 35 (0, 0))) ∧ Aside0 (IsS90 w wc g102 x103000_1) ∧ Aside0 (Below w.heap.size w wc))
      case first =>
       as_aux_lemma =>
       have H := HC173.out
       clear HC173
       by_cases c174 : ((rd_T35 l0 x6_1).f0) = 4
       rotate_left
       · as_aux_lemma =>
         rw [if_neg c174] at H
         have c174b0 : (((rd_T35 l0 x6_1).f0) == 4) = false := beq_eq_false_iff_ne.mpr c174
         have c174b1 : (((rd_T35 l0 x6_1).f0) != 4) = true := bne_iff_ne.mpr c174
         (first | rw [c174b0] | (simp only [i64_w, i32_w]; rw [c174b0]) | skip)
         by_cases c183 : ((rd_T35 l0 x6_1).f0) = 5
         rotate_left
         · rw [if_neg c183] at H
           have c183b0 : (((rd_T35 l0 x6_1).f0) == 5) = false := beq_eq_false_iff_ne.mpr c183
           have c183b1 : (((rd_T35 l0 x6_1).f0) != 5) = true := bne_iff_ne.mpr c183
           have H' := Aside0.mk H; clear H
           have hnb186 := NB105_102.out
           have hnc186 := NB102_105.out
           have hcz187_0 : wc.cell? ⟨gb105, 0, none⟩ = some (.int .i64 ((rd_T35 l0 x6_1).f0)) := (blk_cell BK105.out 0).trans rfl
           have hcz187_1 : wc.cell? ⟨gb105, 1, none⟩ = some (.int .i64 ((rd_T35 l0 x6_1).f1)) := (blk_cell BK105.out 1).trans rfl
           have hcz187_2 : wc.cell? ⟨gb105, 2, none⟩ = some (.int .i64 ((rd_T35 l0 x6_1).f2.f0.f0)) := (blk_cell BK105.out 2).trans rfl
           have hcz187_3 : wc.cell? ⟨gb105, 3, none⟩ = some (.int .i64 ((rd_T35 l0 x6_1).f2.f0.f1)) := (blk_cell BK105.out 3).trans rfl
           have hcz187_4 : wc.cell? ⟨gb105, 4, none⟩ = some (.bool ((rd_T35 l0 x6_1).f2.f1)) := (blk_cell BK105.out 4).trans rfl
           have hcz187_5 : wc.cell? ⟨gb105, 5, none⟩ = some (.bool ((rd_T35 l0 x6_1).f2.f2)) := (blk_cell BK105.out 5).trans rfl
           have hcz187_6 : wc.cell? ⟨gb105, 6, none⟩ = some (.int .i64 ((rd_T35 l0 x6_1).f3.f0)) := (blk_cell BK105.out 6).trans rfl
           have hcz187_7 : wc.cell? ⟨gb105, 7, none⟩ = some (.int .i64 ((rd_T35 l0 x6_1).f3.f1)) := (blk_cell BK105.out 7).trans rfl
           have hcz187_8 : wc.cell? ⟨gb105, 8, none⟩ = some (.slice A104_8 ((rd_T35 l0 x6_1).f3.f2).length c104_8) := (blk_cell BK105.out 8).trans rfl
           have hfz187_0 := blk_frozen BK105.out 0
           have hfz187_1 := blk_frozen BK105.out 1
           have hfz187_2 := blk_frozen BK105.out 2
           have hfz187_3 := blk_frozen BK105.out 3
           have hfz187_4 := blk_frozen BK105.out 4
           have hfz187_5 := blk_frozen BK105.out 5
           have hfz187_6 := blk_frozen BK105.out 6
           have hfz187_7 := blk_frozen BK105.out 7
           have hfz187_8 := blk_frozen BK105.out 8
           go_wp2
           go_meet
           case rel => exact ⟨_, (false), (by first | rfl | (simp; done) | (simp [*]; done)), H', ⟨by have := HK1.out; have := HJ157.out; have := HK3.out; have := HJ161.out; have := HJ166.out; first | omega | exact Nat.le_refl _⟩, ⟨rr_ HO_4.out⟩, ⟨rr_ HO_19.out⟩, ⟨kb_ BK105.out⟩, ⟨by repeat (first | (with_reducible first | exact HI102.out | apply IsS90.alloc | apply IsS90.drewN | apply IsS90.drew | apply IsS90.set_0 | refine IsS90.far ?_ NB102_105.out (by repeat (first | exact Ty.mk BK105.out (by decide) | apply Ty.set)) _) | exact HI102.out)⟩, ⟨by repeat (first | (with_reducible first | exact HB.out | apply below_alloc | apply pw_below_drewN | apply below_drew1 | refine below_set ?_ (IsS90.ge HI102.out) | refine below_set ?_ GE105.out) | exact HB.out)⟩⟩
         rw [if_pos c183] at H
         have c183b0 : (((rd_T35 l0 x6_1).f0) == 5) = true := beq_iff_eq.mpr c183
         have c183b1 : (((rd_T35 l0 x6_1).f0) != 5) = false := bne_eq_false_iff_eq.mpr c183
         clear c183; have H' := Aside0.mk H; clear H
         have hnb184 := NB105_102.out
         have hnc184 := NB102_105.out
         have hcz185_0 : wc.cell? ⟨gb105, 0, none⟩ = some (.int .i64 ((rd_T35 l0 x6_1).f0)) := (blk_cell BK105.out 0).trans rfl
         have hcz185_1 : wc.cell? ⟨gb105, 1, none⟩ = some (.int .i64 ((rd_T35 l0 x6_1).f1)) := (blk_cell BK105.out 1).trans rfl
         have hcz185_2 : wc.cell? ⟨gb105, 2, none⟩ = some (.int .i64 ((rd_T35 l0 x6_1).f2.f0.f0)) := (blk_cell BK105.out 2).trans rfl
         have hcz185_3 : wc.cell? ⟨gb105, 3, none⟩ = some (.int .i64 ((rd_T35 l0 x6_1).f2.f0.f1)) := (blk_cell BK105.out 3).trans rfl
         have hcz185_4 : wc.cell? ⟨gb105, 4, none⟩ = some (.bool ((rd_T35 l0 x6_1).f2.f1)) := (blk_cell BK105.out 4).trans rfl
         have hcz185_5 : wc.cell? ⟨gb105, 5, none⟩ = some (.bool ((rd_T35 l0 x6_1).f2.f2)) := (blk_cell BK105.out 5).trans rfl
         have hcz185_6 : wc.cell? ⟨gb105, 6, none⟩ = some (.int .i64 ((rd_T35 l0 x6_1).f3.f0)) := (blk_cell BK105.out 6).trans rfl
         have hcz185_7 : wc.cell? ⟨gb105, 7, none⟩ = some (.int .i64 ((rd_T35 l0 x6_1).f3.f1)) := (blk_cell BK105.out 7).trans rfl
         have hcz185_8 : wc.cell? ⟨gb105, 8, none⟩ = some (.slice A104_8 ((rd_T35 l0 x6_1).f3.f2).length c104_8) := (blk_cell BK105.out 8).trans rfl
         have hfz185_0 := blk_frozen BK105.out 0
         have hfz185_1 := blk_frozen BK105.out 1
         have hfz185_2 := blk_frozen BK105.out 2
         have hfz185_3 := blk_frozen BK105.out 3
         have hfz185_4 := blk_frozen BK105.out 4
         have hfz185_5 := blk_frozen BK105.out 5
         have hfz185_6 := blk_frozen BK105.out 6
         have hfz185_7 := blk_frozen BK105.out 7
         have hfz185_8 := blk_frozen BK105.out 8
         go_wp2
         go_meet
         case rel => exact ⟨_, (x22_166), (by first | rfl | (simp; done) | (simp [*]; done)), H', ⟨by have := HK1.out; have := HJ157.out; have := HK3.out; have := HJ161.out; have := HJ166.out; first | omega | exact Nat.le_refl _⟩, ⟨rr_ HO_4.out⟩, ⟨rr_ HO_19.out⟩, ⟨kb_ BK105.out⟩, ⟨by repeat (first | (with_reducible first | exact HI102.out | apply IsS90.alloc | apply IsS90.drewN | apply IsS90.drew | apply IsS90.set_0 | refine IsS90.far ?_ NB102_105.out (by repeat (first | exact Ty.mk BK105.out (by decide) | apply Ty.set)) _) | exact HI102.out)⟩, ⟨by repeat (first | (with_reducible first | exact HB.out | apply below_alloc | apply pw_below_drewN | apply below_drew1 | refine below_set ?_ (IsS90.ge HI102.out) | refine below_set ?_ GE105.out) | exact HB.out)⟩⟩
       as_aux_lemma =>
       rw [if_pos c174] at H
       have c174b0 : (((rd_T35 l0 x6_1).f0) == 4) = true := beq_iff_eq.mpr c174
       have c174b1 : (((rd_T35 l0 x6_1).f0) != 4) = false := bne_eq_false_iff_eq.mpr c174
       clear c174; (first | rw [c174b0] | (simp only [i64_w, i32_w]; rw [c174b0]) | skip)
       by_cases c175 : x21_161 = true
       · subst c175
         have H1 : (lawP.j13 kj166 l0 x4_1 x5_1 x6_1 x19_3 x20_3 true x103000_1 ((rd_T35 l0 x6_1).f0) ((rd_T35 l0 x6_1).f1) ((rd_T35 l0 x6_1).f2.f0.f0) ((rd_T35 l0 x6_1).f2.f0.f1) ((rd_T35 l0 x6_1).f2.f1) ((rd_T35 l0 x6_1).f2.f2) ((rd_T35 l0 x6_1).f3.f0) ((rd_T35 l0 x6_1).f3.f1) ((rd_T35 l0 x6_1).f3.f2)) = some r := by rw [if_pos rfl] at H; exact H
         clear H
         have H := H1
         clear H1; have H' := Aside0.mk H; clear H
         have hnb176 := NB105_102.out
         have hnc176 := NB102_105.out
         have hcz177_0 : wc.cell? ⟨gb105, 0, none⟩ = some (.int .i64 ((rd_T35 l0 x6_1).f0)) := (blk_cell BK105.out 0).trans rfl
         have hcz177_1 : wc.cell? ⟨gb105, 1, none⟩ = some (.int .i64 ((rd_T35 l0 x6_1).f1)) := (blk_cell BK105.out 1).trans rfl
         have hcz177_2 : wc.cell? ⟨gb105, 2, none⟩ = some (.int .i64 ((rd_T35 l0 x6_1).f2.f0.f0)) := (blk_cell BK105.out 2).trans rfl
         have hcz177_3 : wc.cell? ⟨gb105, 3, none⟩ = some (.int .i64 ((rd_T35 l0 x6_1).f2.f0.f1)) := (blk_cell BK105.out 3).trans rfl
         have hcz177_4 : wc.cell? ⟨gb105, 4, none⟩ = some (.bool ((rd_T35 l0 x6_1).f2.f1)) := (blk_cell BK105.out 4).trans rfl
         have hcz177_5 : wc.cell? ⟨gb105, 5, none⟩ = some (.bool ((rd_T35 l0 x6_1).f2.f2)) := (blk_cell BK105.out 5).trans rfl
         have hcz177_6 : wc.cell? ⟨gb105, 6, none⟩ = some (.int .i64 ((rd_T35 l0 x6_1).f3.f0)) := (blk_cell BK105.out 6).trans rfl
         have hcz177_7 : wc.cell? ⟨gb105, 7, none⟩ = some (.int .i64 ((rd_T35 l0 x6_1).f3.f1)) := (blk_cell BK105.out 7).trans rfl
         have hcz177_8 : wc.cell? ⟨gb105, 8, none⟩ = some (.slice A104_8 ((rd_T35 l0 x6_1).f3.f2).length c104_8) := (blk_cell BK105.out 8).trans rfl
         have hfz177_0 := blk_frozen BK105.out 0
         have hfz177_1 := blk_frozen BK105.out 1
         have hfz177_2 := blk_frozen BK105.out 2
         have hfz177_3 := blk_frozen BK105.out 3
         have hfz177_4 := blk_frozen BK105.out 4
         have hfz177_5 := blk_frozen BK105.out 5
         have hfz177_6 := blk_frozen BK105.out 6
         have hfz177_7 := blk_frozen BK105.out 7
         have hfz177_8 := blk_frozen BK105.out 8
         go_wp2
         go_meet
         case rel => exact ⟨_, (true), (by first | rfl | (simp; done) | (simp [*]; done)), H', ⟨by have := HK1.out; have := HJ157.out; have := HK3.out; have := HJ161.out; have := HJ166.out; first | omega | exact Nat.le_refl _⟩, ⟨rr_ HO_4.out⟩, ⟨rr_ HO_19.out⟩, ⟨kb_ BK105.out⟩, ⟨by repeat (first | (with_reducible first | exact HI102.out | apply IsS90.alloc | apply IsS90.drewN | apply IsS90.drew | apply IsS90.set_0 | refine IsS90.far ?_ NB102_105.out (by repeat (first | exact Ty.mk BK105.out (by decide) | apply Ty.set)) _) | exact HI102.out)⟩, ⟨by repeat (first | (with_reducible first | exact HB.out | apply below_alloc | apply pw_below_drewN | apply below_drew1 | refine below_set ?_ (IsS90.ge HI102.out) | refine below_set ?_ GE105.out) | exact HB.out)⟩⟩
       as_aux_lemma =>
       replace c175 := Bool.eq_false_iff.mpr c175
       subst c175
       have H1 : (if ((rd_T35 l0 x6_1).f0) = 5 then (lawP.j13 kj166 l0 x4_1 x5_1 x6_1 x19_3 x20_3 x22_166 x103000_1 ((rd_T35 l0 x6_1).f0) ((rd_T35 l0 x6_1).f1) ((rd_T35 l0 x6_1).f2.f0.f0) ((rd_T35 l0 x6_1).f2.f0.f1) ((rd_T35 l0 x6_1).f2.f1) ((rd_T35 l0 x6_1).f2.f2) ((rd_T35 l0 x6_1).f3.f0) ((rd_T35 l0 x6_1).f3.f1) ((rd_T35 l0 x6_1).f3.f2)) else (lawP.j13 kj166 l0 x4_1 x5_1 x6_1 x19_3 x20_3 false x103000_1 ((rd_T35 l0 x6_1).f0) ((rd_T35 l0 x6_1).f1) ((rd_T35 l0 x6_1).f2.f0.f0) ((rd_T35 l0 x6_1).f2.f0.f1) ((rd_T35 l0 x6_1).f2.f1) ((rd_T35 l0 x6_1).f2.f2) ((rd_T35 l0 x6_1).f3.f0) ((rd_T35 l0 x6_1).f3.f1) ((rd_T35 l0 x6_1).f3.f2))) = some r := by rw [if_neg (show ¬ (false = true) by decide)] at H; exact H
       clear H
       have H := H1
       clear H1
       by_cases c178 : ((rd_T35 l0 x6_1).f0) = 5
       rotate_left
       · rw [if_neg c178] at H
         have c178b0 : (((rd_T35 l0 x6_1).f0) == 5) = false := beq_eq_false_iff_ne.mpr c178
         have c178b1 : (((rd_T35 l0 x6_1).f0) != 5) = true := bne_iff_ne.mpr c178
         have H' := Aside0.mk H; clear H
         have hnb181 := NB105_102.out
         have hnc181 := NB102_105.out
         have hcz182_0 : wc.cell? ⟨gb105, 0, none⟩ = some (.int .i64 ((rd_T35 l0 x6_1).f0)) := (blk_cell BK105.out 0).trans rfl
         have hcz182_1 : wc.cell? ⟨gb105, 1, none⟩ = some (.int .i64 ((rd_T35 l0 x6_1).f1)) := (blk_cell BK105.out 1).trans rfl
         have hcz182_2 : wc.cell? ⟨gb105, 2, none⟩ = some (.int .i64 ((rd_T35 l0 x6_1).f2.f0.f0)) := (blk_cell BK105.out 2).trans rfl
         have hcz182_3 : wc.cell? ⟨gb105, 3, none⟩ = some (.int .i64 ((rd_T35 l0 x6_1).f2.f0.f1)) := (blk_cell BK105.out 3).trans rfl
         have hcz182_4 : wc.cell? ⟨gb105, 4, none⟩ = some (.bool ((rd_T35 l0 x6_1).f2.f1)) := (blk_cell BK105.out 4).trans rfl
         have hcz182_5 : wc.cell? ⟨gb105, 5, none⟩ = some (.bool ((rd_T35 l0 x6_1).f2.f2)) := (blk_cell BK105.out 5).trans rfl
         have hcz182_6 : wc.cell? ⟨gb105, 6, none⟩ = some (.int .i64 ((rd_T35 l0 x6_1).f3.f0)) := (blk_cell BK105.out 6).trans rfl
         have hcz182_7 : wc.cell? ⟨gb105, 7, none⟩ = some (.int .i64 ((rd_T35 l0 x6_1).f3.f1)) := (blk_cell BK105.out 7).trans rfl
         have hcz182_8 : wc.cell? ⟨gb105, 8, none⟩ = some (.slice A104_8 ((rd_T35 l0 x6_1).f3.f2).length c104_8) := (blk_cell BK105.out 8).trans rfl
         have hfz182_0 := blk_frozen BK105.out 0
         have hfz182_1 := blk_frozen BK105.out 1
         have hfz182_2 := blk_frozen BK105.out 2
         have hfz182_3 := blk_frozen BK105.out 3
         have hfz182_4 := blk_frozen BK105.out 4
         have hfz182_5 := blk_frozen BK105.out 5
         have hfz182_6 := blk_frozen BK105.out 6
         have hfz182_7 := blk_frozen BK105.out 7
         have hfz182_8 := blk_frozen BK105.out 8
         go_wp2
         go_meet
         case rel => exact ⟨_, (false), (by first | rfl | (simp; done) | (simp [*]; done)), H', ⟨by have := HK1.out; have := HJ157.out; have := HK3.out; have := HJ161.out; have := HJ166.out; first | omega | exact Nat.le_refl _⟩, ⟨rr_ HO_4.out⟩, ⟨rr_ HO_19.out⟩, ⟨kb_ BK105.out⟩, ⟨by repeat (first | (with_reducible first | exact HI102.out | apply IsS90.alloc | apply IsS90.drewN | apply IsS90.drew | apply IsS90.set_0 | refine IsS90.far ?_ NB102_105.out (by repeat (first | exact Ty.mk BK105.out (by decide) | apply Ty.set)) _) | exact HI102.out)⟩, ⟨by repeat (first | (with_reducible first | exact HB.out | apply below_alloc | apply pw_below_drewN | apply below_drew1 | refine below_set ?_ (IsS90.ge HI102.out) | refine below_set ?_ GE105.out) | exact HB.out)⟩⟩
       rw [if_pos c178] at H
       have c178b0 : (((rd_T35 l0 x6_1).f0) == 5) = true := beq_iff_eq.mpr c178
       have c178b1 : (((rd_T35 l0 x6_1).f0) != 5) = false := bne_eq_false_iff_eq.mpr c178
       clear c178; have H' := Aside0.mk H; clear H
       have hnb179 := NB105_102.out
       have hnc179 := NB102_105.out
       have hcz180_0 : wc.cell? ⟨gb105, 0, none⟩ = some (.int .i64 ((rd_T35 l0 x6_1).f0)) := (blk_cell BK105.out 0).trans rfl
       have hcz180_1 : wc.cell? ⟨gb105, 1, none⟩ = some (.int .i64 ((rd_T35 l0 x6_1).f1)) := (blk_cell BK105.out 1).trans rfl
       have hcz180_2 : wc.cell? ⟨gb105, 2, none⟩ = some (.int .i64 ((rd_T35 l0 x6_1).f2.f0.f0)) := (blk_cell BK105.out 2).trans rfl
       have hcz180_3 : wc.cell? ⟨gb105, 3, none⟩ = some (.int .i64 ((rd_T35 l0 x6_1).f2.f0.f1)) := (blk_cell BK105.out 3).trans rfl
       have hcz180_4 : wc.cell? ⟨gb105, 4, none⟩ = some (.bool ((rd_T35 l0 x6_1).f2.f1)) := (blk_cell BK105.out 4).trans rfl
       have hcz180_5 : wc.cell? ⟨gb105, 5, none⟩ = some (.bool ((rd_T35 l0 x6_1).f2.f2)) := (blk_cell BK105.out 5).trans rfl
       have hcz180_6 : wc.cell? ⟨gb105, 6, none⟩ = some (.int .i64 ((rd_T35 l0 x6_1).f3.f0)) := (blk_cell BK105.out 6).trans rfl
       have hcz180_7 : wc.cell? ⟨gb105, 7, none⟩ = some (.int .i64 ((rd_T35 l0 x6_1).f3.f1)) := (blk_cell BK105.out 7).trans rfl
       have hcz180_8 : wc.cell? ⟨gb105, 8, none⟩ = some (.slice A104_8 ((rd_T35 l0 x6_1).f3.f2).length c104_8) := (blk_cell BK105.out 8).trans rfl
       have hfz180_0 := blk_frozen BK105.out 0
       have hfz180_1 := blk_frozen BK105.out 1
       have hfz180_2 := blk_frozen BK105.out 2
       have hfz180_3 := blk_frozen BK105.out 3
       have hfz180_4 := blk_frozen BK105.out 4
       have hfz180_5 := blk_frozen BK105.out 5
       have hfz180_6 := blk_frozen BK105.out 6
       have hfz180_7 := blk_frozen BK105.out 7
       have hfz180_8 := blk_frozen BK105.out 8
       go_wp2
       go_meet
       case rel => exact ⟨_, (x22_166), (by first | rfl | (simp; done) | (simp [*]; done)), H', ⟨by have := HK1.out; have := HJ157.out; have := HK3.out; have := HJ161.out; have := HJ166.out; first | omega | exact Nat.le_refl _⟩, ⟨rr_ HO_4.out⟩, ⟨rr_ HO_19.out⟩, ⟨kb_ BK105.out⟩, ⟨by repeat (first | (with_reducible first | exact HI102.out | apply IsS90.alloc | apply IsS90.drewN | apply IsS90.drew | apply IsS90.set_0 | refine IsS90.far ?_ NB102_105.out (by repeat (first | exact Ty.mk BK105.out (by decide) | apply Ty.set)) _) | exact HI102.out)⟩, ⟨by repeat (first | (with_reducible first | exact HB.out | apply below_alloc | apply pw_below_drewN | apply below_drew1 | refine below_set ?_ (IsS90.ge HI102.out) | refine below_set ?_ GE105.out) | exact HB.out)⟩⟩
      as_aux_lemma =>
      clear HC173; (try clear c168); (try clear c168b0); (try clear c169); (try clear c169b0); (try clear c170); (try clear c170b0); (try clear c174); (try clear c174b0); (try clear c174b1); (try clear c175); (try clear p177); (try clear q177); (try clear c178); (try clear c178b0); (try clear c178b1); (try clear p178); (try clear q178); (try clear p179); (try clear q179); (try clear p180); (try clear q180); (try clear c183); (try clear c183b0); (try clear c183b1); (try clear hcz177_0); (try clear hcz177_1); (try clear hcz177_2); (try clear hcz177_3); (try clear hcz177_4); (try clear hcz177_5); (try clear hcz177_6); (try clear hcz177_7); (try clear hcz177_8); (try clear hcz180_0); (try clear hcz180_1); (try clear hcz180_2); (try clear hcz180_3); (try clear hcz180_4); (try clear hcz180_5); (try clear hcz180_6); (try clear hcz180_7); (try clear hcz180_8); (try clear hcz182_0); (try clear hcz182_1); (try clear hcz182_2); (try clear hcz182_3); (try clear hcz182_4); (try clear hcz182_5); (try clear hcz182_6); (try clear hcz182_7); (try clear hcz182_8); (try clear hcz185_0); (try clear hcz185_1); (try clear hcz185_2); (try clear hcz185_3); (try clear hcz185_4); (try clear hcz185_5); (try clear hcz185_6); (try clear hcz185_7); (try clear hcz185_8); (try clear hcz187_0); (try clear hcz187_1); (try clear hcz187_2); (try clear hcz187_3); (try clear hcz187_4); (try clear hcz187_5); (try clear hcz187_6); (try clear hcz187_7); (try clear hcz187_8); (try clear hfz177_0); (try clear hfz177_1); (try clear hfz177_2); (try clear hfz177_3); (try clear hfz177_4); (try clear hfz177_5); (try clear hfz177_6); (try clear hfz177_7); (try clear hfz177_8); (try clear hfz180_0); (try clear hfz180_1); (try clear hfz180_2); (try clear hfz180_3); (try clear hfz180_4); (try clear hfz180_5); (try clear hfz180_6); (try clear hfz180_7); (try clear hfz180_8); (try clear hfz182_0); (try clear hfz182_1); (try clear hfz182_2); (try clear hfz182_3); (try clear hfz182_4); (try clear hfz182_5); (try clear hfz182_6); (try clear hfz182_7); (try clear hfz182_8); (try clear hfz185_0); (try clear hfz185_1); (try clear hfz185_2); (try clear hfz185_3); (try clear hfz185_4); (try clear hfz185_5); (try clear hfz185_6); (try clear hfz185_7); (try clear hfz185_8); (try clear hfz187_0); (try clear hfz187_1); (try clear hfz187_2); (try clear hfz187_3); (try clear hfz187_4); (try clear hfz187_5); (try clear hfz187_6); (try clear hfz187_7); (try clear hfz187_8)
      (try clear hx177_0); (try clear hx177_1); (try clear hx177_2); (try clear hx177_3); (try clear hx177_4); (try clear hx178_0); (try clear hx178_1); (try clear hx178_2); (try clear hx178_3); (try clear hx178_4); (try clear hx179_0); (try clear hx179_1); (try clear hx179_2); (try clear hx179_3); (try clear hx179_4); (try clear hx180_0); (try clear hx180_1); (try clear hx180_2); (try clear hx180_3); (try clear hx180_4); obtain ⟨kq, x289_172, rfl, HA, HJ172, HO_4, HO_19, BK105, HI102, HB⟩ := hcut
      cases kq with
      | zero => exact absurd HA.out (by simp [lawP.j13])
      | succ kj172 =>
       have H := HA.out
       clear HA
       simp only [lawP.j13] at H
       by_cases c188 : x289_172 = true
       rotate_left
       · replace c188 := Bool.eq_false_iff.mpr c188
         subst c188
         have H1 : (lawP.l2 kj172 l0 x4_1 x5_1 x6_1 x19_3 (wrap64 (x20_3 + 1)) x103000_1 ((rd_T35 l0 x6_1).f0) ((rd_T35 l0 x6_1).f1) ((rd_T35 l0 x6_1).f2.f0.f0) ((rd_T35 l0 x6_1).f2.f0.f1) ((rd_T35 l0 x6_1).f2.f1) ((rd_T35 l0 x6_1).f2.f2) ((rd_T35 l0 x6_1).f3.f0) ((rd_T35 l0 x6_1).f3.f1) ((rd_T35 l0 x6_1).f3.f2)) = some r := by rw [if_neg (show ¬ (false = true) by decide)] at H; exact H
         clear H
         have H := H1
         clear H1; have H' := Aside0.mk H; clear H
         go_wp2
         go_roundg kj172
         case measure => have := HK1.out; have := HJ157.out; have := HK3.out; have := HJ161.out; have := HJ166.out; have := HJ172.out; omega
         case rel => exact ⟨(x19_3), (wrap64 (x20_3 + 1)), (by first | rfl | (simp; done) | (simp [*]; done)), H', ⟨by have := HK1.out; have := HJ157.out; have := HK3.out; have := HJ161.out; have := HJ166.out; have := HJ172.out; omega⟩, ⟨rr_ HO_4.out⟩, ⟨rr_ HO_19.out⟩, ⟨kb_ BK105.out⟩, ⟨by repeat (first | (with_reducible first | exact HI102.out | apply IsS90.alloc | apply IsS90.drewN | apply IsS90.drew | apply IsS90.set_0 | refine IsS90.far ?_ NB102_105.out (by repeat (first | exact Ty.mk BK105.out (by decide) | apply Ty.set)) _) | exact HI102.out)⟩, ⟨by repeat (first | (with_reducible first | exact HB.out | apply below_alloc | apply pw_below_drewN | apply below_drew1 | refine below_set ?_ (IsS90.ge HI102.out) | refine below_set ?_ GE105.out) | exact HB.out)⟩⟩
       subst c188
       have H1 : (if 0 ≤ x20_3 then (if x20_3 < (x4_1.length : Int) then (if x19_3.length < 17592186044416 then (lawP.l2 kj172 l0 x4_1 x5_1 x6_1 (x19_3 ++ [(rd_T42 x4_1 x20_3).f4]) (wrap64 (x20_3 + 1)) x103000_1 ((rd_T35 l0 x6_1).f0) ((rd_T35 l0 x6_1).f1) ((rd_T35 l0 x6_1).f2.f0.f0) ((rd_T35 l0 x6_1).f2.f0.f1) ((rd_T35 l0 x6_1).f2.f1) ((rd_T35 l0 x6_1).f2.f2) ((rd_T35 l0 x6_1).f3.f0) ((rd_T35 l0 x6_1).f3.f1) ((rd_T35 l0 x6_1).f3.f2)) else (none)) else (none)) else (none)) = some r := by rw [if_pos rfl] at H; exact H
       clear H
       have H := H1
       clear H1
       by_cases c189 : 0 ≤ x20_3
       rotate_left
       · rw [if_neg c189] at H
         exact absurd H (by simp)
       rw [if_pos c189] at H
       have c189b0 : decide (0 ≤ x20_3) = true := decide_eq_true c189
       clear c189
       by_cases c190 : x20_3 < (x4_1.length : Int)
       rotate_left
       · rw [if_neg c190] at H
         exact absurd H (by simp)
       rw [if_pos c190] at H
       have c190b0 : decide (x20_3 < (x4_1.length : Int)) = true := decide_eq_true c190
       clear c190
       by_cases c191 : x19_3.length < 17592186044416
       rotate_left
       · rw [if_neg c191] at H
         exact absurd H (by simp)
       rw [if_pos c191] at H; have LMc191 := Aside0.mk c191; clear c191
       obtain ⟨y182, hy182⟩ : ∃ y_ : List Int, y_ = (x19_3 ++ [(rd_T42 x4_1 x20_3).f4]) := ⟨_, rfl⟩
       replace H : (lawP.l2 kj172 l0 x4_1 x5_1 x6_1 y182 (wrap64 (x20_3 + 1)) x103000_1 ((rd_T35 l0 x6_1).f0) ((rd_T35 l0 x6_1).f1) ((rd_T35 l0 x6_1).f2.f0.f0) ((rd_T35 l0 x6_1).f2.f0.f1) ((rd_T35 l0 x6_1).f2.f1) ((rd_T35 l0 x6_1).f2.f2) ((rd_T35 l0 x6_1).f3.f0) ((rd_T35 l0 x6_1).f3.f1) ((rd_T35 l0 x6_1).f3.f2)) = some r := by first | (rw [hy182]; with_reducible exact H) | (have H2_ := (Option.bind_some _ _).symm.trans H; rw [hy182]; with_reducible exact H2_) | (have H2_ := (Option.bind_some _ _).symm.trans H; with_reducible exact H2_) | with_reducible exact H | (rw [hy182]; exact H) | exact H
       have Ny182 := Aside0.mk hy182; clear hy182; have H' := Aside0.mk H; clear H
       have p181 : 0 ≤ (x20_3 : Int) := od_
       have q181 : x20_3 < (x4_1.length : Int) := od_
       obtain ⟨ad181, e181, hx181_0, hx181_1, hx181_2, hx181_3, hx181_4⟩ := at_T42 (Kd.R_reads' HO_4.out).2.2 x20_3 p181 q181
       cases e181
       replace p181 := eq_true p181; replace q181 := eq_true q181
       go_wp2_with (first | ((with_reducible refine gate_builtin (b := .append) (xs := #[.tmp 290, .tmp 296]) rfl ?_); (try (refine gate_guard (by rfl) ?_; dsimp only)); at_builtin; refine Kd.R_append (Kd.int .i64) (w0 := w) w.heap.size rfl (.tmp 290) (.tmp 296) 50 3 (.int .i64 0) 8 rfl Try.underlying50 info3 rfl (by decide) (by omega) u19 x19_3 ((rd_T42 x4_1 x20_3).f4) [.int .i64 ((rd_T42 x4_1 x20_3).f4)] (fun _ => True) (fun _ => False) rfl rfl ?aP (fun _ hk => hk.elim) ?aF ?aO ?aB ?aS ?aL ?_; (case aP => exact rfl); (case aB => exact (by repeat (first | (with_reducible first | exact HB.out | apply below_alloc | apply pw_below_drewN | apply below_drew1 | refine below_set ?_ (IsS90.ge HI102.out) | refine below_set ?_ GE105.out) | exact HB.out))); (case aF => exact (fun _ _ => trivial)); (case aO => exact (rr_ HO_19.out)); (case aS => exact (below_size (by repeat (first | (with_reducible first | exact HB.out | apply below_alloc | apply pw_below_drewN | apply below_drew1 | refine below_set ?_ (IsS90.ge HI102.out) | refine below_set ?_ GE105.out) | exact HB.out)))); (case aL => have := LMc191.out; omega); intro v183 w192 ho hb hg hat; rw [← Ny182.out] at ho; have n0_ := Aside0.mk (Kd.R_over' (rr_ HO_4.out) (Kd.R_typed (rr_ HO_19.out)) (by decide) hg); have n1_ := Aside0.mk (blk_grown (g := gb105) (o := .cells #[.int .i64 ((rd_T35 l0 x6_1).f0), .int .i64 ((rd_T35 l0 x6_1).f1), .int .i64 ((rd_T35 l0 x6_1).f2.f0.f0), .int .i64 ((rd_T35 l0 x6_1).f2.f0.f1), .bool ((rd_T35 l0 x6_1).f2.f1), .bool ((rd_T35 l0 x6_1).f2.f2), .int .i64 ((rd_T35 l0 x6_1).f3.f0), .int .i64 ((rd_T35 l0 x6_1).f3.f1), .slice A104_8 ((rd_T35 l0 x6_1).f3.f2).length c104_8] 35 (0, 0)) (kb_ BK105.out) hg (Kd.R_ne HO_19.out BK105.out (by decide))); have n2_ := Aside0.mk (IsS90.grown (by repeat (first | (with_reducible first | exact HI102.out | apply IsS90.alloc | apply IsS90.drewN | apply IsS90.drew | apply IsS90.set_0 | refine IsS90.far ?_ NB102_105.out (by repeat (first | exact Ty.mk BK105.out (by decide) | apply Ty.set)) _) | exact HI102.out)) hg (IsS90.own_ne HI102.out HO_19.out (by decide))); have n3_ := Aside0.mk (hb); have n4_ := Aside0.mk (ho); clear HO_4; clear BK105; clear HI102; clear HB; clear HO_19; have HO_4 := n0_; have BK105 := n1_; have HI102 := n2_; have HB := n3_; have HO184 := n4_; clear n0_ n1_ n2_ n3_ n4_; clear ho hb hg hat))
       go_roundg kj172
       case measure => have := HK1.out; have := HJ157.out; have := HK3.out; have := HJ161.out; have := HJ166.out; have := HJ172.out; omega
       case rel => exact ⟨(y182), (wrap64 (x20_3 + 1)), (by first | rfl | (simp; done) | (simp [*]; done)), H', ⟨by have := HK1.out; have := HJ157.out; have := HK3.out; have := HJ161.out; have := HJ166.out; have := HJ172.out; omega⟩, ⟨rr_ HO_4.out⟩, ⟨rr_ HO184.out⟩, ⟨kb_ BK105.out⟩, ⟨by repeat (first | (with_reducible first | exact HI102.out | apply IsS90.alloc | apply IsS90.drewN | apply IsS90.drew | apply IsS90.set_0 | refine IsS90.far ?_ NB102_105.out (by repeat (first | exact Ty.mk BK105.out (by decide) | apply Ty.set)) _) | exact HI102.out)⟩, ⟨by repeat (first | (with_reducible first | exact HB.out | apply below_alloc | apply pw_below_drewN | apply below_drew1 | refine below_set ?_ (IsS90.ge HI102.out) | refine below_set ?_ GE105.out) | exact HB.out)⟩⟩
end Go.Proofs.Ythbdiambigfgdae.PMarksPlay
