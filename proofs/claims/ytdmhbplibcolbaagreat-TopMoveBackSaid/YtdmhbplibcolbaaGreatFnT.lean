/- A part of the proof: no statement of the seat is proved in this text. -/
import Derived.Test.YtdmhbplibcolbaaGreatOpen2
import Derived.Test.YtdmhbplibcolbaaGreatTyA
import Derived.Test.YtdmhbplibcolbaaGreatData
set_option linter.unusedVariables false
set_option linter.unusedSimpArgs false
set_option maxRecDepth 20000
set_option maxHeartbeats 1000000
namespace Go.Ai.Tryz
open Go Go.Ai Go.Proofs
noncomputable def c3 : Code := (Tryz.f3.body).getD .skip
@[go_sem] def R3_0 : List XOp := (fun (x : List XOp) (_ : xr c3 0 = x) => x) _ (by conv => lhs; cbv)
noncomputable def r3_0 := xr c3 0
noncomputable def q3_0 := xq c3 0
theorem dr3_0 {w0 : World} {N : Nat} (env : Env) (H : AH) (Q : APost) : awpC Tryz.prog w0 tt N (.draw r3_0 q3_0) Q env H = drunC Tryz.prog w0 tt 0 R3_0 (dendC [] (Q .normal)) [] env H := (awp_draw Tryz.prog w0 tt N (l := r3_0) (by kernel_rfl) (by kernel_rfl) (by kernel_rfl) mixed env H Q).trans (by rw [show r3_0 = R3_0 by kernel_rfl])
noncomputable def x3 : XCode := (fun (r0 : List XOp) (q0 : List (List Nat)) => (fun (x : XCode) (_ : xs [] [(r0, q0)] c3 0 0 = x) => x) _ (by conv => lhs; cbv)) r3_0 q3_0
theorem enter3 : EnterT Tryz.prog tt 143 x3 [.tmp 4] 3 := enterT ttOk Tryz.func3 c3 (by kernel_rfl) (by kernel_rfl) (by kernel_rfl) (by kernel_rfl) (by kernel_rfl) (by kernel_rfl)
noncomputable def c4 : Code := (Tryz.f4.body).getD .skip
@[go_sem] def R4_0 : List XOp := (fun (x : List XOp) (_ : xr c4 0 = x) => x) _ (by conv => lhs; cbv)
noncomputable def r4_0 := xr c4 0
noncomputable def q4_0 := xq c4 0
theorem dr4_0 {w0 : World} {N : Nat} (env : Env) (H : AH) (Q : APost) : awpC Tryz.prog w0 tt N (.draw r4_0 q4_0) Q env H = drunC Tryz.prog w0 tt 0 R4_0 (dendC [] (Q .normal)) [] env H := (awp_draw Tryz.prog w0 tt N (l := r4_0) (by kernel_rfl) (by kernel_rfl) (by kernel_rfl) mixed env H Q).trans (by rw [show r4_0 = R4_0 by kernel_rfl])
noncomputable def x4 : XCode := (fun (r0 : List XOp) (q0 : List (List Nat)) => (fun (x : XCode) (_ : xs [] [(r0, q0)] c4 0 0 = x) => x) _ (by conv => lhs; cbv)) r4_0 q4_0
theorem enter4 : EnterT Tryz.prog tt 33 x4 [.tmp 4] 4 := enterT ttOk Tryz.func4 c4 (by kernel_rfl) (by kernel_rfl) (by kernel_rfl) (by kernel_rfl) (by kernel_rfl) (by kernel_rfl)
noncomputable def c5 : Code := (Tryz.f5.body).getD .skip
noncomputable def l5_0 : XCode := (fun (l0 l1 l2 l3 l4 l5 : XCode) => (fun (x : XCode) (_ : xl c5 0 [l0, l1, l2, l3, l4, l5] [] = x) => x) _ (by conv => lhs; cbv)) .skip .skip .skip .skip .skip .skip
noncomputable def l5_1 : XCode := (fun (l0 l1 l2 l3 l4 l5 : XCode) => (fun (x : XCode) (_ : xl c5 1 [l0, l1, l2, l3, l4, l5] [] = x) => x) _ (by conv => lhs; cbv)) l5_0 .skip .skip .skip .skip .skip
noncomputable def l5_2 : XCode := (fun (l0 l1 l2 l3 l4 l5 : XCode) => (fun (x : XCode) (_ : xl c5 2 [l0, l1, l2, l3, l4, l5] [] = x) => x) _ (by conv => lhs; cbv)) l5_0 l5_1 .skip .skip .skip .skip
noncomputable def l5_3 : XCode := (fun (l0 l1 l2 l3 l4 l5 : XCode) => (fun (x : XCode) (_ : xl c5 3 [l0, l1, l2, l3, l4, l5] [] = x) => x) _ (by conv => lhs; cbv)) l5_0 l5_1 l5_2 .skip .skip .skip
noncomputable def l5_4 : XCode := (fun (l0 l1 l2 l3 l4 l5 : XCode) => (fun (x : XCode) (_ : xl c5 4 [l0, l1, l2, l3, l4, l5] [] = x) => x) _ (by conv => lhs; cbv)) l5_0 l5_1 l5_2 l5_3 .skip .skip
noncomputable def l5_5 : XCode := (fun (l0 l1 l2 l3 l4 l5 : XCode) => (fun (x : XCode) (_ : xl c5 5 [l0, l1, l2, l3, l4, l5] [] = x) => x) _ (by conv => lhs; cbv)) l5_0 l5_1 l5_2 l5_3 l5_4 .skip
noncomputable def x5 : XCode := (fun (l0 l1 l2 l3 l4 l5 : XCode) => (fun (x : XCode) (_ : xs [l0, l1, l2, l3, l4, l5] [] c5 0 0 = x) => x) _ (by conv => lhs; cbv)) l5_0 l5_1 l5_2 l5_3 l5_4 l5_5
theorem enter5 : EnterT Tryz.prog tt 163 x5 [.tmp 2] 5 := enterT ttOk Tryz.func5 c5 (by kernel_rfl) (by kernel_rfl) (by kernel_rfl) (by kernel_rfl) (by kernel_rfl) (by kernel_rfl)
noncomputable def c6 : Code := (Tryz.f6.body).getD .skip
@[go_sem] def R6_0 : List XOp := (fun (x : List XOp) (_ : xr c6 0 = x) => x) _ (by conv => lhs; cbv)
noncomputable def r6_0 := xr c6 0
noncomputable def q6_0 := xq c6 0
theorem dr6_0 {w0 : World} {N : Nat} (env : Env) (H : AH) (Q : APost) : awpC Tryz.prog w0 tt N (.draw r6_0 q6_0) Q env H = drunC Tryz.prog w0 tt 0 R6_0 (dendC [] (Q .normal)) [] env H := (awp_draw Tryz.prog w0 tt N (l := r6_0) (by kernel_rfl) (by kernel_rfl) (by kernel_rfl) mixed env H Q).trans (by rw [show r6_0 = R6_0 by kernel_rfl])
noncomputable def x6 : XCode := (fun (r0 : List XOp) (q0 : List (List Nat)) => (fun (x : XCode) (_ : xs [] [(r0, q0)] c6 0 0 = x) => x) _ (by conv => lhs; cbv)) r6_0 q6_0
theorem enter6 : EnterT Tryz.prog tt 189 x6 [.tmp 2] 6 := enterT ttOk Tryz.func6 c6 (by kernel_rfl) (by kernel_rfl) (by kernel_rfl) (by kernel_rfl) (by kernel_rfl) (by kernel_rfl)
noncomputable def c7 : Code := (Tryz.f7.body).getD .skip
noncomputable def x7 : XCode := (fun (x : XCode) (_ : xs [] [] c7 0 0 = x) => x) _ (by conv => lhs; cbv)
theorem enter7 : EnterT Tryz.prog tt 140 x7 [.cell 4 27, .tmp 5] 7 := enterT ttOk Tryz.func7 c7 (by kernel_rfl) (by kernel_rfl) (by kernel_rfl) (by kernel_rfl) (by kernel_rfl) (by kernel_rfl)
noncomputable def c8 : Code := (Tryz.f8.body).getD .skip
noncomputable def x8 : XCode := (fun (x : XCode) (_ : xs [] [] c8 0 0 = x) => x) _ (by conv => lhs; cbv)
theorem enter8 : EnterT Tryz.prog tt 12 x8 [.cell 4 23, .tmp 5] 8 := enterT ttOk Tryz.func8 c8 (by kernel_rfl) (by kernel_rfl) (by kernel_rfl) (by kernel_rfl) (by kernel_rfl) (by kernel_rfl)
noncomputable def c9 : Code := (Tryz.f9.body).getD .skip
@[go_sem] def R9_0 : List XOp := (fun (x : List XOp) (_ : xr c9 0 = x) => x) _ (by conv => lhs; cbv)
noncomputable def r9_0 := xr c9 0
noncomputable def q9_0 := xq c9 0
theorem dr9_0 {w0 : World} {N : Nat} (env : Env) (H : AH) (Q : APost) : awpC Tryz.prog w0 tt N (.draw r9_0 q9_0) Q env H = drunC Tryz.prog w0 tt 0 R9_0 (dendC [] (Q .normal)) [] env H := (awp_draw Tryz.prog w0 tt N (l := r9_0) (by kernel_rfl) (by kernel_rfl) (by kernel_rfl) mixed env H Q).trans (by rw [show r9_0 = R9_0 by kernel_rfl])
@[go_sem] def R9_1 : List XOp := (fun (x : List XOp) (_ : xr c9 1 = x) => x) _ (by conv => lhs; cbv)
noncomputable def r9_1 := xr c9 1
noncomputable def q9_1 := xq c9 1
theorem dr9_1 {w0 : World} {N : Nat} (env : Env) (H : AH) (Q : APost) : awpC Tryz.prog w0 tt N (.draw r9_1 q9_1) Q env H = drunC Tryz.prog w0 tt 0 R9_1 (dendC [(1, 10), (4, 10), (5, 10)] (Q .normal)) [] env H := (awp_draw Tryz.prog w0 tt N (l := r9_1) (by kernel_rfl) (by kernel_rfl) (by kernel_rfl) mixed env H Q).trans (by rw [show r9_1 = R9_1 by kernel_rfl])
@[go_sem] def R9_2 : List XOp := (fun (x : List XOp) (_ : xr c9 2 = x) => x) _ (by conv => lhs; cbv)
noncomputable def r9_2 := xr c9 2
noncomputable def q9_2 := xq c9 2
theorem dr9_2 {w0 : World} {N : Nat} (env : Env) (H : AH) (Q : APost) : awpC Tryz.prog w0 tt N (.draw r9_2 q9_2) Q env H = drunC Tryz.prog w0 tt 0 R9_2 (dendC [] (Q .normal)) [] env H := (awp_draw Tryz.prog w0 tt N (l := r9_2) (by kernel_rfl) (by kernel_rfl) (by kernel_rfl) mixed env H Q).trans (by rw [show r9_2 = R9_2 by kernel_rfl])
noncomputable def l9_0 : XCode := (fun (l0 : XCode) (r0 : List XOp) (q0 : List (List Nat)) (r1 : List XOp) (q1 : List (List Nat)) (r2 : List XOp) (q2 : List (List Nat)) => (fun (x : XCode) (_ : xl c9 0 [l0] [(r0, q0), (r1, q1), (r2, q2)] = x) => x) _ (by conv => lhs; cbv)) .skip r9_0 q9_0 r9_1 q9_1 r9_2 q9_2
noncomputable def x9 : XCode := (fun (l0 : XCode) (r0 : List XOp) (q0 : List (List Nat)) (r1 : List XOp) (q1 : List (List Nat)) (r2 : List XOp) (q2 : List (List Nat)) => (fun (x : XCode) (_ : xs [l0] [(r0, q0), (r1, q1), (r2, q2)] c9 0 0 = x) => x) _ (by conv => lhs; cbv)) l9_0 r9_0 q9_0 r9_1 q9_1 r9_2 q9_2
theorem enter9 : EnterT Tryz.prog tt 55 x9 [.cell 4 23, .tmp 5, .tmp 6] 9 := enterT ttOk Tryz.func9 c9 (by kernel_rfl) (by kernel_rfl) (by kernel_rfl) (by kernel_rfl) (by kernel_rfl) (by kernel_rfl)
noncomputable def c10 : Code := (Tryz.f10.body).getD .skip
@[go_sem] def R10_0 : List XOp := (fun (x : List XOp) (_ : xr c10 0 = x) => x) _ (by conv => lhs; cbv)
noncomputable def r10_0 := xr c10 0
noncomputable def q10_0 := xq c10 0
theorem dr10_0 {w0 : World} {N : Nat} (env : Env) (H : AH) (Q : APost) : awpC Tryz.prog w0 tt N (.draw r10_0 q10_0) Q env H = drunC Tryz.prog w0 tt 0 R10_0 (dendC [(1, 10), (4, 10), (5, 10)] (Q .normal)) [] env H := (awp_draw Tryz.prog w0 tt N (l := r10_0) (by kernel_rfl) (by kernel_rfl) (by kernel_rfl) mixed env H Q).trans (by rw [show r10_0 = R10_0 by kernel_rfl])
noncomputable def l10_0 : XCode := (fun (l0 : XCode) (r0 : List XOp) (q0 : List (List Nat)) => (fun (x : XCode) (_ : xl c10 0 [l0] [(r0, q0)] = x) => x) _ (by conv => lhs; cbv)) .skip r10_0 q10_0
noncomputable def x10 : XCode := (fun (l0 : XCode) (r0 : List XOp) (q0 : List (List Nat)) => (fun (x : XCode) (_ : xs [l0] [(r0, q0)] c10 0 0 = x) => x) _ (by conv => lhs; cbv)) l10_0 r10_0 q10_0
theorem enter10 : EnterT Tryz.prog tt 34 x10 [.cell 4 27, .tmp 5] 10 := enterT ttOk Tryz.func10 c10 (by kernel_rfl) (by kernel_rfl) (by kernel_rfl) (by kernel_rfl) (by kernel_rfl) (by kernel_rfl)
noncomputable def c11 : Code := (Tryz.f11.body).getD .skip
noncomputable def x11 : XCode := (fun (x : XCode) (_ : xs [] [] c11 0 0 = x) => x) _ (by conv => lhs; cbv)
theorem enter11 : EnterT Tryz.prog tt 20 x11 [.tmp 4, .tmp 5] 11 := enterT ttOk Tryz.func11 c11 (by kernel_rfl) (by kernel_rfl) (by kernel_rfl) (by kernel_rfl) (by kernel_rfl) (by kernel_rfl)
noncomputable def c12 : Code := (Tryz.f12.body).getD .skip
@[go_sem] def R12_0 : List XOp := (fun (x : List XOp) (_ : xr c12 0 = x) => x) _ (by conv => lhs; cbv)
noncomputable def r12_0 := xr c12 0
noncomputable def q12_0 := xq c12 0
theorem dr12_0 {w0 : World} {N : Nat} (env : Env) (H : AH) (Q : APost) : awpC Tryz.prog w0 tt N (.draw r12_0 q12_0) Q env H = drunC Tryz.prog w0 tt 0 R12_0 (dendC [(3, 4)] (Q .normal)) [] env H := (awp_draw Tryz.prog w0 tt N (l := r12_0) (by kernel_rfl) (by kernel_rfl) (by kernel_rfl) mixed env H Q).trans (by rw [show r12_0 = R12_0 by kernel_rfl])
noncomputable def x12 : XCode := (fun (r0 : List XOp) (q0 : List (List Nat)) => (fun (x : XCode) (_ : xs [] [(r0, q0)] c12 0 0 = x) => x) _ (by conv => lhs; cbv)) r12_0 q12_0
theorem enter12 : EnterT Tryz.prog tt 72 x12 [.cell 4 23, .tmp 5, .tmp 6] 12 := enterT ttOk Tryz.func12 c12 (by kernel_rfl) (by kernel_rfl) (by kernel_rfl) (by kernel_rfl) (by kernel_rfl) (by kernel_rfl)
noncomputable def c13 : Code := (Tryz.f13.body).getD .skip
@[go_sem] def R13_0 : List XOp := (fun (x : List XOp) (_ : xr c13 0 = x) => x) _ (by conv => lhs; cbv)
noncomputable def r13_0 := xr c13 0
noncomputable def q13_0 := xq c13 0
theorem dr13_0 {w0 : World} {N : Nat} (env : Env) (H : AH) (Q : APost) : awpC Tryz.prog w0 tt N (.draw r13_0 q13_0) Q env H = drunC Tryz.prog w0 tt 0 R13_0 (dendC [] (Q .normal)) [] env H := (awp_draw Tryz.prog w0 tt N (l := r13_0) (by kernel_rfl) (by kernel_rfl) (by kernel_rfl) mixed env H Q).trans (by rw [show r13_0 = R13_0 by kernel_rfl])
noncomputable def l13_0 : XCode := (fun (l0 : XCode) (r0 : List XOp) (q0 : List (List Nat)) => (fun (x : XCode) (_ : xl c13 0 [l0] [(r0, q0)] = x) => x) _ (by conv => lhs; cbv)) .skip r13_0 q13_0
noncomputable def x13 : XCode := (fun (l0 : XCode) (r0 : List XOp) (q0 : List (List Nat)) => (fun (x : XCode) (_ : xs [l0] [(r0, q0)] c13 0 0 = x) => x) _ (by conv => lhs; cbv)) l13_0 r13_0 q13_0
theorem enter13 : EnterT Tryz.prog tt 69 x13 [.tmp 4] 13 := enterT ttOk Tryz.func13 c13 (by kernel_rfl) (by kernel_rfl) (by kernel_rfl) (by kernel_rfl) (by kernel_rfl) (by kernel_rfl)
noncomputable def c14 : Code := (Tryz.f14.body).getD .skip
noncomputable def x14 : XCode := (fun (x : XCode) (_ : xs [] [] c14 0 0 = x) => x) _ (by conv => lhs; cbv)
theorem enter14 : EnterT Tryz.prog tt 14 x14 [.tmp 4] 14 := enterT ttOk Tryz.func14 c14 (by kernel_rfl) (by kernel_rfl) (by kernel_rfl) (by kernel_rfl) (by kernel_rfl) (by kernel_rfl)
noncomputable def c15 : Code := (Tryz.f15.body).getD .skip
noncomputable def x15 : XCode := (fun (x : XCode) (_ : xs [] [] c15 0 0 = x) => x) _ (by conv => lhs; cbv)
theorem enter15 : EnterT Tryz.prog tt 19 x15 [.tmp 2] 15 := enterT ttOk Tryz.func15 c15 (by kernel_rfl) (by kernel_rfl) (by kernel_rfl) (by kernel_rfl) (by kernel_rfl) (by kernel_rfl)
noncomputable def c16 : Code := (Tryz.f16.body).getD .skip
noncomputable def x16 : XCode := (fun (x : XCode) (_ : xs [] [] c16 0 0 = x) => x) _ (by conv => lhs; cbv)
theorem enter16 : EnterT Tryz.prog tt 15 x16 [.tmp 6] 16 := enterT ttOk Tryz.func16 c16 (by kernel_rfl) (by kernel_rfl) (by kernel_rfl) (by kernel_rfl) (by kernel_rfl) (by kernel_rfl)
noncomputable def c17 : Code := (Tryz.f17.body).getD .skip
@[go_sem] def R17_0 : List XOp := (fun (x : List XOp) (_ : xr c17 0 = x) => x) _ (by conv => lhs; cbv)
noncomputable def r17_0 := xr c17 0
noncomputable def q17_0 := xq c17 0
theorem dr17_0 {w0 : World} {N : Nat} (env : Env) (H : AH) (Q : APost) : awpC Tryz.prog w0 tt N (.draw r17_0 q17_0) Q env H = drunC Tryz.prog w0 tt 0 R17_0 (dendC [] (Q .normal)) [] env H := (awp_draw Tryz.prog w0 tt N (l := r17_0) (by kernel_rfl) (by kernel_rfl) (by kernel_rfl) mixed env H Q).trans (by rw [show r17_0 = R17_0 by kernel_rfl])
noncomputable def l17_0 : XCode := (fun (l0 : XCode) (r0 : List XOp) (q0 : List (List Nat)) => (fun (x : XCode) (_ : xl c17 0 [l0] [(r0, q0)] = x) => x) _ (by conv => lhs; cbv)) .skip r17_0 q17_0
noncomputable def x17 : XCode := (fun (l0 : XCode) (r0 : List XOp) (q0 : List (List Nat)) => (fun (x : XCode) (_ : xs [l0] [(r0, q0)] c17 0 0 = x) => x) _ (by conv => lhs; cbv)) l17_0 r17_0 q17_0
theorem enter17 : EnterT Tryz.prog tt 140 x17 [.tmp 4] 17 := enterT ttOk Tryz.func17 c17 (by kernel_rfl) (by kernel_rfl) (by kernel_rfl) (by kernel_rfl) (by kernel_rfl) (by kernel_rfl)
noncomputable def c18 : Code := (Tryz.f18.body).getD .skip
@[go_sem] def R18_0 : List XOp := (fun (x : List XOp) (_ : xr c18 0 = x) => x) _ (by conv => lhs; cbv)
noncomputable def r18_0 := xr c18 0
noncomputable def q18_0 := xq c18 0
theorem dr18_0 {w0 : World} {N : Nat} (env : Env) (H : AH) (Q : APost) : awpC Tryz.prog w0 tt N (.draw r18_0 q18_0) Q env H = drunC Tryz.prog w0 tt 0 R18_0 (dendC [(3, 7), (5, 7), (5, 9)] (Q .normal)) [] env H := (awp_draw Tryz.prog w0 tt N (l := r18_0) (by kernel_rfl) (by kernel_rfl) (by kernel_rfl) mixed env H Q).trans (by rw [show r18_0 = R18_0 by kernel_rfl])
@[go_sem] def R18_1 : List XOp := (fun (x : List XOp) (_ : xr c18 1 = x) => x) _ (by conv => lhs; cbv)
noncomputable def r18_1 := xr c18 1
noncomputable def q18_1 := xq c18 1
theorem dr18_1 {w0 : World} {N : Nat} (env : Env) (H : AH) (Q : APost) : awpC Tryz.prog w0 tt N (.draw r18_1 q18_1) Q env H = drunC Tryz.prog w0 tt 0 R18_1 (dendC [(3, 5)] (Q .normal)) [] env H := (awp_draw Tryz.prog w0 tt N (l := r18_1) (by kernel_rfl) (by kernel_rfl) (by kernel_rfl) mixed env H Q).trans (by rw [show r18_1 = R18_1 by kernel_rfl])
@[go_sem] def R18_2 : List XOp := (fun (x : List XOp) (_ : xr c18 2 = x) => x) _ (by conv => lhs; cbv)
noncomputable def r18_2 := xr c18 2
noncomputable def q18_2 := xq c18 2
theorem dr18_2 {w0 : World} {N : Nat} (env : Env) (H : AH) (Q : APost) : awpC Tryz.prog w0 tt N (.draw r18_2 q18_2) Q env H = drunC Tryz.prog w0 tt 0 R18_2 (dendC [(3, 7), (5, 7), (5, 9)] (Q .normal)) [] env H := (awp_draw Tryz.prog w0 tt N (l := r18_2) (by kernel_rfl) (by kernel_rfl) (by kernel_rfl) mixed env H Q).trans (by rw [show r18_2 = R18_2 by kernel_rfl])
@[go_sem] def R18_3 : List XOp := (fun (x : List XOp) (_ : xr c18 3 = x) => x) _ (by conv => lhs; cbv)
noncomputable def r18_3 := xr c18 3
noncomputable def q18_3 := xq c18 3
theorem dr18_3 {w0 : World} {N : Nat} (env : Env) (H : AH) (Q : APost) : awpC Tryz.prog w0 tt N (.draw r18_3 q18_3) Q env H = drunC Tryz.prog w0 tt 0 R18_3 (dendC [(3, 5)] (Q .normal)) [] env H := (awp_draw Tryz.prog w0 tt N (l := r18_3) (by kernel_rfl) (by kernel_rfl) (by kernel_rfl) mixed env H Q).trans (by rw [show r18_3 = R18_3 by kernel_rfl])
@[go_sem] def R18_4 : List XOp := (fun (x : List XOp) (_ : xr c18 4 = x) => x) _ (by conv => lhs; cbv)
noncomputable def r18_4 := xr c18 4
noncomputable def q18_4 := xq c18 4
theorem dr18_4 {w0 : World} {N : Nat} (env : Env) (H : AH) (Q : APost) : awpC Tryz.prog w0 tt N (.draw r18_4 q18_4) Q env H = drunC Tryz.prog w0 tt 0 R18_4 (dendC [(3, 5)] (Q .normal)) [] env H := (awp_draw Tryz.prog w0 tt N (l := r18_4) (by kernel_rfl) (by kernel_rfl) (by kernel_rfl) mixed env H Q).trans (by rw [show r18_4 = R18_4 by kernel_rfl])
@[go_sem] def R18_5 : List XOp := (fun (x : List XOp) (_ : xr c18 5 = x) => x) _ (by conv => lhs; cbv)
noncomputable def r18_5 := xr c18 5
noncomputable def q18_5 := xq c18 5
theorem dr18_5 {w0 : World} {N : Nat} (env : Env) (H : AH) (Q : APost) : awpC Tryz.prog w0 tt N (.draw r18_5 q18_5) Q env H = drunC Tryz.prog w0 tt 0 R18_5 (dendC [(3, 7), (5, 7), (5, 9)] (Q .normal)) [] env H := (awp_draw Tryz.prog w0 tt N (l := r18_5) (by kernel_rfl) (by kernel_rfl) (by kernel_rfl) mixed env H Q).trans (by rw [show r18_5 = R18_5 by kernel_rfl])
noncomputable def x18 : XCode := (fun (r0 : List XOp) (q0 : List (List Nat)) (r1 : List XOp) (q1 : List (List Nat)) (r2 : List XOp) (q2 : List (List Nat)) (r3 : List XOp) (q3 : List (List Nat)) (r4 : List XOp) (q4 : List (List Nat)) (r5 : List XOp) (q5 : List (List Nat)) => (fun (x : XCode) (_ : xs [] [(r0, q0), (r1, q1), (r2, q2), (r3, q3), (r4, q4), (r5, q5)] c18 0 0 = x) => x) _ (by conv => lhs; cbv)) r18_0 q18_0 r18_1 q18_1 r18_2 q18_2 r18_3 q18_3 r18_4 q18_4 r18_5 q18_5
theorem enter18 : EnterT Tryz.prog tt 90 x18 [.cell 2 34] 18 := enterT ttOk Tryz.func18 c18 (by kernel_rfl) (by kernel_rfl) (by kernel_rfl) (by kernel_rfl) (by kernel_rfl) (by kernel_rfl)
noncomputable def c19 : Code := (Tryz.f19.body).getD .skip
noncomputable def l19_0 : XCode := (fun (l0 : XCode) => (fun (x : XCode) (_ : xl c19 0 [l0] [] = x) => x) _ (by conv => lhs; cbv)) .skip
noncomputable def x19 : XCode := (fun (l0 : XCode) => (fun (x : XCode) (_ : xs [l0] [] c19 0 0 = x) => x) _ (by conv => lhs; cbv)) l19_0
theorem enter19 : EnterT Tryz.prog tt 45 x19 [.tmp 2] 19 := enterT ttOk Tryz.func19 c19 (by kernel_rfl) (by kernel_rfl) (by kernel_rfl) (by kernel_rfl) (by kernel_rfl) (by kernel_rfl)
noncomputable def c20 : Code := (Tryz.f20.body).getD .skip
noncomputable def l20_0 : XCode := (fun (l0 : XCode) => (fun (x : XCode) (_ : xl c20 0 [l0] [] = x) => x) _ (by conv => lhs; cbv)) .skip
noncomputable def x20 : XCode := (fun (l0 : XCode) => (fun (x : XCode) (_ : xs [l0] [] c20 0 0 = x) => x) _ (by conv => lhs; cbv)) l20_0
theorem enter20 : EnterT Tryz.prog tt 51 x20 [.tmp 2] 20 := enterT ttOk Tryz.func20 c20 (by kernel_rfl) (by kernel_rfl) (by kernel_rfl) (by kernel_rfl) (by kernel_rfl) (by kernel_rfl)
noncomputable def c21 : Code := (Tryz.f21.body).getD .skip
noncomputable def x21 : XCode := (fun (x : XCode) (_ : xs [] [] c21 0 0 = x) => x) _ (by conv => lhs; cbv)
theorem enter21 : EnterT Tryz.prog tt 36 x21 [.tmp 2] 21 := enterT ttOk Tryz.func21 c21 (by kernel_rfl) (by kernel_rfl) (by kernel_rfl) (by kernel_rfl) (by kernel_rfl) (by kernel_rfl)
noncomputable def c22 : Code := (Tryz.f22.body).getD .skip
noncomputable def l22_0 : XCode := (fun (l0 : XCode) => (fun (x : XCode) (_ : xl c22 0 [l0] [] = x) => x) _ (by conv => lhs; cbv)) .skip
noncomputable def x22 : XCode := (fun (l0 : XCode) => (fun (x : XCode) (_ : xs [l0] [] c22 0 0 = x) => x) _ (by conv => lhs; cbv)) l22_0
theorem enter22 : EnterT Tryz.prog tt 29 x22 [.tmp 2, .tmp 3] 22 := enterT ttOk Tryz.func22 c22 (by kernel_rfl) (by kernel_rfl) (by kernel_rfl) (by kernel_rfl) (by kernel_rfl) (by kernel_rfl)
noncomputable def c23 : Code := (Tryz.f23.body).getD .skip
@[go_sem] def R23_0 : List XOp := (fun (x : List XOp) (_ : xr c23 0 = x) => x) _ (by conv => lhs; cbv)
noncomputable def r23_0 := xr c23 0
noncomputable def q23_0 := xq c23 0
theorem dr23_0 {w0 : World} {N : Nat} (env : Env) (H : AH) (Q : APost) : awpC Tryz.prog w0 tt N (.draw r23_0 q23_0) Q env H = drunC Tryz.prog w0 tt 0 R23_0 (dendC [] (Q .normal)) [] env H := (awp_draw Tryz.prog w0 tt N (l := r23_0) (by kernel_rfl) (by kernel_rfl) (by kernel_rfl) mixed env H Q).trans (by rw [show r23_0 = R23_0 by kernel_rfl])
noncomputable def x23 : XCode := (fun (r0 : List XOp) (q0 : List (List Nat)) => (fun (x : XCode) (_ : xs [] [(r0, q0)] c23 0 0 = x) => x) _ (by conv => lhs; cbv)) r23_0 q23_0
theorem enter23 : EnterT Tryz.prog tt 11 x23 [.tmp 2] 23 := enterT ttOk Tryz.func23 c23 (by kernel_rfl) (by kernel_rfl) (by kernel_rfl) (by kernel_rfl) (by kernel_rfl) (by kernel_rfl)
noncomputable def c24 : Code := (Tryz.f24.body).getD .skip
noncomputable def x24 : XCode := (fun (x : XCode) (_ : xs [] [] c24 0 0 = x) => x) _ (by conv => lhs; cbv)
theorem enter24 : EnterT Tryz.prog tt 13 x24 [.tmp 4] 24 := enterT ttOk Tryz.func24 c24 (by kernel_rfl) (by kernel_rfl) (by kernel_rfl) (by kernel_rfl) (by kernel_rfl) (by kernel_rfl)
noncomputable def c25 : Code := (Tryz.f25.body).getD .skip
noncomputable def l25_0 : XCode := (fun (l0 : XCode) => (fun (x : XCode) (_ : xl c25 0 [l0] [] = x) => x) _ (by conv => lhs; cbv)) .skip
noncomputable def x25 : XCode := (fun (l0 : XCode) => (fun (x : XCode) (_ : xs [l0] [] c25 0 0 = x) => x) _ (by conv => lhs; cbv)) l25_0
theorem enter25 : EnterT Tryz.prog tt 42 x25 [.tmp 2] 25 := enterT ttOk Tryz.func25 c25 (by kernel_rfl) (by kernel_rfl) (by kernel_rfl) (by kernel_rfl) (by kernel_rfl) (by kernel_rfl)
noncomputable def c26 : Code := (Tryz.f26.body).getD .skip
noncomputable def x26 : XCode := (fun (x : XCode) (_ : xs [] [] c26 0 0 = x) => x) _ (by conv => lhs; cbv)
theorem enter26 : EnterT Tryz.prog tt 9 x26 [.tmp 2] 26 := enterT ttOk Tryz.func26 c26 (by kernel_rfl) (by kernel_rfl) (by kernel_rfl) (by kernel_rfl) (by kernel_rfl) (by kernel_rfl)
noncomputable def c27 : Code := (Tryz.f27.body).getD .skip
noncomputable def x27 : XCode := (fun (x : XCode) (_ : xs [] [] c27 0 0 = x) => x) _ (by conv => lhs; cbv)
theorem enter27 : EnterT Tryz.prog tt 21 x27 [.cell 4 23, .tmp 5] 27 := enterT ttOk Tryz.func27 c27 (by kernel_rfl) (by kernel_rfl) (by kernel_rfl) (by kernel_rfl) (by kernel_rfl) (by kernel_rfl)
noncomputable def c28 : Code := (Tryz.f28.body).getD .skip
@[go_sem] def R28_0 : List XOp := (fun (x : List XOp) (_ : xr c28 0 = x) => x) _ (by conv => lhs; cbv)
noncomputable def r28_0 := xr c28 0
noncomputable def q28_0 := xq c28 0
theorem dr28_0 {w0 : World} {N : Nat} (env : Env) (H : AH) (Q : APost) : awpC Tryz.prog w0 tt N (.draw r28_0 q28_0) Q env H = drunC Tryz.prog w0 tt 0 R28_0 (dendC [] (Q .normal)) [] env H := (awp_draw Tryz.prog w0 tt N (l := r28_0) (by kernel_rfl) (by kernel_rfl) (by kernel_rfl) mixed env H Q).trans (by rw [show r28_0 = R28_0 by kernel_rfl])
@[go_sem] def R28_1 : List XOp := (fun (x : List XOp) (_ : xr c28 1 = x) => x) _ (by conv => lhs; cbv)
noncomputable def r28_1 := xr c28 1
noncomputable def q28_1 := xq c28 1
theorem dr28_1 {w0 : World} {N : Nat} (env : Env) (H : AH) (Q : APost) : awpC Tryz.prog w0 tt N (.draw r28_1 q28_1) Q env H = drunC Tryz.prog w0 tt 0 R28_1 (dendC [(0, 10), (5, 10)] (Q .normal)) [] env H := (awp_draw Tryz.prog w0 tt N (l := r28_1) (by kernel_rfl) (by kernel_rfl) (by kernel_rfl) mixed env H Q).trans (by rw [show r28_1 = R28_1 by kernel_rfl])
noncomputable def l28_0 : XCode := (fun (l0 : XCode) (r0 : List XOp) (q0 : List (List Nat)) (r1 : List XOp) (q1 : List (List Nat)) => (fun (x : XCode) (_ : xl c28 0 [l0] [(r0, q0), (r1, q1)] = x) => x) _ (by conv => lhs; cbv)) .skip r28_0 q28_0 r28_1 q28_1
noncomputable def x28 : XCode := (fun (l0 : XCode) (r0 : List XOp) (q0 : List (List Nat)) (r1 : List XOp) (q1 : List (List Nat)) => (fun (x : XCode) (_ : xs [l0] [(r0, q0), (r1, q1)] c28 0 0 = x) => x) _ (by conv => lhs; cbv)) l28_0 r28_0 q28_0 r28_1 q28_1
theorem enter28 : EnterT Tryz.prog tt 131 x28 [.cell 6 27, .tmp 7] 28 := enterT ttOk Tryz.func28 c28 (by kernel_rfl) (by kernel_rfl) (by kernel_rfl) (by kernel_rfl) (by kernel_rfl) (by kernel_rfl)
noncomputable def c29 : Code := (Tryz.f29.body).getD .skip
noncomputable def x29 : XCode := (fun (x : XCode) (_ : xs [] [] c29 0 0 = x) => x) _ (by conv => lhs; cbv)
theorem enter29 : EnterT Tryz.prog tt 185 x29 [.cell 6 27, .tmp 7] 29 := enterT ttOk Tryz.func29 c29 (by kernel_rfl) (by kernel_rfl) (by kernel_rfl) (by kernel_rfl) (by kernel_rfl) (by kernel_rfl)
noncomputable def c30 : Code := (Tryz.f30.body).getD .skip
@[go_sem] def R30_0 : List XOp := (fun (x : List XOp) (_ : xr c30 0 = x) => x) _ (by conv => lhs; cbv)
noncomputable def r30_0 := xr c30 0
noncomputable def q30_0 := xq c30 0
theorem dr30_0 {w0 : World} {N : Nat} (env : Env) (H : AH) (Q : APost) : awpC Tryz.prog w0 tt N (.draw r30_0 q30_0) Q env H = drunC Tryz.prog w0 tt 0 R30_0 (dendC [(1, 10), (4, 10), (5, 10)] (Q .normal)) [] env H := (awp_draw Tryz.prog w0 tt N (l := r30_0) (by kernel_rfl) (by kernel_rfl) (by kernel_rfl) mixed env H Q).trans (by rw [show r30_0 = R30_0 by kernel_rfl])
noncomputable def l30_0 : XCode := (fun (l0 : XCode) (r0 : List XOp) (q0 : List (List Nat)) => (fun (x : XCode) (_ : xl c30 0 [l0] [(r0, q0)] = x) => x) _ (by conv => lhs; cbv)) .skip r30_0 q30_0
noncomputable def x30 : XCode := (fun (l0 : XCode) (r0 : List XOp) (q0 : List (List Nat)) => (fun (x : XCode) (_ : xs [l0] [(r0, q0)] c30 0 0 = x) => x) _ (by conv => lhs; cbv)) l30_0 r30_0 q30_0
theorem enter30 : EnterT Tryz.prog tt 37 x30 [.cell 4 27, .tmp 5] 30 := enterT ttOk Tryz.func30 c30 (by kernel_rfl) (by kernel_rfl) (by kernel_rfl) (by kernel_rfl) (by kernel_rfl) (by kernel_rfl)
noncomputable def c31 : Code := (Tryz.f31.body).getD .skip
@[go_sem] def R31_0 : List XOp := (fun (x : List XOp) (_ : xr c31 0 = x) => x) _ (by conv => lhs; cbv)
noncomputable def r31_0 := xr c31 0
noncomputable def q31_0 := xq c31 0
theorem dr31_0 {w0 : World} {N : Nat} (env : Env) (H : AH) (Q : APost) : awpC Tryz.prog w0 tt N (.draw r31_0 q31_0) Q env H = drunC Tryz.prog w0 tt 0 R31_0 (dendC [] (Q .normal)) [] env H := (awp_draw Tryz.prog w0 tt N (l := r31_0) (by kernel_rfl) (by kernel_rfl) (by kernel_rfl) mixed env H Q).trans (by rw [show r31_0 = R31_0 by kernel_rfl])
@[go_sem] def R31_1 : List XOp := (fun (x : List XOp) (_ : xr c31 1 = x) => x) _ (by conv => lhs; cbv)
noncomputable def r31_1 := xr c31 1
noncomputable def q31_1 := xq c31 1
theorem dr31_1 {w0 : World} {N : Nat} (env : Env) (H : AH) (Q : APost) : awpC Tryz.prog w0 tt N (.draw r31_1 q31_1) Q env H = drunC Tryz.prog w0 tt 0 R31_1 (dendC [(1, 11), (4, 11), (5, 11)] (Q .normal)) [] env H := (awp_draw Tryz.prog w0 tt N (l := r31_1) (by kernel_rfl) (by kernel_rfl) (by kernel_rfl) mixed env H Q).trans (by rw [show r31_1 = R31_1 by kernel_rfl])
noncomputable def l31_0 : XCode := (fun (l0 l1 : XCode) (r0 : List XOp) (q0 : List (List Nat)) (r1 : List XOp) (q1 : List (List Nat)) => (fun (x : XCode) (_ : xl c31 0 [l0, l1] [(r0, q0), (r1, q1)] = x) => x) _ (by conv => lhs; cbv)) .skip .skip r31_0 q31_0 r31_1 q31_1
noncomputable def l31_1 : XCode := (fun (l0 l1 : XCode) (r0 : List XOp) (q0 : List (List Nat)) (r1 : List XOp) (q1 : List (List Nat)) => (fun (x : XCode) (_ : xl c31 1 [l0, l1] [(r0, q0), (r1, q1)] = x) => x) _ (by conv => lhs; cbv)) l31_0 .skip r31_0 q31_0 r31_1 q31_1
noncomputable def x31 : XCode := (fun (l0 l1 : XCode) (r0 : List XOp) (q0 : List (List Nat)) (r1 : List XOp) (q1 : List (List Nat)) => (fun (x : XCode) (_ : xs [l0, l1] [(r0, q0), (r1, q1)] c31 0 0 = x) => x) _ (by conv => lhs; cbv)) l31_0 l31_1 r31_0 q31_0 r31_1 q31_1
theorem enter31 : EnterT Tryz.prog tt 54 x31 [.cell 4 27, .tmp 5, .tmp 6] 31 := enterT ttOk Tryz.func31 c31 (by kernel_rfl) (by kernel_rfl) (by kernel_rfl) (by kernel_rfl) (by kernel_rfl) (by kernel_rfl)
noncomputable def c32 : Code := (Tryz.f32.body).getD .skip
@[go_sem] def R32_0 : List XOp := (fun (x : List XOp) (_ : xr c32 0 = x) => x) _ (by conv => lhs; cbv)
noncomputable def r32_0 := xr c32 0
noncomputable def q32_0 := xq c32 0
theorem dr32_0 {w0 : World} {N : Nat} (env : Env) (H : AH) (Q : APost) : awpC Tryz.prog w0 tt N (.draw r32_0 q32_0) Q env H = drunC Tryz.prog w0 tt 0 R32_0 (dendC [] (Q .normal)) [] env H := (awp_draw Tryz.prog w0 tt N (l := r32_0) (by kernel_rfl) (by kernel_rfl) (by kernel_rfl) mixed env H Q).trans (by rw [show r32_0 = R32_0 by kernel_rfl])
noncomputable def x32 : XCode := (fun (r0 : List XOp) (q0 : List (List Nat)) => (fun (x : XCode) (_ : xs [] [(r0, q0)] c32 0 0 = x) => x) _ (by conv => lhs; cbv)) r32_0 q32_0
theorem enter32 : EnterT Tryz.prog tt 15 x32 [.tmp 4] 32 := enterT ttOk Tryz.func32 c32 (by kernel_rfl) (by kernel_rfl) (by kernel_rfl) (by kernel_rfl) (by kernel_rfl) (by kernel_rfl)
noncomputable def c33 : Code := (Tryz.f33.body).getD .skip
@[go_sem] def R33_0 : List XOp := (fun (x : List XOp) (_ : xr c33 0 = x) => x) _ (by conv => lhs; cbv)
noncomputable def r33_0 := xr c33 0
noncomputable def q33_0 := xq c33 0
theorem dr33_0 {w0 : World} {N : Nat} (env : Env) (H : AH) (Q : APost) : awpC Tryz.prog w0 tt N (.draw r33_0 q33_0) Q env H = drunC Tryz.prog w0 tt 0 R33_0 (dendC [] (Q .normal)) [] env H := (awp_draw Tryz.prog w0 tt N (l := r33_0) (by kernel_rfl) (by kernel_rfl) (by kernel_rfl) mixed env H Q).trans (by rw [show r33_0 = R33_0 by kernel_rfl])
noncomputable def l33_0 : XCode := (fun (l0 : XCode) (r0 : List XOp) (q0 : List (List Nat)) => (fun (x : XCode) (_ : xl c33 0 [l0] [(r0, q0)] = x) => x) _ (by conv => lhs; cbv)) .skip r33_0 q33_0
noncomputable def x33 : XCode := (fun (l0 : XCode) (r0 : List XOp) (q0 : List (List Nat)) => (fun (x : XCode) (_ : xs [l0] [(r0, q0)] c33 0 0 = x) => x) _ (by conv => lhs; cbv)) l33_0 r33_0 q33_0
theorem enter33 : EnterT Tryz.prog tt 34 x33 [.cell 4 27] 33 := enterT ttOk Tryz.func33 c33 (by kernel_rfl) (by kernel_rfl) (by kernel_rfl) (by kernel_rfl) (by kernel_rfl) (by kernel_rfl)
noncomputable def c34 : Code := (Tryz.f34.body).getD .skip
@[go_sem] def R34_0 : List XOp := (fun (x : List XOp) (_ : xr c34 0 = x) => x) _ (by conv => lhs; cbv)
noncomputable def r34_0 := xr c34 0
noncomputable def q34_0 := xq c34 0
theorem dr34_0 {w0 : World} {N : Nat} (env : Env) (H : AH) (Q : APost) : awpC Tryz.prog w0 tt N (.draw r34_0 q34_0) Q env H = drunC Tryz.prog w0 tt 0 R34_0 (dendC [] (Q .normal)) [] env H := (awp_draw Tryz.prog w0 tt N (l := r34_0) (by kernel_rfl) (by kernel_rfl) (by kernel_rfl) mixed env H Q).trans (by rw [show r34_0 = R34_0 by kernel_rfl])
noncomputable def l34_0 : XCode := (fun (l0 : XCode) (r0 : List XOp) (q0 : List (List Nat)) => (fun (x : XCode) (_ : xl c34 0 [l0] [(r0, q0)] = x) => x) _ (by conv => lhs; cbv)) .skip r34_0 q34_0
noncomputable def x34 : XCode := (fun (l0 : XCode) (r0 : List XOp) (q0 : List (List Nat)) => (fun (x : XCode) (_ : xs [l0] [(r0, q0)] c34 0 0 = x) => x) _ (by conv => lhs; cbv)) l34_0 r34_0 q34_0
theorem enter34 : EnterT Tryz.prog tt 118 x34 [.tmp 8, .tmp 9] 34 := enterT ttOk Tryz.func34 c34 (by kernel_rfl) (by kernel_rfl) (by kernel_rfl) (by kernel_rfl) (by kernel_rfl) (by kernel_rfl)
noncomputable def c35 : Code := (Tryz.f35.body).getD .skip
noncomputable def l35_0 : XCode := (fun (l0 : XCode) => (fun (x : XCode) (_ : xl c35 0 [l0] [] = x) => x) _ (by conv => lhs; cbv)) .skip
noncomputable def x35 : XCode := (fun (l0 : XCode) => (fun (x : XCode) (_ : xs [l0] [] c35 0 0 = x) => x) _ (by conv => lhs; cbv)) l35_0
theorem enter35 : EnterT Tryz.prog tt 33 x35 [.tmp 8] 35 := enterT ttOk Tryz.func35 c35 (by kernel_rfl) (by kernel_rfl) (by kernel_rfl) (by kernel_rfl) (by kernel_rfl) (by kernel_rfl)
noncomputable def c36 : Code := (Tryz.f36.body).getD .skip
noncomputable def l36_0 : XCode := (fun (l0 : XCode) => (fun (x : XCode) (_ : xl c36 0 [l0] [] = x) => x) _ (by conv => lhs; cbv)) .skip
noncomputable def x36 : XCode := (fun (l0 : XCode) => (fun (x : XCode) (_ : xs [l0] [] c36 0 0 = x) => x) _ (by conv => lhs; cbv)) l36_0
theorem enter36 : EnterT Tryz.prog tt 30 x36 [.tmp 6] 36 := enterT ttOk Tryz.func36 c36 (by kernel_rfl) (by kernel_rfl) (by kernel_rfl) (by kernel_rfl) (by kernel_rfl) (by kernel_rfl)
noncomputable def c37 : Code := (Tryz.f37.body).getD .skip
noncomputable def x37 : XCode := (fun (x : XCode) (_ : xs [] [] c37 0 0 = x) => x) _ (by conv => lhs; cbv)
theorem enter37 : EnterT Tryz.prog tt 21 x37 [.cell 4 23, .tmp 5] 37 := enterT ttOk Tryz.func37 c37 (by kernel_rfl) (by kernel_rfl) (by kernel_rfl) (by kernel_rfl) (by kernel_rfl) (by kernel_rfl)
noncomputable def c38 : Code := (Tryz.f38.body).getD .skip
@[go_sem] def R38_0 : List XOp := (fun (x : List XOp) (_ : xr c38 0 = x) => x) _ (by conv => lhs; cbv)
noncomputable def r38_0 := xr c38 0
noncomputable def q38_0 := xq c38 0
theorem dr38_0 {w0 : World} {N : Nat} (env : Env) (H : AH) (Q : APost) : awpC Tryz.prog w0 tt N (.draw r38_0 q38_0) Q env H = drunC Tryz.prog w0 tt 0 R38_0 (dendC [] (Q .normal)) [] env H := (awp_draw Tryz.prog w0 tt N (l := r38_0) (by kernel_rfl) (by kernel_rfl) (by kernel_rfl) mixed env H Q).trans (by rw [show r38_0 = R38_0 by kernel_rfl])
@[go_sem] def R38_1 : List XOp := (fun (x : List XOp) (_ : xr c38 1 = x) => x) _ (by conv => lhs; cbv)
noncomputable def r38_1 := xr c38 1
noncomputable def q38_1 := xq c38 1
theorem dr38_1 {w0 : World} {N : Nat} (env : Env) (H : AH) (Q : APost) : awpC Tryz.prog w0 tt N (.draw r38_1 q38_1) Q env H = drunC Tryz.prog w0 tt 0 R38_1 (dendC [] (Q .normal)) [] env H := (awp_draw Tryz.prog w0 tt N (l := r38_1) (by kernel_rfl) (by kernel_rfl) (by kernel_rfl) mixed env H Q).trans (by rw [show r38_1 = R38_1 by kernel_rfl])
noncomputable def l38_0 : XCode := (fun (l0 : XCode) (r0 : List XOp) (q0 : List (List Nat)) (r1 : List XOp) (q1 : List (List Nat)) => (fun (x : XCode) (_ : xl c38 0 [l0] [(r0, q0), (r1, q1)] = x) => x) _ (by conv => lhs; cbv)) .skip r38_0 q38_0 r38_1 q38_1
noncomputable def x38 : XCode := (fun (l0 : XCode) (r0 : List XOp) (q0 : List (List Nat)) (r1 : List XOp) (q1 : List (List Nat)) => (fun (x : XCode) (_ : xs [l0] [(r0, q0), (r1, q1)] c38 0 0 = x) => x) _ (by conv => lhs; cbv)) l38_0 r38_0 q38_0 r38_1 q38_1
theorem enter38 : EnterT Tryz.prog tt 48 x38 [.tmp 4, .tmp 5] 38 := enterT ttOk Tryz.func38 c38 (by kernel_rfl) (by kernel_rfl) (by kernel_rfl) (by kernel_rfl) (by kernel_rfl) (by kernel_rfl)
noncomputable def c39 : Code := (Tryz.f39.body).getD .skip
@[go_sem] def R39_0 : List XOp := (fun (x : List XOp) (_ : xr c39 0 = x) => x) _ (by conv => lhs; cbv)
noncomputable def r39_0 := xr c39 0
noncomputable def q39_0 := xq c39 0
theorem dr39_0 {w0 : World} {N : Nat} (env : Env) (H : AH) (Q : APost) : awpC Tryz.prog w0 tt N (.draw r39_0 q39_0) Q env H = drunC Tryz.prog w0 tt 0 R39_0 (dendC [(3, 9), (4, 9)] (Q .normal)) [] env H := (awp_draw Tryz.prog w0 tt N (l := r39_0) (by kernel_rfl) (by kernel_rfl) (by kernel_rfl) mixed env H Q).trans (by rw [show r39_0 = R39_0 by kernel_rfl])
@[go_sem] def R39_1 : List XOp := (fun (x : List XOp) (_ : xr c39 1 = x) => x) _ (by conv => lhs; cbv)
noncomputable def r39_1 := xr c39 1
noncomputable def q39_1 := xq c39 1
theorem dr39_1 {w0 : World} {N : Nat} (env : Env) (H : AH) (Q : APost) : awpC Tryz.prog w0 tt N (.draw r39_1 q39_1) Q env H = drunC Tryz.prog w0 tt 0 R39_1 (dendC [(3, 4)] (Q .normal)) [] env H := (awp_draw Tryz.prog w0 tt N (l := r39_1) (by kernel_rfl) (by kernel_rfl) (by kernel_rfl) mixed env H Q).trans (by rw [show r39_1 = R39_1 by kernel_rfl])
noncomputable def x39 : XCode := (fun (r0 : List XOp) (q0 : List (List Nat)) (r1 : List XOp) (q1 : List (List Nat)) => (fun (x : XCode) (_ : xs [] [(r0, q0), (r1, q1)] c39 0 0 = x) => x) _ (by conv => lhs; cbv)) r39_0 q39_0 r39_1 q39_1
theorem enter39 : EnterT Tryz.prog tt 43 x39 [.cell 6 23, .tmp 7, .tmp 8] 39 := enterT ttOk Tryz.func39 c39 (by kernel_rfl) (by kernel_rfl) (by kernel_rfl) (by kernel_rfl) (by kernel_rfl) (by kernel_rfl)
noncomputable def c40 : Code := (Tryz.f40.body).getD .skip
noncomputable def x40 : XCode := (fun (x : XCode) (_ : xs [] [] c40 0 0 = x) => x) _ (by conv => lhs; cbv)
theorem enter40 : EnterT Tryz.prog tt 9 x40 [.tmp 2] 40 := enterT ttOk Tryz.func40 c40 (by kernel_rfl) (by kernel_rfl) (by kernel_rfl) (by kernel_rfl) (by kernel_rfl) (by kernel_rfl)
noncomputable def c41 : Code := (Tryz.f41.body).getD .skip
@[go_sem] def R41_0 : List XOp := (fun (x : List XOp) (_ : xr c41 0 = x) => x) _ (by conv => lhs; cbv)
noncomputable def r41_0 := xr c41 0
noncomputable def q41_0 := xq c41 0
theorem dr41_0 {w0 : World} {N : Nat} (env : Env) (H : AH) (Q : APost) : awpC Tryz.prog w0 tt N (.draw r41_0 q41_0) Q env H = drunC Tryz.prog w0 tt 0 R41_0 (dendC [] (Q .normal)) [] env H := (awp_draw Tryz.prog w0 tt N (l := r41_0) (by kernel_rfl) (by kernel_rfl) (by kernel_rfl) mixed env H Q).trans (by rw [show r41_0 = R41_0 by kernel_rfl])
@[go_sem] def R41_1 : List XOp := (fun (x : List XOp) (_ : xr c41 1 = x) => x) _ (by conv => lhs; cbv)
noncomputable def r41_1 := xr c41 1
noncomputable def q41_1 := xq c41 1
theorem dr41_1 {w0 : World} {N : Nat} (env : Env) (H : AH) (Q : APost) : awpC Tryz.prog w0 tt N (.draw r41_1 q41_1) Q env H = drunC Tryz.prog w0 tt 0 R41_1 (dendC [(3, 9), (4, 9)] (Q .normal)) [] env H := (awp_draw Tryz.prog w0 tt N (l := r41_1) (by kernel_rfl) (by kernel_rfl) (by kernel_rfl) mixed env H Q).trans (by rw [show r41_1 = R41_1 by kernel_rfl])
noncomputable def x41 : XCode := (fun (r0 : List XOp) (q0 : List (List Nat)) (r1 : List XOp) (q1 : List (List Nat)) => (fun (x : XCode) (_ : xs [] [(r0, q0), (r1, q1)] c41 0 0 = x) => x) _ (by conv => lhs; cbv)) r41_0 q41_0 r41_1 q41_1
theorem enter41 : EnterT Tryz.prog tt 90 x41 [.cell 8 82, .tmp 9] 41 := enterT ttOk Tryz.func41 c41 (by kernel_rfl) (by kernel_rfl) (by kernel_rfl) (by kernel_rfl) (by kernel_rfl) (by kernel_rfl)
noncomputable def c42 : Code := (Tryz.f42.body).getD .skip
@[go_sem] def R42_0 : List XOp := (fun (x : List XOp) (_ : xr c42 0 = x) => x) _ (by conv => lhs; cbv)
noncomputable def r42_0 := xr c42 0
noncomputable def q42_0 := xq c42 0
theorem dr42_0 {w0 : World} {N : Nat} (env : Env) (H : AH) (Q : APost) : awpC Tryz.prog w0 tt N (.draw r42_0 q42_0) Q env H = drunC Tryz.prog w0 tt 0 R42_0 (dendC [] (Q .normal)) [] env H := (awp_draw Tryz.prog w0 tt N (l := r42_0) (by kernel_rfl) (by kernel_rfl) (by kernel_rfl) mixed env H Q).trans (by rw [show r42_0 = R42_0 by kernel_rfl])
noncomputable def l42_0 : XCode := (fun (l0 : XCode) (r0 : List XOp) (q0 : List (List Nat)) => (fun (x : XCode) (_ : xl c42 0 [l0] [(r0, q0)] = x) => x) _ (by conv => lhs; cbv)) .skip r42_0 q42_0
noncomputable def x42 : XCode := (fun (l0 : XCode) (r0 : List XOp) (q0 : List (List Nat)) => (fun (x : XCode) (_ : xs [l0] [(r0, q0)] c42 0 0 = x) => x) _ (by conv => lhs; cbv)) l42_0 r42_0 q42_0
theorem enter42 : EnterT Tryz.prog tt 26 x42 [.tmp 4] 42 := enterT ttOk Tryz.func42 c42 (by kernel_rfl) (by kernel_rfl) (by kernel_rfl) (by kernel_rfl) (by kernel_rfl) (by kernel_rfl)
noncomputable def c43 : Code := (Tryz.f43.body).getD .skip
noncomputable def l43_0 : XCode := (fun (l0 : XCode) => (fun (x : XCode) (_ : xl c43 0 [l0] [] = x) => x) _ (by conv => lhs; cbv)) .skip
noncomputable def x43 : XCode := (fun (l0 : XCode) => (fun (x : XCode) (_ : xs [l0] [] c43 0 0 = x) => x) _ (by conv => lhs; cbv)) l43_0
theorem enter43 : EnterT Tryz.prog tt 39 x43 [.tmp 6] 43 := enterT ttOk Tryz.func43 c43 (by kernel_rfl) (by kernel_rfl) (by kernel_rfl) (by kernel_rfl) (by kernel_rfl) (by kernel_rfl)
noncomputable def c44 : Code := (Tryz.f44.body).getD .skip
noncomputable def l44_0 : XCode := (fun (l0 : XCode) => (fun (x : XCode) (_ : xl c44 0 [l0] [] = x) => x) _ (by conv => lhs; cbv)) .skip
noncomputable def x44 : XCode := (fun (l0 : XCode) => (fun (x : XCode) (_ : xs [l0] [] c44 0 0 = x) => x) _ (by conv => lhs; cbv)) l44_0
theorem enter44 : EnterT Tryz.prog tt 34 x44 [.tmp 2] 44 := enterT ttOk Tryz.func44 c44 (by kernel_rfl) (by kernel_rfl) (by kernel_rfl) (by kernel_rfl) (by kernel_rfl) (by kernel_rfl)
noncomputable def c45 : Code := (Tryz.f45.body).getD .skip
@[go_sem] def R45_0 : List XOp := (fun (x : List XOp) (_ : xr c45 0 = x) => x) _ (by conv => lhs; cbv)
noncomputable def r45_0 := xr c45 0
noncomputable def q45_0 := xq c45 0
theorem dr45_0 {w0 : World} {N : Nat} (env : Env) (H : AH) (Q : APost) : awpC Tryz.prog w0 tt N (.draw r45_0 q45_0) Q env H = drunC Tryz.prog w0 tt 0 R45_0 (dendC [] (Q .normal)) [] env H := (awp_draw Tryz.prog w0 tt N (l := r45_0) (by kernel_rfl) (by kernel_rfl) (by kernel_rfl) mixed env H Q).trans (by rw [show r45_0 = R45_0 by kernel_rfl])
@[go_sem] def R45_1 : List XOp := (fun (x : List XOp) (_ : xr c45 1 = x) => x) _ (by conv => lhs; cbv)
noncomputable def r45_1 := xr c45 1
noncomputable def q45_1 := xq c45 1
theorem dr45_1 {w0 : World} {N : Nat} (env : Env) (H : AH) (Q : APost) : awpC Tryz.prog w0 tt N (.draw r45_1 q45_1) Q env H = drunC Tryz.prog w0 tt 0 R45_1 (dendC [] (Q .normal)) [] env H := (awp_draw Tryz.prog w0 tt N (l := r45_1) (by kernel_rfl) (by kernel_rfl) (by kernel_rfl) mixed env H Q).trans (by rw [show r45_1 = R45_1 by kernel_rfl])
noncomputable def l45_0 : XCode := (fun (l0 l1 : XCode) (r0 : List XOp) (q0 : List (List Nat)) (r1 : List XOp) (q1 : List (List Nat)) => (fun (x : XCode) (_ : xl c45 0 [l0, l1] [(r0, q0), (r1, q1)] = x) => x) _ (by conv => lhs; cbv)) .skip .skip r45_0 q45_0 r45_1 q45_1
noncomputable def l45_1 : XCode := (fun (l0 l1 : XCode) (r0 : List XOp) (q0 : List (List Nat)) (r1 : List XOp) (q1 : List (List Nat)) => (fun (x : XCode) (_ : xl c45 1 [l0, l1] [(r0, q0), (r1, q1)] = x) => x) _ (by conv => lhs; cbv)) l45_0 .skip r45_0 q45_0 r45_1 q45_1
noncomputable def x45 : XCode := (fun (l0 l1 : XCode) (r0 : List XOp) (q0 : List (List Nat)) (r1 : List XOp) (q1 : List (List Nat)) => (fun (x : XCode) (_ : xs [l0, l1] [(r0, q0), (r1, q1)] c45 0 0 = x) => x) _ (by conv => lhs; cbv)) l45_0 l45_1 r45_0 q45_0 r45_1 q45_1
theorem enter45 : EnterT Tryz.prog tt 67 x45 [.tmp 2] 45 := enterT ttOk Tryz.func45 c45 (by kernel_rfl) (by kernel_rfl) (by kernel_rfl) (by kernel_rfl) (by kernel_rfl) (by kernel_rfl)
noncomputable def c46 : Code := (Tryz.f46.body).getD .skip
noncomputable def l46_0 : XCode := (fun (l0 : XCode) => (fun (x : XCode) (_ : xl c46 0 [l0] [] = x) => x) _ (by conv => lhs; cbv)) .skip
noncomputable def x46 : XCode := (fun (l0 : XCode) => (fun (x : XCode) (_ : xs [l0] [] c46 0 0 = x) => x) _ (by conv => lhs; cbv)) l46_0
theorem enter46 : EnterT Tryz.prog tt 22 x46 [.tmp 2] 46 := enterT ttOk Tryz.func46 c46 (by kernel_rfl) (by kernel_rfl) (by kernel_rfl) (by kernel_rfl) (by kernel_rfl) (by kernel_rfl)
noncomputable def c47 : Code := (Tryz.f47.body).getD .skip
noncomputable def l47_0 : XCode := (fun (l0 : XCode) => (fun (x : XCode) (_ : xl c47 0 [l0] [] = x) => x) _ (by conv => lhs; cbv)) .skip
noncomputable def x47 : XCode := (fun (l0 : XCode) => (fun (x : XCode) (_ : xs [l0] [] c47 0 0 = x) => x) _ (by conv => lhs; cbv)) l47_0
theorem enter47 : EnterT Tryz.prog tt 21 x47 [.tmp 2] 47 := enterT ttOk Tryz.func47 c47 (by kernel_rfl) (by kernel_rfl) (by kernel_rfl) (by kernel_rfl) (by kernel_rfl) (by kernel_rfl)
noncomputable def c48 : Code := (Tryz.f48.body).getD .skip
@[go_sem] def R48_0 : List XOp := (fun (x : List XOp) (_ : xr c48 0 = x) => x) _ (by conv => lhs; cbv)
noncomputable def r48_0 := xr c48 0
noncomputable def q48_0 := xq c48 0
theorem dr48_0 {w0 : World} {N : Nat} (env : Env) (H : AH) (Q : APost) : awpC Tryz.prog w0 tt N (.draw r48_0 q48_0) Q env H = drunC Tryz.prog w0 tt 0 R48_0 (dendC [] (Q .normal)) [] env H := (awp_draw Tryz.prog w0 tt N (l := r48_0) (by kernel_rfl) (by kernel_rfl) (by kernel_rfl) mixed env H Q).trans (by rw [show r48_0 = R48_0 by kernel_rfl])
@[go_sem] def R48_1 : List XOp := (fun (x : List XOp) (_ : xr c48 1 = x) => x) _ (by conv => lhs; cbv)
noncomputable def r48_1 := xr c48 1
noncomputable def q48_1 := xq c48 1
theorem dr48_1 {w0 : World} {N : Nat} (env : Env) (H : AH) (Q : APost) : awpC Tryz.prog w0 tt N (.draw r48_1 q48_1) Q env H = drunC Tryz.prog w0 tt 0 R48_1 (dendC [] (Q .normal)) [] env H := (awp_draw Tryz.prog w0 tt N (l := r48_1) (by kernel_rfl) (by kernel_rfl) (by kernel_rfl) mixed env H Q).trans (by rw [show r48_1 = R48_1 by kernel_rfl])
noncomputable def l48_0 : XCode := (fun (l0 l1 l2 : XCode) (r0 : List XOp) (q0 : List (List Nat)) (r1 : List XOp) (q1 : List (List Nat)) => (fun (x : XCode) (_ : xl c48 0 [l0, l1, l2] [(r0, q0), (r1, q1)] = x) => x) _ (by conv => lhs; cbv)) .skip .skip .skip r48_0 q48_0 r48_1 q48_1
noncomputable def l48_1 : XCode := (fun (l0 l1 l2 : XCode) (r0 : List XOp) (q0 : List (List Nat)) (r1 : List XOp) (q1 : List (List Nat)) => (fun (x : XCode) (_ : xl c48 1 [l0, l1, l2] [(r0, q0), (r1, q1)] = x) => x) _ (by conv => lhs; cbv)) l48_0 .skip .skip r48_0 q48_0 r48_1 q48_1
noncomputable def l48_2 : XCode := (fun (l0 l1 l2 : XCode) (r0 : List XOp) (q0 : List (List Nat)) (r1 : List XOp) (q1 : List (List Nat)) => (fun (x : XCode) (_ : xl c48 2 [l0, l1, l2] [(r0, q0), (r1, q1)] = x) => x) _ (by conv => lhs; cbv)) l48_0 l48_1 .skip r48_0 q48_0 r48_1 q48_1
noncomputable def x48 : XCode := (fun (l0 l1 l2 : XCode) (r0 : List XOp) (q0 : List (List Nat)) (r1 : List XOp) (q1 : List (List Nat)) => (fun (x : XCode) (_ : xs [l0, l1, l2] [(r0, q0), (r1, q1)] c48 0 0 = x) => x) _ (by conv => lhs; cbv)) l48_0 l48_1 l48_2 r48_0 q48_0 r48_1 q48_1
theorem enter48 : EnterT Tryz.prog tt 55 x48 [.tmp 2] 48 := enterT ttOk Tryz.func48 c48 (by kernel_rfl) (by kernel_rfl) (by kernel_rfl) (by kernel_rfl) (by kernel_rfl) (by kernel_rfl)
noncomputable def c49 : Code := (Tryz.f49.body).getD .skip
@[go_sem] def R49_0 : List XOp := (fun (x : List XOp) (_ : xr c49 0 = x) => x) _ (by conv => lhs; cbv)
noncomputable def r49_0 := xr c49 0
noncomputable def q49_0 := xq c49 0
theorem dr49_0 {w0 : World} {N : Nat} (env : Env) (H : AH) (Q : APost) : awpC Tryz.prog w0 tt N (.draw r49_0 q49_0) Q env H = drunC Tryz.prog w0 tt 0 R49_0 (dendC [] (Q .normal)) [] env H := (awp_draw Tryz.prog w0 tt N (l := r49_0) (by kernel_rfl) (by kernel_rfl) (by kernel_rfl) mixed env H Q).trans (by rw [show r49_0 = R49_0 by kernel_rfl])
noncomputable def l49_0 : XCode := (fun (l0 : XCode) (r0 : List XOp) (q0 : List (List Nat)) => (fun (x : XCode) (_ : xl c49 0 [l0] [(r0, q0)] = x) => x) _ (by conv => lhs; cbv)) .skip r49_0 q49_0
noncomputable def x49 : XCode := (fun (l0 : XCode) (r0 : List XOp) (q0 : List (List Nat)) => (fun (x : XCode) (_ : xs [l0] [(r0, q0)] c49 0 0 = x) => x) _ (by conv => lhs; cbv)) l49_0 r49_0 q49_0
theorem enter49 : EnterT Tryz.prog tt 26 x49 [.tmp 4] 49 := enterT ttOk Tryz.func49 c49 (by kernel_rfl) (by kernel_rfl) (by kernel_rfl) (by kernel_rfl) (by kernel_rfl) (by kernel_rfl)
noncomputable def c50 : Code := (Tryz.f50.body).getD .skip
@[go_sem] def R50_0 : List XOp := (fun (x : List XOp) (_ : xr c50 0 = x) => x) _ (by conv => lhs; cbv)
noncomputable def r50_0 := xr c50 0
noncomputable def q50_0 := xq c50 0
theorem dr50_0 {w0 : World} {N : Nat} (env : Env) (H : AH) (Q : APost) : awpC Tryz.prog w0 tt N (.draw r50_0 q50_0) Q env H = drunC Tryz.prog w0 tt 0 R50_0 (dendC [] (Q .normal)) [] env H := (awp_draw Tryz.prog w0 tt N (l := r50_0) (by kernel_rfl) (by kernel_rfl) (by kernel_rfl) mixed env H Q).trans (by rw [show r50_0 = R50_0 by kernel_rfl])
noncomputable def l50_0 : XCode := (fun (l0 : XCode) (r0 : List XOp) (q0 : List (List Nat)) => (fun (x : XCode) (_ : xl c50 0 [l0] [(r0, q0)] = x) => x) _ (by conv => lhs; cbv)) .skip r50_0 q50_0
noncomputable def x50 : XCode := (fun (l0 : XCode) (r0 : List XOp) (q0 : List (List Nat)) => (fun (x : XCode) (_ : xs [l0] [(r0, q0)] c50 0 0 = x) => x) _ (by conv => lhs; cbv)) l50_0 r50_0 q50_0
theorem enter50 : EnterT Tryz.prog tt 26 x50 [.tmp 4] 50 := enterT ttOk Tryz.func50 c50 (by kernel_rfl) (by kernel_rfl) (by kernel_rfl) (by kernel_rfl) (by kernel_rfl) (by kernel_rfl)
noncomputable def c51 : Code := (Tryz.f51.body).getD .skip
noncomputable def x51 : XCode := (fun (x : XCode) (_ : xs [] [] c51 0 0 = x) => x) _ (by conv => lhs; cbv)
theorem enter51 : EnterT Tryz.prog tt 11 x51 [.tmp 2] 51 := enterT ttOk Tryz.func51 c51 (by kernel_rfl) (by kernel_rfl) (by kernel_rfl) (by kernel_rfl) (by kernel_rfl) (by kernel_rfl)
noncomputable def c52 : Code := (Tryz.f52.body).getD .skip
noncomputable def x52 : XCode := (fun (x : XCode) (_ : xs [] [] c52 0 0 = x) => x) _ (by conv => lhs; cbv)
theorem enter52 : EnterT Tryz.prog tt 10 x52 [.tmp 2] 52 := enterT ttOk Tryz.func52 c52 (by kernel_rfl) (by kernel_rfl) (by kernel_rfl) (by kernel_rfl) (by kernel_rfl) (by kernel_rfl)
noncomputable def c53 : Code := (Tryz.f53.body).getD .skip
noncomputable def x53 : XCode := (fun (x : XCode) (_ : xs [] [] c53 0 0 = x) => x) _ (by conv => lhs; cbv)
theorem enter53 : EnterT Tryz.prog tt 9 x53 [.tmp 2] 53 := enterT ttOk Tryz.func53 c53 (by kernel_rfl) (by kernel_rfl) (by kernel_rfl) (by kernel_rfl) (by kernel_rfl) (by kernel_rfl)
noncomputable def c54 : Code := (Tryz.f54.body).getD .skip
@[go_sem] def R54_0 : List XOp := (fun (x : List XOp) (_ : xr c54 0 = x) => x) _ (by conv => lhs; cbv)
noncomputable def r54_0 := xr c54 0
noncomputable def q54_0 := xq c54 0
theorem dr54_0 {w0 : World} {N : Nat} (env : Env) (H : AH) (Q : APost) : awpC Tryz.prog w0 tt N (.draw r54_0 q54_0) Q env H = drunC Tryz.prog w0 tt 0 R54_0 (dendC [(1, 11), (3, 11), (5, 11), (8, 11)] (Q .normal)) [] env H := (awp_draw Tryz.prog w0 tt N (l := r54_0) (by kernel_rfl) (by kernel_rfl) (by kernel_rfl) mixed env H Q).trans (by rw [show r54_0 = R54_0 by kernel_rfl])
@[go_sem] def R54_1 : List XOp := (fun (x : List XOp) (_ : xr c54 1 = x) => x) _ (by conv => lhs; cbv)
noncomputable def r54_1 := xr c54 1
noncomputable def q54_1 := xq c54 1
theorem dr54_1 {w0 : World} {N : Nat} (env : Env) (H : AH) (Q : APost) : awpC Tryz.prog w0 tt N (.draw r54_1 q54_1) Q env H = drunC Tryz.prog w0 tt 0 R54_1 (dendC [] (Q .normal)) [] env H := (awp_draw Tryz.prog w0 tt N (l := r54_1) (by kernel_rfl) (by kernel_rfl) (by kernel_rfl) mixed env H Q).trans (by rw [show r54_1 = R54_1 by kernel_rfl])
noncomputable def l54_0 : XCode := (fun (l0 : XCode) (r0 : List XOp) (q0 : List (List Nat)) (r1 : List XOp) (q1 : List (List Nat)) => (fun (x : XCode) (_ : xl c54 0 [l0] [(r0, q0), (r1, q1)] = x) => x) _ (by conv => lhs; cbv)) .skip r54_0 q54_0 r54_1 q54_1
noncomputable def x54 : XCode := (fun (l0 : XCode) (r0 : List XOp) (q0 : List (List Nat)) (r1 : List XOp) (q1 : List (List Nat)) => (fun (x : XCode) (_ : xs [l0] [(r0, q0), (r1, q1)] c54 0 0 = x) => x) _ (by conv => lhs; cbv)) l54_0 r54_0 q54_0 r54_1 q54_1
theorem enter54 : EnterT Tryz.prog tt 35 x54 [.cell 2 27] 54 := enterT ttOk Tryz.func54 c54 (by kernel_rfl) (by kernel_rfl) (by kernel_rfl) (by kernel_rfl) (by kernel_rfl) (by kernel_rfl)
noncomputable def c55 : Code := (Tryz.f55.body).getD .skip
noncomputable def l55_0 : XCode := (fun (l0 : XCode) => (fun (x : XCode) (_ : xl c55 0 [l0] [] = x) => x) _ (by conv => lhs; cbv)) .skip
noncomputable def x55 : XCode := (fun (l0 : XCode) => (fun (x : XCode) (_ : xs [l0] [] c55 0 0 = x) => x) _ (by conv => lhs; cbv)) l55_0
theorem enter55 : EnterT Tryz.prog tt 19 x55 [.tmp 2] 55 := enterT ttOk Tryz.func55 c55 (by kernel_rfl) (by kernel_rfl) (by kernel_rfl) (by kernel_rfl) (by kernel_rfl) (by kernel_rfl)
noncomputable def c56 : Code := (Tryz.f56.body).getD .skip
noncomputable def l56_0 : XCode := (fun (l0 : XCode) => (fun (x : XCode) (_ : xl c56 0 [l0] [] = x) => x) _ (by conv => lhs; cbv)) .skip
noncomputable def x56 : XCode := (fun (l0 : XCode) => (fun (x : XCode) (_ : xs [l0] [] c56 0 0 = x) => x) _ (by conv => lhs; cbv)) l56_0
theorem enter56 : EnterT Tryz.prog tt 23 x56 [.tmp 2] 56 := enterT ttOk Tryz.func56 c56 (by kernel_rfl) (by kernel_rfl) (by kernel_rfl) (by kernel_rfl) (by kernel_rfl) (by kernel_rfl)
noncomputable def c57 : Code := (Tryz.f57.body).getD .skip
noncomputable def l57_0 : XCode := (fun (l0 : XCode) => (fun (x : XCode) (_ : xl c57 0 [l0] [] = x) => x) _ (by conv => lhs; cbv)) .skip
noncomputable def x57 : XCode := (fun (l0 : XCode) => (fun (x : XCode) (_ : xs [l0] [] c57 0 0 = x) => x) _ (by conv => lhs; cbv)) l57_0
theorem enter57 : EnterT Tryz.prog tt 27 x57 [.tmp 4] 57 := enterT ttOk Tryz.func57 c57 (by kernel_rfl) (by kernel_rfl) (by kernel_rfl) (by kernel_rfl) (by kernel_rfl) (by kernel_rfl)
noncomputable def c58 : Code := (Tryz.f58.body).getD .skip
noncomputable def x58 : XCode := (fun (x : XCode) (_ : xs [] [] c58 0 0 = x) => x) _ (by conv => lhs; cbv)
theorem enter58 : EnterT Tryz.prog tt 19 x58 [.cell 6 27] 58 := enterT ttOk Tryz.func58 c58 (by kernel_rfl) (by kernel_rfl) (by kernel_rfl) (by kernel_rfl) (by kernel_rfl) (by kernel_rfl)
noncomputable def c59 : Code := (Tryz.f59.body).getD .skip
noncomputable def x59 : XCode := (fun (x : XCode) (_ : xs [] [] c59 0 0 = x) => x) _ (by conv => lhs; cbv)
theorem enter59 : EnterT Tryz.prog tt 50 x59 [.tmp 4] 59 := enterT ttOk Tryz.func59 c59 (by kernel_rfl) (by kernel_rfl) (by kernel_rfl) (by kernel_rfl) (by kernel_rfl) (by kernel_rfl)
noncomputable def c60 : Code := (Tryz.f60.body).getD .skip
noncomputable def l60_0 : XCode := (fun (l0 : XCode) => (fun (x : XCode) (_ : xl c60 0 [l0] [] = x) => x) _ (by conv => lhs; cbv)) .skip
noncomputable def x60 : XCode := (fun (l0 : XCode) => (fun (x : XCode) (_ : xs [l0] [] c60 0 0 = x) => x) _ (by conv => lhs; cbv)) l60_0
theorem enter60 : EnterT Tryz.prog tt 25 x60 [.tmp 2] 60 := enterT ttOk Tryz.func60 c60 (by kernel_rfl) (by kernel_rfl) (by kernel_rfl) (by kernel_rfl) (by kernel_rfl) (by kernel_rfl)
noncomputable def c61 : Code := (Tryz.f61.body).getD .skip
noncomputable def l61_0 : XCode := (fun (l0 : XCode) => (fun (x : XCode) (_ : xl c61 0 [l0] [] = x) => x) _ (by conv => lhs; cbv)) .skip
noncomputable def x61 : XCode := (fun (l0 : XCode) => (fun (x : XCode) (_ : xs [l0] [] c61 0 0 = x) => x) _ (by conv => lhs; cbv)) l61_0
theorem enter61 : EnterT Tryz.prog tt 21 x61 [.tmp 2] 61 := enterT ttOk Tryz.func61 c61 (by kernel_rfl) (by kernel_rfl) (by kernel_rfl) (by kernel_rfl) (by kernel_rfl) (by kernel_rfl)
noncomputable def c62 : Code := (Tryz.f62.body).getD .skip
noncomputable def l62_0 : XCode := (fun (l0 : XCode) => (fun (x : XCode) (_ : xl c62 0 [l0] [] = x) => x) _ (by conv => lhs; cbv)) .skip
noncomputable def x62 : XCode := (fun (l0 : XCode) => (fun (x : XCode) (_ : xs [l0] [] c62 0 0 = x) => x) _ (by conv => lhs; cbv)) l62_0
theorem enter62 : EnterT Tryz.prog tt 23 x62 [.tmp 2] 62 := enterT ttOk Tryz.func62 c62 (by kernel_rfl) (by kernel_rfl) (by kernel_rfl) (by kernel_rfl) (by kernel_rfl) (by kernel_rfl)
noncomputable def c63 : Code := (Tryz.f63.body).getD .skip
@[go_sem] def R63_0 : List XOp := (fun (x : List XOp) (_ : xr c63 0 = x) => x) _ (by conv => lhs; cbv)
noncomputable def r63_0 := xr c63 0
noncomputable def q63_0 := xq c63 0
theorem dr63_0 {w0 : World} {N : Nat} (env : Env) (H : AH) (Q : APost) : awpC Tryz.prog w0 tt N (.draw r63_0 q63_0) Q env H = drunC Tryz.prog w0 tt 0 R63_0 (dendC [] (Q .normal)) [] env H := (awp_draw Tryz.prog w0 tt N (l := r63_0) (by kernel_rfl) (by kernel_rfl) (by kernel_rfl) mixed env H Q).trans (by rw [show r63_0 = R63_0 by kernel_rfl])
noncomputable def x63 : XCode := (fun (r0 : List XOp) (q0 : List (List Nat)) => (fun (x : XCode) (_ : xs [] [(r0, q0)] c63 0 0 = x) => x) _ (by conv => lhs; cbv)) r63_0 q63_0
theorem enter63 : EnterT Tryz.prog tt 19 x63 [.tmp 6] 63 := enterT ttOk Tryz.func63 c63 (by kernel_rfl) (by kernel_rfl) (by kernel_rfl) (by kernel_rfl) (by kernel_rfl) (by kernel_rfl)
noncomputable def c64 : Code := (Tryz.f64.body).getD .skip
@[go_sem] def R64_0 : List XOp := (fun (x : List XOp) (_ : xr c64 0 = x) => x) _ (by conv => lhs; cbv)
noncomputable def r64_0 := xr c64 0
noncomputable def q64_0 := xq c64 0
theorem dr64_0 {w0 : World} {N : Nat} (env : Env) (H : AH) (Q : APost) : awpC Tryz.prog w0 tt N (.draw r64_0 q64_0) Q env H = drunC Tryz.prog w0 tt 0 R64_0 (dendC [] (Q .normal)) [] env H := (awp_draw Tryz.prog w0 tt N (l := r64_0) (by kernel_rfl) (by kernel_rfl) (by kernel_rfl) mixed env H Q).trans (by rw [show r64_0 = R64_0 by kernel_rfl])
noncomputable def l64_0 : XCode := (fun (l0 : XCode) (r0 : List XOp) (q0 : List (List Nat)) => (fun (x : XCode) (_ : xl c64 0 [l0] [(r0, q0)] = x) => x) _ (by conv => lhs; cbv)) .skip r64_0 q64_0
noncomputable def x64 : XCode := (fun (l0 : XCode) (r0 : List XOp) (q0 : List (List Nat)) => (fun (x : XCode) (_ : xs [l0] [(r0, q0)] c64 0 0 = x) => x) _ (by conv => lhs; cbv)) l64_0 r64_0 q64_0
theorem enter64 : EnterT Tryz.prog tt 20 x64 [.tmp 4] 64 := enterT ttOk Tryz.func64 c64 (by kernel_rfl) (by kernel_rfl) (by kernel_rfl) (by kernel_rfl) (by kernel_rfl) (by kernel_rfl)
noncomputable def c65 : Code := (Tryz.f65.body).getD .skip
noncomputable def l65_0 : XCode := (fun (l0 : XCode) => (fun (x : XCode) (_ : xl c65 0 [l0] [] = x) => x) _ (by conv => lhs; cbv)) .skip
noncomputable def x65 : XCode := (fun (l0 : XCode) => (fun (x : XCode) (_ : xs [l0] [] c65 0 0 = x) => x) _ (by conv => lhs; cbv)) l65_0
theorem enter65 : EnterT Tryz.prog tt 27 x65 [.tmp 4] 65 := enterT ttOk Tryz.func65 c65 (by kernel_rfl) (by kernel_rfl) (by kernel_rfl) (by kernel_rfl) (by kernel_rfl) (by kernel_rfl)
noncomputable def c66 : Code := (Tryz.f66.body).getD .skip
noncomputable def l66_0 : XCode := (fun (l0 : XCode) => (fun (x : XCode) (_ : xl c66 0 [l0] [] = x) => x) _ (by conv => lhs; cbv)) .skip
noncomputable def x66 : XCode := (fun (l0 : XCode) => (fun (x : XCode) (_ : xs [l0] [] c66 0 0 = x) => x) _ (by conv => lhs; cbv)) l66_0
theorem enter66 : EnterT Tryz.prog tt 23 x66 [.tmp 4] 66 := enterT ttOk Tryz.func66 c66 (by kernel_rfl) (by kernel_rfl) (by kernel_rfl) (by kernel_rfl) (by kernel_rfl) (by kernel_rfl)
noncomputable def c67 : Code := (Tryz.f67.body).getD .skip
noncomputable def x67 : XCode := (fun (x : XCode) (_ : xs [] [] c67 0 0 = x) => x) _ (by conv => lhs; cbv)
theorem enter67 : EnterT Tryz.prog tt 2 x67 [.cell 0 110] 67 := enterT ttOk Tryz.func67 c67 (by kernel_rfl) (by kernel_rfl) (by kernel_rfl) (by kernel_rfl) (by kernel_rfl) (by kernel_rfl)
noncomputable def c68 : Code := (Tryz.f68.body).getD .skip
noncomputable def x68 : XCode := (fun (x : XCode) (_ : xs [] [] c68 0 0 = x) => x) _ (by conv => lhs; cbv)
theorem enter68 : EnterT Tryz.prog tt 30 x68 [.cell 4 23, .tmp 5, .tmp 6] 68 := enterT ttOk Tryz.func68 c68 (by kernel_rfl) (by kernel_rfl) (by kernel_rfl) (by kernel_rfl) (by kernel_rfl) (by kernel_rfl)
noncomputable def c69 : Code := (Tryz.f69.body).getD .skip
noncomputable def x69 : XCode := (fun (x : XCode) (_ : xs [] [] c69 0 0 = x) => x) _ (by conv => lhs; cbv)
theorem enter69 : EnterT Tryz.prog tt 9 x69 [.tmp 4] 69 := enterT ttOk Tryz.func69 c69 (by kernel_rfl) (by kernel_rfl) (by kernel_rfl) (by kernel_rfl) (by kernel_rfl) (by kernel_rfl)
noncomputable def c70 : Code := (Tryz.f70.body).getD .skip
noncomputable def l70_0 : XCode := (fun (l0 : XCode) => (fun (x : XCode) (_ : xl c70 0 [l0] [] = x) => x) _ (by conv => lhs; cbv)) .skip
noncomputable def x70 : XCode := (fun (l0 : XCode) => (fun (x : XCode) (_ : xs [l0] [] c70 0 0 = x) => x) _ (by conv => lhs; cbv)) l70_0
theorem enter70 : EnterT Tryz.prog tt 27 x70 [.tmp 4] 70 := enterT ttOk Tryz.func70 c70 (by kernel_rfl) (by kernel_rfl) (by kernel_rfl) (by kernel_rfl) (by kernel_rfl) (by kernel_rfl)
noncomputable def c71 : Code := (Tryz.f71.body).getD .skip
noncomputable def l71_0 : XCode := (fun (l0 : XCode) => (fun (x : XCode) (_ : xl c71 0 [l0] [] = x) => x) _ (by conv => lhs; cbv)) .skip
noncomputable def x71 : XCode := (fun (l0 : XCode) => (fun (x : XCode) (_ : xs [l0] [] c71 0 0 = x) => x) _ (by conv => lhs; cbv)) l71_0
theorem enter71 : EnterT Tryz.prog tt 20 x71 [.tmp 2] 71 := enterT ttOk Tryz.func71 c71 (by kernel_rfl) (by kernel_rfl) (by kernel_rfl) (by kernel_rfl) (by kernel_rfl) (by kernel_rfl)
noncomputable def c72 : Code := (Tryz.f72.body).getD .skip
noncomputable def x72 : XCode := (fun (x : XCode) (_ : xs [] [] c72 0 0 = x) => x) _ (by conv => lhs; cbv)
theorem enter72 : EnterT Tryz.prog tt 50 x72 [.tmp 2] 72 := enterT ttOk Tryz.func72 c72 (by kernel_rfl) (by kernel_rfl) (by kernel_rfl) (by kernel_rfl) (by kernel_rfl) (by kernel_rfl)
noncomputable def c73 : Code := (Tryz.f73.body).getD .skip
noncomputable def x73 : XCode := (fun (x : XCode) (_ : xs [] [] c73 0 0 = x) => x) _ (by conv => lhs; cbv)
theorem enter73 : EnterT Tryz.prog tt 39 x73 [.tmp 4] 73 := enterT ttOk Tryz.func73 c73 (by kernel_rfl) (by kernel_rfl) (by kernel_rfl) (by kernel_rfl) (by kernel_rfl) (by kernel_rfl)
noncomputable def c74 : Code := (Tryz.f74.body).getD .skip
noncomputable def l74_0 : XCode := (fun (l0 : XCode) => (fun (x : XCode) (_ : xl c74 0 [l0] [] = x) => x) _ (by conv => lhs; cbv)) .skip
noncomputable def x74 : XCode := (fun (l0 : XCode) => (fun (x : XCode) (_ : xs [l0] [] c74 0 0 = x) => x) _ (by conv => lhs; cbv)) l74_0
theorem enter74 : EnterT Tryz.prog tt 24 x74 [.tmp 2] 74 := enterT ttOk Tryz.func74 c74 (by kernel_rfl) (by kernel_rfl) (by kernel_rfl) (by kernel_rfl) (by kernel_rfl) (by kernel_rfl)
noncomputable def c75 : Code := (Tryz.f75.body).getD .skip
@[go_sem] def R75_0 : List XOp := (fun (x : List XOp) (_ : xr c75 0 = x) => x) _ (by conv => lhs; cbv)
noncomputable def r75_0 := xr c75 0
noncomputable def q75_0 := xq c75 0
theorem dr75_0 {w0 : World} {N : Nat} (env : Env) (H : AH) (Q : APost) : awpC Tryz.prog w0 tt N (.draw r75_0 q75_0) Q env H = drunC Tryz.prog w0 tt 0 R75_0 (dendC [] (Q .normal)) [] env H := (awp_draw Tryz.prog w0 tt N (l := r75_0) (by kernel_rfl) (by kernel_rfl) (by kernel_rfl) mixed env H Q).trans (by rw [show r75_0 = R75_0 by kernel_rfl])
noncomputable def l75_0 : XCode := (fun (l0 l1 : XCode) (r0 : List XOp) (q0 : List (List Nat)) => (fun (x : XCode) (_ : xl c75 0 [l0, l1] [(r0, q0)] = x) => x) _ (by conv => lhs; cbv)) .skip .skip r75_0 q75_0
noncomputable def l75_1 : XCode := (fun (l0 l1 : XCode) (r0 : List XOp) (q0 : List (List Nat)) => (fun (x : XCode) (_ : xl c75 1 [l0, l1] [(r0, q0)] = x) => x) _ (by conv => lhs; cbv)) l75_0 .skip r75_0 q75_0
noncomputable def x75 : XCode := (fun (l0 l1 : XCode) (r0 : List XOp) (q0 : List (List Nat)) => (fun (x : XCode) (_ : xs [l0, l1] [(r0, q0)] c75 0 0 = x) => x) _ (by conv => lhs; cbv)) l75_0 l75_1 r75_0 q75_0
theorem enter75 : EnterT Tryz.prog tt 80 x75 [.tmp 4] 75 := enterT ttOk Tryz.func75 c75 (by kernel_rfl) (by kernel_rfl) (by kernel_rfl) (by kernel_rfl) (by kernel_rfl) (by kernel_rfl)
noncomputable def c76 : Code := (Tryz.f76.body).getD .skip
noncomputable def l76_0 : XCode := (fun (l0 : XCode) => (fun (x : XCode) (_ : xl c76 0 [l0] [] = x) => x) _ (by conv => lhs; cbv)) .skip
noncomputable def x76 : XCode := (fun (l0 : XCode) => (fun (x : XCode) (_ : xs [l0] [] c76 0 0 = x) => x) _ (by conv => lhs; cbv)) l76_0
theorem enter76 : EnterT Tryz.prog tt 29 x76 [.tmp 4] 76 := enterT ttOk Tryz.func76 c76 (by kernel_rfl) (by kernel_rfl) (by kernel_rfl) (by kernel_rfl) (by kernel_rfl) (by kernel_rfl)
noncomputable def c77 : Code := (Tryz.f77.body).getD .skip
noncomputable def l77_0 : XCode := (fun (l0 : XCode) => (fun (x : XCode) (_ : xl c77 0 [l0] [] = x) => x) _ (by conv => lhs; cbv)) .skip
noncomputable def x77 : XCode := (fun (l0 : XCode) => (fun (x : XCode) (_ : xs [l0] [] c77 0 0 = x) => x) _ (by conv => lhs; cbv)) l77_0
theorem enter77 : EnterT Tryz.prog tt 22 x77 [.tmp 2] 77 := enterT ttOk Tryz.func77 c77 (by kernel_rfl) (by kernel_rfl) (by kernel_rfl) (by kernel_rfl) (by kernel_rfl) (by kernel_rfl)
noncomputable def c78 : Code := (Tryz.f78.body).getD .skip
noncomputable def l78_0 : XCode := (fun (l0 : XCode) => (fun (x : XCode) (_ : xl c78 0 [l0] [] = x) => x) _ (by conv => lhs; cbv)) .skip
noncomputable def x78 : XCode := (fun (l0 : XCode) => (fun (x : XCode) (_ : xs [l0] [] c78 0 0 = x) => x) _ (by conv => lhs; cbv)) l78_0
theorem enter78 : EnterT Tryz.prog tt 28 x78 [.tmp 2] 78 := enterT ttOk Tryz.func78 c78 (by kernel_rfl) (by kernel_rfl) (by kernel_rfl) (by kernel_rfl) (by kernel_rfl) (by kernel_rfl)
noncomputable def c79 : Code := (Tryz.f79.body).getD .skip
@[go_sem] def R79_0 : List XOp := (fun (x : List XOp) (_ : xr c79 0 = x) => x) _ (by conv => lhs; cbv)
noncomputable def r79_0 := xr c79 0
noncomputable def q79_0 := xq c79 0
theorem dr79_0 {w0 : World} {N : Nat} (env : Env) (H : AH) (Q : APost) : awpC Tryz.prog w0 tt N (.draw r79_0 q79_0) Q env H = drunC Tryz.prog w0 tt 0 R79_0 (dendC [] (Q .normal)) [] env H := (awp_draw Tryz.prog w0 tt N (l := r79_0) (by kernel_rfl) (by kernel_rfl) (by kernel_rfl) mixed env H Q).trans (by rw [show r79_0 = R79_0 by kernel_rfl])
@[go_sem] def R79_1 : List XOp := (fun (x : List XOp) (_ : xr c79 1 = x) => x) _ (by conv => lhs; cbv)
noncomputable def r79_1 := xr c79 1
noncomputable def q79_1 := xq c79 1
theorem dr79_1 {w0 : World} {N : Nat} (env : Env) (H : AH) (Q : APost) : awpC Tryz.prog w0 tt N (.draw r79_1 q79_1) Q env H = drunC Tryz.prog w0 tt 0 R79_1 (dendC [] (Q .normal)) [] env H := (awp_draw Tryz.prog w0 tt N (l := r79_1) (by kernel_rfl) (by kernel_rfl) (by kernel_rfl) mixed env H Q).trans (by rw [show r79_1 = R79_1 by kernel_rfl])
noncomputable def l79_0 : XCode := (fun (l0 l1 l2 l3 : XCode) (r0 : List XOp) (q0 : List (List Nat)) (r1 : List XOp) (q1 : List (List Nat)) => (fun (x : XCode) (_ : xl c79 0 [l0, l1, l2, l3] [(r0, q0), (r1, q1)] = x) => x) _ (by conv => lhs; cbv)) .skip .skip .skip .skip r79_0 q79_0 r79_1 q79_1
noncomputable def l79_1 : XCode := (fun (l0 l1 l2 l3 : XCode) (r0 : List XOp) (q0 : List (List Nat)) (r1 : List XOp) (q1 : List (List Nat)) => (fun (x : XCode) (_ : xl c79 1 [l0, l1, l2, l3] [(r0, q0), (r1, q1)] = x) => x) _ (by conv => lhs; cbv)) l79_0 .skip .skip .skip r79_0 q79_0 r79_1 q79_1
noncomputable def l79_2 : XCode := (fun (l0 l1 l2 l3 : XCode) (r0 : List XOp) (q0 : List (List Nat)) (r1 : List XOp) (q1 : List (List Nat)) => (fun (x : XCode) (_ : xl c79 2 [l0, l1, l2, l3] [(r0, q0), (r1, q1)] = x) => x) _ (by conv => lhs; cbv)) l79_0 l79_1 .skip .skip r79_0 q79_0 r79_1 q79_1
noncomputable def l79_3 : XCode := (fun (l0 l1 l2 l3 : XCode) (r0 : List XOp) (q0 : List (List Nat)) (r1 : List XOp) (q1 : List (List Nat)) => (fun (x : XCode) (_ : xl c79 3 [l0, l1, l2, l3] [(r0, q0), (r1, q1)] = x) => x) _ (by conv => lhs; cbv)) l79_0 l79_1 l79_2 .skip r79_0 q79_0 r79_1 q79_1
noncomputable def x79 : XCode := (fun (l0 l1 l2 l3 : XCode) (r0 : List XOp) (q0 : List (List Nat)) (r1 : List XOp) (q1 : List (List Nat)) => (fun (x : XCode) (_ : xs [l0, l1, l2, l3] [(r0, q0), (r1, q1)] c79 0 0 = x) => x) _ (by conv => lhs; cbv)) l79_0 l79_1 l79_2 l79_3 r79_0 q79_0 r79_1 q79_1
theorem enter79 : EnterT Tryz.prog tt 101 x79 [.tmp 4] 79 := enterT ttOk Tryz.func79 c79 (by kernel_rfl) (by kernel_rfl) (by kernel_rfl) (by kernel_rfl) (by kernel_rfl) (by kernel_rfl)
noncomputable def c80 : Code := (Tryz.f80.body).getD .skip
noncomputable def l80_0 : XCode := (fun (l0 : XCode) => (fun (x : XCode) (_ : xl c80 0 [l0] [] = x) => x) _ (by conv => lhs; cbv)) .skip
noncomputable def x80 : XCode := (fun (l0 : XCode) => (fun (x : XCode) (_ : xs [l0] [] c80 0 0 = x) => x) _ (by conv => lhs; cbv)) l80_0
theorem enter80 : EnterT Tryz.prog tt 81 x80 [.cell 10 27, .tmp 11, .tmp 12] 80 := enterT ttOk Tryz.func80 c80 (by kernel_rfl) (by kernel_rfl) (by kernel_rfl) (by kernel_rfl) (by kernel_rfl) (by kernel_rfl)
noncomputable def c81 : Code := (Tryz.f81.body).getD .skip
@[go_sem] def R81_0 : List XOp := (fun (x : List XOp) (_ : xr c81 0 = x) => x) _ (by conv => lhs; cbv)
noncomputable def r81_0 := xr c81 0
noncomputable def q81_0 := xq c81 0
theorem dr81_0 {w0 : World} {N : Nat} (env : Env) (H : AH) (Q : APost) : awpC Tryz.prog w0 tt N (.draw r81_0 q81_0) Q env H = drunC Tryz.prog w0 tt 0 R81_0 (dendC [] (Q .normal)) [] env H := (awp_draw Tryz.prog w0 tt N (l := r81_0) (by kernel_rfl) (by kernel_rfl) (by kernel_rfl) mixed env H Q).trans (by rw [show r81_0 = R81_0 by kernel_rfl])
noncomputable def l81_0 : XCode := (fun (l0 : XCode) (r0 : List XOp) (q0 : List (List Nat)) => (fun (x : XCode) (_ : xl c81 0 [l0] [(r0, q0)] = x) => x) _ (by conv => lhs; cbv)) .skip r81_0 q81_0
noncomputable def x81 : XCode := (fun (l0 : XCode) (r0 : List XOp) (q0 : List (List Nat)) => (fun (x : XCode) (_ : xs [l0] [(r0, q0)] c81 0 0 = x) => x) _ (by conv => lhs; cbv)) l81_0 r81_0 q81_0
theorem enter81 : EnterT Tryz.prog tt 33 x81 [.tmp 6] 81 := enterT ttOk Tryz.func81 c81 (by kernel_rfl) (by kernel_rfl) (by kernel_rfl) (by kernel_rfl) (by kernel_rfl) (by kernel_rfl)
noncomputable def c82 : Code := (Tryz.f82.body).getD .skip
noncomputable def l82_0 : XCode := (fun (l0 l1 l2 : XCode) => (fun (x : XCode) (_ : xl c82 0 [l0, l1, l2] [] = x) => x) _ (by conv => lhs; cbv)) .skip .skip .skip
noncomputable def l82_1 : XCode := (fun (l0 l1 l2 : XCode) => (fun (x : XCode) (_ : xl c82 1 [l0, l1, l2] [] = x) => x) _ (by conv => lhs; cbv)) l82_0 .skip .skip
noncomputable def l82_2 : XCode := (fun (l0 l1 l2 : XCode) => (fun (x : XCode) (_ : xl c82 2 [l0, l1, l2] [] = x) => x) _ (by conv => lhs; cbv)) l82_0 l82_1 .skip
noncomputable def x82 : XCode := (fun (l0 l1 l2 : XCode) => (fun (x : XCode) (_ : xs [l0, l1, l2] [] c82 0 0 = x) => x) _ (by conv => lhs; cbv)) l82_0 l82_1 l82_2
theorem enter82 : EnterT Tryz.prog tt 64 x82 [.tmp 4] 82 := enterT ttOk Tryz.func82 c82 (by kernel_rfl) (by kernel_rfl) (by kernel_rfl) (by kernel_rfl) (by kernel_rfl) (by kernel_rfl)
noncomputable def c83 : Code := (Tryz.f83.body).getD .skip
noncomputable def x83 : XCode := (fun (x : XCode) (_ : xs [] [] c83 0 0 = x) => x) _ (by conv => lhs; cbv)
theorem enter83 : EnterT Tryz.prog tt 11 x83 [.cell 4 82, .tmp 5] 83 := enterT ttOk Tryz.func83 c83 (by kernel_rfl) (by kernel_rfl) (by kernel_rfl) (by kernel_rfl) (by kernel_rfl) (by kernel_rfl)
noncomputable def c84 : Code := (Tryz.f84.body).getD .skip
@[go_sem] def R84_0 : List XOp := (fun (x : List XOp) (_ : xr c84 0 = x) => x) _ (by conv => lhs; cbv)
noncomputable def r84_0 := xr c84 0
noncomputable def q84_0 := xq c84 0
theorem dr84_0 {w0 : World} {N : Nat} (env : Env) (H : AH) (Q : APost) : awpC Tryz.prog w0 tt N (.draw r84_0 q84_0) Q env H = drunC Tryz.prog w0 tt 0 R84_0 (dendC [] (Q .normal)) [] env H := (awp_draw Tryz.prog w0 tt N (l := r84_0) (by kernel_rfl) (by kernel_rfl) (by kernel_rfl) mixed env H Q).trans (by rw [show r84_0 = R84_0 by kernel_rfl])
noncomputable def x84 : XCode := (fun (r0 : List XOp) (q0 : List (List Nat)) => (fun (x : XCode) (_ : xs [] [(r0, q0)] c84 0 0 = x) => x) _ (by conv => lhs; cbv)) r84_0 q84_0
theorem enter84 : EnterT Tryz.prog tt 23 x84 [.cell 6 82, .tmp 7] 84 := enterT ttOk Tryz.func84 c84 (by kernel_rfl) (by kernel_rfl) (by kernel_rfl) (by kernel_rfl) (by kernel_rfl) (by kernel_rfl)
noncomputable def c85 : Code := (Tryz.f85.body).getD .skip
noncomputable def x85 : XCode := (fun (x : XCode) (_ : xs [] [] c85 0 0 = x) => x) _ (by conv => lhs; cbv)
theorem enter85 : EnterT Tryz.prog tt 3 x85 [.tmp 2] 85 := enterT ttOk Tryz.func85 c85 (by kernel_rfl) (by kernel_rfl) (by kernel_rfl) (by kernel_rfl) (by kernel_rfl) (by kernel_rfl)
noncomputable def c86 : Code := (Tryz.f86.body).getD .skip
noncomputable def x86 : XCode := (fun (x : XCode) (_ : xs [] [] c86 0 0 = x) => x) _ (by conv => lhs; cbv)
theorem enter86 : EnterT Tryz.prog tt 11 x86 [.cell 4 82, .tmp 5] 86 := enterT ttOk Tryz.func86 c86 (by kernel_rfl) (by kernel_rfl) (by kernel_rfl) (by kernel_rfl) (by kernel_rfl) (by kernel_rfl)
noncomputable def c87 : Code := (Tryz.f87.body).getD .skip
noncomputable def x87 : XCode := (fun (x : XCode) (_ : xs [] [] c87 0 0 = x) => x) _ (by conv => lhs; cbv)
theorem enter87 : EnterT Tryz.prog tt 4 x87 [.tmp 2] 87 := enterT ttOk Tryz.func87 c87 (by kernel_rfl) (by kernel_rfl) (by kernel_rfl) (by kernel_rfl) (by kernel_rfl) (by kernel_rfl)
noncomputable def c88 : Code := (Tryz.f88.body).getD .skip
noncomputable def x88 : XCode := (fun (x : XCode) (_ : xs [] [] c88 0 0 = x) => x) _ (by conv => lhs; cbv)
theorem enter88 : EnterT Tryz.prog tt 11 x88 [.cell 4 82, .tmp 5] 88 := enterT ttOk Tryz.func88 c88 (by kernel_rfl) (by kernel_rfl) (by kernel_rfl) (by kernel_rfl) (by kernel_rfl) (by kernel_rfl)
noncomputable def c89 : Code := (Tryz.f89.body).getD .skip
noncomputable def x89 : XCode := (fun (x : XCode) (_ : xs [] [] c89 0 0 = x) => x) _ (by conv => lhs; cbv)
theorem enter89 : EnterT Tryz.prog tt 26 x89 [.cell 6 82, .tmp 7] 89 := enterT ttOk Tryz.func89 c89 (by kernel_rfl) (by kernel_rfl) (by kernel_rfl) (by kernel_rfl) (by kernel_rfl) (by kernel_rfl)
noncomputable def c90 : Code := (Tryz.f90.body).getD .skip
noncomputable def x90 : XCode := (fun (x : XCode) (_ : xs [] [] c90 0 0 = x) => x) _ (by conv => lhs; cbv)
theorem enter90 : EnterT Tryz.prog tt 11 x90 [.cell 4 82, .tmp 5] 90 := enterT ttOk Tryz.func90 c90 (by kernel_rfl) (by kernel_rfl) (by kernel_rfl) (by kernel_rfl) (by kernel_rfl) (by kernel_rfl)
noncomputable def c91 : Code := (Tryz.f91.body).getD .skip
noncomputable def l91_0 : XCode := (fun (l0 : XCode) => (fun (x : XCode) (_ : xl c91 0 [l0] [] = x) => x) _ (by conv => lhs; cbv)) .skip
noncomputable def x91 : XCode := (fun (l0 : XCode) => (fun (x : XCode) (_ : xs [l0] [] c91 0 0 = x) => x) _ (by conv => lhs; cbv)) l91_0
theorem enter91 : EnterT Tryz.prog tt 31 x91 [.tmp 4] 91 := enterT ttOk Tryz.func91 c91 (by kernel_rfl) (by kernel_rfl) (by kernel_rfl) (by kernel_rfl) (by kernel_rfl) (by kernel_rfl)
noncomputable def c92 : Code := (Tryz.f92.body).getD .skip
noncomputable def l92_0 : XCode := (fun (l0 : XCode) => (fun (x : XCode) (_ : xl c92 0 [l0] [] = x) => x) _ (by conv => lhs; cbv)) .skip
noncomputable def x92 : XCode := (fun (l0 : XCode) => (fun (x : XCode) (_ : xs [l0] [] c92 0 0 = x) => x) _ (by conv => lhs; cbv)) l92_0
theorem enter92 : EnterT Tryz.prog tt 19 x92 [.tmp 4] 92 := enterT ttOk Tryz.func92 c92 (by kernel_rfl) (by kernel_rfl) (by kernel_rfl) (by kernel_rfl) (by kernel_rfl) (by kernel_rfl)
noncomputable def c93 : Code := (Tryz.f93.body).getD .skip
noncomputable def x93 : XCode := (fun (x : XCode) (_ : xs [] [] c93 0 0 = x) => x) _ (by conv => lhs; cbv)
theorem enter93 : EnterT Tryz.prog tt 8 x93 [.tmp 3] 93 := enterT ttOk Tryz.func93 c93 (by kernel_rfl) (by kernel_rfl) (by kernel_rfl) (by kernel_rfl) (by kernel_rfl) (by kernel_rfl)
noncomputable def c94 : Code := (Tryz.f94.body).getD .skip
@[go_sem] def R94_0 : List XOp := (fun (x : List XOp) (_ : xr c94 0 = x) => x) _ (by conv => lhs; cbv)
noncomputable def r94_0 := xr c94 0
noncomputable def q94_0 := xq c94 0
theorem dr94_0 {w0 : World} {N : Nat} (env : Env) (H : AH) (Q : APost) : awpC Tryz.prog w0 tt N (.draw r94_0 q94_0) Q env H = drunC Tryz.prog w0 tt 0 R94_0 (dendC [] (Q .normal)) [] env H := (awp_draw Tryz.prog w0 tt N (l := r94_0) (by kernel_rfl) (by kernel_rfl) (by kernel_rfl) mixed env H Q).trans (by rw [show r94_0 = R94_0 by kernel_rfl])
noncomputable def l94_0 : XCode := (fun (l0 : XCode) (r0 : List XOp) (q0 : List (List Nat)) => (fun (x : XCode) (_ : xl c94 0 [l0] [(r0, q0)] = x) => x) _ (by conv => lhs; cbv)) .skip r94_0 q94_0
noncomputable def x94 : XCode := (fun (l0 : XCode) (r0 : List XOp) (q0 : List (List Nat)) => (fun (x : XCode) (_ : xs [l0] [(r0, q0)] c94 0 0 = x) => x) _ (by conv => lhs; cbv)) l94_0 r94_0 q94_0
theorem enter94 : EnterT Tryz.prog tt 19 x94 [.tmp 4] 94 := enterT ttOk Tryz.func94 c94 (by kernel_rfl) (by kernel_rfl) (by kernel_rfl) (by kernel_rfl) (by kernel_rfl) (by kernel_rfl)
noncomputable def c95 : Code := (Tryz.f95.body).getD .skip
noncomputable def x95 : XCode := (fun (x : XCode) (_ : xs [] [] c95 0 0 = x) => x) _ (by conv => lhs; cbv)
theorem enter95 : EnterT Tryz.prog tt 11 x95 [.tmp 2] 95 := enterT ttOk Tryz.func95 c95 (by kernel_rfl) (by kernel_rfl) (by kernel_rfl) (by kernel_rfl) (by kernel_rfl) (by kernel_rfl)
noncomputable def c96 : Code := (Tryz.f96.body).getD .skip
noncomputable def x96 : XCode := (fun (x : XCode) (_ : xs [] [] c96 0 0 = x) => x) _ (by conv => lhs; cbv)
theorem enter96 : EnterT Tryz.prog tt 44 x96 [.tmp 2] 96 := enterT ttOk Tryz.func96 c96 (by kernel_rfl) (by kernel_rfl) (by kernel_rfl) (by kernel_rfl) (by kernel_rfl) (by kernel_rfl)
noncomputable def c97 : Code := (Tryz.f97.body).getD .skip
@[go_sem] def R97_0 : List XOp := (fun (x : List XOp) (_ : xr c97 0 = x) => x) _ (by conv => lhs; cbv)
noncomputable def r97_0 := xr c97 0
noncomputable def q97_0 := xq c97 0
theorem dr97_0 {w0 : World} {N : Nat} (env : Env) (H : AH) (Q : APost) : awpC Tryz.prog w0 tt N (.draw r97_0 q97_0) Q env H = drunC Tryz.prog w0 tt 0 R97_0 (dendC [] (Q .normal)) [] env H := (awp_draw Tryz.prog w0 tt N (l := r97_0) (by kernel_rfl) (by kernel_rfl) (by kernel_rfl) mixed env H Q).trans (by rw [show r97_0 = R97_0 by kernel_rfl])
noncomputable def l97_0 : XCode := (fun (l0 : XCode) (r0 : List XOp) (q0 : List (List Nat)) => (fun (x : XCode) (_ : xl c97 0 [l0] [(r0, q0)] = x) => x) _ (by conv => lhs; cbv)) .skip r97_0 q97_0
noncomputable def x97 : XCode := (fun (l0 : XCode) (r0 : List XOp) (q0 : List (List Nat)) => (fun (x : XCode) (_ : xs [l0] [(r0, q0)] c97 0 0 = x) => x) _ (by conv => lhs; cbv)) l97_0 r97_0 q97_0
theorem enter97 : EnterT Tryz.prog tt 61 x97 [.tmp 4] 97 := enterT ttOk Tryz.func97 c97 (by kernel_rfl) (by kernel_rfl) (by kernel_rfl) (by kernel_rfl) (by kernel_rfl) (by kernel_rfl)
noncomputable def c98 : Code := (Tryz.f98.body).getD .skip
noncomputable def x98 : XCode := (fun (x : XCode) (_ : xs [] [] c98 0 0 = x) => x) _ (by conv => lhs; cbv)
theorem enter98 : EnterT Tryz.prog tt 17 x98 [.tmp 4] 98 := enterT ttOk Tryz.func98 c98 (by kernel_rfl) (by kernel_rfl) (by kernel_rfl) (by kernel_rfl) (by kernel_rfl) (by kernel_rfl)
noncomputable def c99 : Code := (Tryz.f99.body).getD .skip
noncomputable def l99_0 : XCode := (fun (l0 : XCode) => (fun (x : XCode) (_ : xl c99 0 [l0] [] = x) => x) _ (by conv => lhs; cbv)) .skip
noncomputable def x99 : XCode := (fun (l0 : XCode) => (fun (x : XCode) (_ : xs [l0] [] c99 0 0 = x) => x) _ (by conv => lhs; cbv)) l99_0
theorem enter99 : EnterT Tryz.prog tt 21 x99 [.tmp 2] 99 := enterT ttOk Tryz.func99 c99 (by kernel_rfl) (by kernel_rfl) (by kernel_rfl) (by kernel_rfl) (by kernel_rfl) (by kernel_rfl)
noncomputable def c100 : Code := (Tryz.f100.body).getD .skip
noncomputable def l100_0 : XCode := (fun (l0 : XCode) => (fun (x : XCode) (_ : xl c100 0 [l0] [] = x) => x) _ (by conv => lhs; cbv)) .skip
noncomputable def x100 : XCode := (fun (l0 : XCode) => (fun (x : XCode) (_ : xs [l0] [] c100 0 0 = x) => x) _ (by conv => lhs; cbv)) l100_0
theorem enter100 : EnterT Tryz.prog tt 36 x100 [.tmp 2] 100 := enterT ttOk Tryz.func100 c100 (by kernel_rfl) (by kernel_rfl) (by kernel_rfl) (by kernel_rfl) (by kernel_rfl) (by kernel_rfl)
noncomputable def c101 : Code := (Tryz.f101.body).getD .skip
noncomputable def x101 : XCode := (fun (x : XCode) (_ : xs [] [] c101 0 0 = x) => x) _ (by conv => lhs; cbv)
theorem enter101 : EnterT Tryz.prog tt 11 x101 [.tmp 2] 101 := enterT ttOk Tryz.func101 c101 (by kernel_rfl) (by kernel_rfl) (by kernel_rfl) (by kernel_rfl) (by kernel_rfl) (by kernel_rfl)
noncomputable def c102 : Code := (Tryz.f102.body).getD .skip
noncomputable def l102_0 : XCode := (fun (l0 : XCode) => (fun (x : XCode) (_ : xl c102 0 [l0] [] = x) => x) _ (by conv => lhs; cbv)) .skip
noncomputable def x102 : XCode := (fun (l0 : XCode) => (fun (x : XCode) (_ : xs [l0] [] c102 0 0 = x) => x) _ (by conv => lhs; cbv)) l102_0
theorem enter102 : EnterT Tryz.prog tt 20 x102 [] 102 := enterT ttOk Tryz.func102 c102 (by kernel_rfl) (by kernel_rfl) (by kernel_rfl) (by kernel_rfl) (by kernel_rfl) (by kernel_rfl)
noncomputable def c103 : Code := (Tryz.f103.body).getD .skip
@[go_sem] def R103_0 : List XOp := (fun (x : List XOp) (_ : xr c103 0 = x) => x) _ (by conv => lhs; cbv)
noncomputable def r103_0 := xr c103 0
noncomputable def q103_0 := xq c103 0
theorem dr103_0 {w0 : World} {N : Nat} (env : Env) (H : AH) (Q : APost) : awpC Tryz.prog w0 tt N (.draw r103_0 q103_0) Q env H = drunC Tryz.prog w0 tt 0 R103_0 (dendC [] (Q .normal)) [] env H := (awp_draw Tryz.prog w0 tt N (l := r103_0) (by kernel_rfl) (by kernel_rfl) (by kernel_rfl) mixed env H Q).trans (by rw [show r103_0 = R103_0 by kernel_rfl])
@[go_sem] def R103_1 : List XOp := (fun (x : List XOp) (_ : (xr c103 1).take ((xr c103 1).length - 4) = x) => x) _ (by conv => lhs; cbv)
noncomputable def r103_1 := xr c103 1
noncomputable def q103_1 := xq c103 1
theorem dr103_1 {w0 : World} {N : Nat} (env : Env) (H : AH) (Q : APost) (h : drunC Tryz.prog w0 tt 0 R103_1 (dtailC [] 13 14 9 12 11 10 2 27 ty27 (Q .normal)) [] env H) : awpC Tryz.prog w0 tt N (.draw r103_1 q103_1) Q env H := awp_drawE Tryz.prog w0 tt N ttOk mixed (l := r103_1) (lp := R103_1) (t := 25) (by kernel_rfl) (by kernel_rfl) (by kernel_rfl) (by kernel_rfl) (by kernel_rfl) (by kernel_rfl) rfl rfl rfl rfl (by decide) env H Q h
noncomputable def x103 : XCode := (fun (r0 : List XOp) (q0 : List (List Nat)) (r1 : List XOp) (q1 : List (List Nat)) => (fun (x : XCode) (_ : xs [] [(r0, q0), (r1, q1)] c103 0 0 = x) => x) _ (by conv => lhs; cbv)) r103_0 q103_0 r103_1 q103_1
theorem enter103 : EnterT Tryz.prog tt 15 x103 [] 103 := enterT ttOk Tryz.func103 c103 (by kernel_rfl) (by kernel_rfl) (by kernel_rfl) (by kernel_rfl) (by kernel_rfl) (by kernel_rfl)
noncomputable def c104 : Code := (Tryz.f104.body).getD .skip
noncomputable def x104 : XCode := (fun (x : XCode) (_ : xs [] [] c104 0 0 = x) => x) _ (by conv => lhs; cbv)
theorem enter104 : EnterT Tryz.prog tt 17 x104 [.tmp 4] 104 := enterT ttOk Tryz.func104 c104 (by kernel_rfl) (by kernel_rfl) (by kernel_rfl) (by kernel_rfl) (by kernel_rfl) (by kernel_rfl)
noncomputable def c105 : Code := (Tryz.f105.body).getD .skip
noncomputable def x105 : XCode := (fun (x : XCode) (_ : xs [] [] c105 0 0 = x) => x) _ (by conv => lhs; cbv)
theorem enter105 : EnterT Tryz.prog tt 21 x105 [.cell 4 27, .tmp 5] 105 := enterT ttOk Tryz.func105 c105 (by kernel_rfl) (by kernel_rfl) (by kernel_rfl) (by kernel_rfl) (by kernel_rfl) (by kernel_rfl)
noncomputable def c106 : Code := (Tryz.f106.body).getD .skip
noncomputable def l106_0 : XCode := (fun (l0 : XCode) => (fun (x : XCode) (_ : xl c106 0 [l0] [] = x) => x) _ (by conv => lhs; cbv)) .skip
noncomputable def x106 : XCode := (fun (l0 : XCode) => (fun (x : XCode) (_ : xs [l0] [] c106 0 0 = x) => x) _ (by conv => lhs; cbv)) l106_0
theorem enter106 : EnterT Tryz.prog tt 21 x106 [.tmp 2] 106 := enterT ttOk Tryz.func106 c106 (by kernel_rfl) (by kernel_rfl) (by kernel_rfl) (by kernel_rfl) (by kernel_rfl) (by kernel_rfl)
noncomputable def c107 : Code := (Tryz.f107.body).getD .skip
noncomputable def l107_0 : XCode := (fun (l0 : XCode) => (fun (x : XCode) (_ : xl c107 0 [l0] [] = x) => x) _ (by conv => lhs; cbv)) .skip
noncomputable def x107 : XCode := (fun (l0 : XCode) => (fun (x : XCode) (_ : xs [l0] [] c107 0 0 = x) => x) _ (by conv => lhs; cbv)) l107_0
theorem enter107 : EnterT Tryz.prog tt 20 x107 [.tmp 2] 107 := enterT ttOk Tryz.func107 c107 (by kernel_rfl) (by kernel_rfl) (by kernel_rfl) (by kernel_rfl) (by kernel_rfl) (by kernel_rfl)
noncomputable def c108 : Code := (Tryz.f108.body).getD .skip
noncomputable def x108 : XCode := (fun (x : XCode) (_ : xs [] [] c108 0 0 = x) => x) _ (by conv => lhs; cbv)
theorem enter108 : EnterT Tryz.prog tt 2 x108 [.tmp 0] 108 := enterT ttOk Tryz.func108 c108 (by kernel_rfl) (by kernel_rfl) (by kernel_rfl) (by kernel_rfl) (by kernel_rfl) (by kernel_rfl)
noncomputable def c109 : Code := (Tryz.f109.body).getD .skip
noncomputable def l109_0 : XCode := (fun (l0 : XCode) => (fun (x : XCode) (_ : xl c109 0 [l0] [] = x) => x) _ (by conv => lhs; cbv)) .skip
noncomputable def x109 : XCode := (fun (l0 : XCode) => (fun (x : XCode) (_ : xs [l0] [] c109 0 0 = x) => x) _ (by conv => lhs; cbv)) l109_0
theorem enter109 : EnterT Tryz.prog tt 32 x109 [.tmp 2] 109 := enterT ttOk Tryz.func109 c109 (by kernel_rfl) (by kernel_rfl) (by kernel_rfl) (by kernel_rfl) (by kernel_rfl) (by kernel_rfl)
noncomputable def c110 : Code := (Tryz.f110.body).getD .skip
noncomputable def x110 : XCode := (fun (x : XCode) (_ : xs [] [] c110 0 0 = x) => x) _ (by conv => lhs; cbv)
theorem enter110 : EnterT Tryz.prog tt 35 x110 [.tmp 2] 110 := enterT ttOk Tryz.func110 c110 (by kernel_rfl) (by kernel_rfl) (by kernel_rfl) (by kernel_rfl) (by kernel_rfl) (by kernel_rfl)
noncomputable def c111 : Code := (Tryz.f111.body).getD .skip
@[go_sem] def R111_0 : List XOp := (fun (x : List XOp) (_ : xr c111 0 = x) => x) _ (by conv => lhs; cbv)
noncomputable def r111_0 := xr c111 0
noncomputable def q111_0 := xq c111 0
theorem dr111_0 {w0 : World} {N : Nat} (env : Env) (H : AH) (Q : APost) : awpC Tryz.prog w0 tt N (.draw r111_0 q111_0) Q env H = drunC Tryz.prog w0 tt 0 R111_0 (dendC [] (Q .normal)) [] env H := (awp_draw Tryz.prog w0 tt N (l := r111_0) (by kernel_rfl) (by kernel_rfl) (by kernel_rfl) mixed env H Q).trans (by rw [show r111_0 = R111_0 by kernel_rfl])
noncomputable def l111_0 : XCode := (fun (l0 : XCode) (r0 : List XOp) (q0 : List (List Nat)) => (fun (x : XCode) (_ : xl c111 0 [l0] [(r0, q0)] = x) => x) _ (by conv => lhs; cbv)) .skip r111_0 q111_0
noncomputable def x111 : XCode := (fun (l0 : XCode) (r0 : List XOp) (q0 : List (List Nat)) => (fun (x : XCode) (_ : xs [l0] [(r0, q0)] c111 0 0 = x) => x) _ (by conv => lhs; cbv)) l111_0 r111_0 q111_0
theorem enter111 : EnterT Tryz.prog tt 30 x111 [.cell 2 27] 111 := enterT ttOk Tryz.func111 c111 (by kernel_rfl) (by kernel_rfl) (by kernel_rfl) (by kernel_rfl) (by kernel_rfl) (by kernel_rfl)
noncomputable def c112 : Code := (Tryz.f112.body).getD .skip
noncomputable def l112_0 : XCode := (fun (l0 : XCode) => (fun (x : XCode) (_ : xl c112 0 [l0] [] = x) => x) _ (by conv => lhs; cbv)) .skip
noncomputable def x112 : XCode := (fun (l0 : XCode) => (fun (x : XCode) (_ : xs [l0] [] c112 0 0 = x) => x) _ (by conv => lhs; cbv)) l112_0
theorem enter112 : EnterT Tryz.prog tt 28 x112 [.tmp 2] 112 := enterT ttOk Tryz.func112 c112 (by kernel_rfl) (by kernel_rfl) (by kernel_rfl) (by kernel_rfl) (by kernel_rfl) (by kernel_rfl)
noncomputable def c113 : Code := (Tryz.f113.body).getD .skip
@[go_sem] def R113_0 : List XOp := (fun (x : List XOp) (_ : xr c113 0 = x) => x) _ (by conv => lhs; cbv)
noncomputable def r113_0 := xr c113 0
noncomputable def q113_0 := xq c113 0
theorem dr113_0 {w0 : World} {N : Nat} (env : Env) (H : AH) (Q : APost) : awpC Tryz.prog w0 tt N (.draw r113_0 q113_0) Q env H = drunC Tryz.prog w0 tt 0 R113_0 (dendC [] (Q .normal)) [] env H := (awp_draw Tryz.prog w0 tt N (l := r113_0) (by kernel_rfl) (by kernel_rfl) (by kernel_rfl) mixed env H Q).trans (by rw [show r113_0 = R113_0 by kernel_rfl])
noncomputable def x113 : XCode := (fun (r0 : List XOp) (q0 : List (List Nat)) => (fun (x : XCode) (_ : xs [] [(r0, q0)] c113 0 0 = x) => x) _ (by conv => lhs; cbv)) r113_0 q113_0
theorem enter113 : EnterT Tryz.prog tt 16 x113 [.tmp 2, .tmp 3] 113 := enterT ttOk Tryz.func113 c113 (by kernel_rfl) (by kernel_rfl) (by kernel_rfl) (by kernel_rfl) (by kernel_rfl) (by kernel_rfl)
noncomputable def c114 : Code := (Tryz.f114.body).getD .skip
noncomputable def x114 : XCode := (fun (x : XCode) (_ : xs [] [] c114 0 0 = x) => x) _ (by conv => lhs; cbv)
theorem enter114 : EnterT Tryz.prog tt 9 x114 [.tmp 2] 114 := enterT ttOk Tryz.func114 c114 (by kernel_rfl) (by kernel_rfl) (by kernel_rfl) (by kernel_rfl) (by kernel_rfl) (by kernel_rfl)
noncomputable def c115 : Code := (Tryz.f115.body).getD .skip
noncomputable def x115 : XCode := (fun (x : XCode) (_ : xs [] [] c115 0 0 = x) => x) _ (by conv => lhs; cbv)
theorem enter115 : EnterT Tryz.prog tt 9 x115 [.tmp 4] 115 := enterT ttOk Tryz.func115 c115 (by kernel_rfl) (by kernel_rfl) (by kernel_rfl) (by kernel_rfl) (by kernel_rfl) (by kernel_rfl)
noncomputable def c116 : Code := (Tryz.f116.body).getD .skip
noncomputable def x116 : XCode := (fun (x : XCode) (_ : xs [] [] c116 0 0 = x) => x) _ (by conv => lhs; cbv)
theorem enter116 : EnterT Tryz.prog tt 8 x116 [.tmp 2] 116 := enterT ttOk Tryz.func116 c116 (by kernel_rfl) (by kernel_rfl) (by kernel_rfl) (by kernel_rfl) (by kernel_rfl) (by kernel_rfl)
noncomputable def c117 : Code := (Tryz.f117.body).getD .skip
noncomputable def x117 : XCode := (fun (x : XCode) (_ : xs [] [] c117 0 0 = x) => x) _ (by conv => lhs; cbv)
theorem enter117 : EnterT Tryz.prog tt 8 x117 [.tmp 4] 117 := enterT ttOk Tryz.func117 c117 (by kernel_rfl) (by kernel_rfl) (by kernel_rfl) (by kernel_rfl) (by kernel_rfl) (by kernel_rfl)
noncomputable def c118 : Code := (Tryz.f118.body).getD .skip
noncomputable def x118 : XCode := (fun (x : XCode) (_ : xs [] [] c118 0 0 = x) => x) _ (by conv => lhs; cbv)
theorem enter118 : EnterT Tryz.prog tt 9 x118 [.tmp 2] 118 := enterT ttOk Tryz.func118 c118 (by kernel_rfl) (by kernel_rfl) (by kernel_rfl) (by kernel_rfl) (by kernel_rfl) (by kernel_rfl)
noncomputable def c119 : Code := (Tryz.f119.body).getD .skip
noncomputable def l119_0 : XCode := (fun (l0 : XCode) => (fun (x : XCode) (_ : xl c119 0 [l0] [] = x) => x) _ (by conv => lhs; cbv)) .skip
noncomputable def x119 : XCode := (fun (l0 : XCode) => (fun (x : XCode) (_ : xs [l0] [] c119 0 0 = x) => x) _ (by conv => lhs; cbv)) l119_0
theorem enter119 : EnterT Tryz.prog tt 21 x119 [.tmp 6] 119 := enterT ttOk Tryz.func119 c119 (by kernel_rfl) (by kernel_rfl) (by kernel_rfl) (by kernel_rfl) (by kernel_rfl) (by kernel_rfl)
end Go.Ai.Tryz
