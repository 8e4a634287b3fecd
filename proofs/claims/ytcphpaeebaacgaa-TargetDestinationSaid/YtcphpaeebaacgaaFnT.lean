/- A part of the proof: no statement of the seat is proved in this text. -/
import Derived.Test.YtcphpaeebaacgaaTyA
import Derived.Test.YtcphpaeebaacgaaData
set_option linter.unusedVariables false
set_option linter.unusedSimpArgs false
set_option maxRecDepth 20000
namespace Go.Ai.Try
open Go Go.Ai Go.Proofs

-- pandect/pandectlaw21.TargetInsertionPoint
noncomputable def c3 : Code := (Try.f3.body).getD .skip
def x3 : XCode := .seq (
    .region [⟨some 3, .box 27 (.tmp 0), none⟩,
      ⟨some 6, .move (.const (.bool false)), none⟩]) (.seq (.seq (
      .region [⟨some 13, .call 6 [], none⟩,
        ⟨some 14, .un .not (.tmp 13), none⟩]) (.cond (.tmp 14) (.seq (
        .region [⟨some 6, .move (.const (.bool false)), none⟩]) (.ret)) (.skip))) (.seq (.seq (
      .region [⟨some 15, .load 27 (.tmp 3), none⟩,
        ⟨some 16, .call 7 [.tmp 15], none⟩,
        ⟨some 17, .un .not (.tmp 16), none⟩,
        ⟨some 18, .move (.tmp 17), none⟩,
        ⟨some 19, .move (.tmp 1), some (some 18, false)⟩,
        ⟨some 20, .build 37 [(1, .tmp 19)], some (some 18, false)⟩,
        ⟨some 21, .call 8 [.tmp 20], some (some 18, false)⟩,
        ⟨some 22, .un .not (.tmp 21), some (some 18, false)⟩,
        ⟨some 23, .pick (.tmp 18) (.const (.bool true)) (.tmp 22), none⟩]) (.cond (.tmp 23) (.seq (
        .region [⟨some 6, .move (.const (.bool true)), none⟩]) (.ret)) (.skip))) (.seq (
    .region [⟨some 25, .load 27 (.tmp 3), none⟩,
      ⟨some 26, .move (.tmp 1), none⟩,
      ⟨some 27, .move (.tmp 2), none⟩,
      ⟨some 28, .call 9 [.tmp 25, .tmp 26, .tmp 27], none⟩,
      ⟨some 24, .move (.tmp 28), none⟩,
      ⟨some 29, .extract (.tmp 24) 0, none⟩,
      ⟨some 30, .extract (.tmp 24) 1, none⟩,
      ⟨some 31, .extract (.tmp 24) 2, none⟩,
      ⟨some 7, .alloc 23, none⟩,
      ⟨none, .store 23 (.tmp 7) (.tmp 29), none⟩,
      ⟨some 8, .move (.tmp 30), none⟩,
      ⟨some 9, .move (.tmp 31), none⟩]) (.seq (
    .region [⟨some 33, .load 27 (.tmp 3), none⟩,
      ⟨some 34, .move (.tmp 1), none⟩,
      ⟨some 35, .move (.tmp 2), none⟩,
      ⟨some 36, .call 10 [.tmp 33, .tmp 34, .tmp 35], none⟩,
      ⟨some 32, .move (.tmp 36), none⟩,
      ⟨some 37, .extract (.tmp 32) 0, none⟩,
      ⟨some 38, .extract (.tmp 32) 1, none⟩,
      ⟨some 39, .extract (.tmp 32) 2, none⟩,
      ⟨some 10, .alloc 23, none⟩,
      ⟨none, .store 23 (.tmp 10) (.tmp 37), none⟩,
      ⟨some 11, .move (.tmp 38), none⟩,
      ⟨some 12, .move (.tmp 39), none⟩]) (.seq (
    .region [⟨some 40, .load 23 (.tmp 7), none⟩,
      ⟨some 41, .load 23 (.tmp 10), none⟩,
      ⟨some 42, .bin .eql 23 (.tmp 40) (.tmp 41), none⟩,
      ⟨some 43, .move (.tmp 42), none⟩,
      ⟨some 44, .move (.tmp 8), some (some 43, true)⟩,
      ⟨some 45, .move (.tmp 11), some (some 43, true)⟩,
      ⟨some 46, .bin .eql 3 (.tmp 44) (.tmp 45), some (some 43, true)⟩,
      ⟨some 47, .pick (.tmp 43) (.tmp 46) (.const (.bool false)), none⟩,
      ⟨some 48, .move (.tmp 47), none⟩,
      ⟨some 49, .move (.tmp 9), some (some 48, true)⟩,
      ⟨some 50, .move (.tmp 12), some (some 48, true)⟩,
      ⟨some 51, .bin .eql 38 (.tmp 49) (.tmp 50), some (some 48, true)⟩,
      ⟨some 52, .pick (.tmp 48) (.tmp 51) (.const (.bool false)), none⟩,
      ⟨some 6, .move (.tmp 52), none⟩]) (.ret))))))
theorem xc3 : xc c3 = x3 := by kernel_rfl
theorem enter3 {w0 : World} {args : List AV} {H : AH} {Q : AV → AH → Prop} (hn : args.length ≤ 53) (h : H.WF → (∀ a ∈ args, a.Ok) → ∀ (R : APost), (∀ env' H' r, ares tt env' H' [.tmp 6] r → Leave H r H' Q → R .ret env' H') → (∀ env' H', R .ret env' H' → R .normal env' H') → awp Try.prog w0 tt 53 x3 (enumF 0 args) H R) : ACalls Try.prog w0 3 args H Q :=
  ACalls.enterK (c := c3) ttOk Try.func3 (by kernel_rfl) (by kernel_rfl) xc3 (by kernel_rfl) rfl hn h

def r4_0 : List XOp := [⟨some 32, .load 23 (.tmp 5), none⟩,
  ⟨some 33, .load 23 (.tmp 7), none⟩,
  ⟨some 34, .bin .eql 23 (.tmp 32) (.tmp 33), none⟩,
  ⟨some 35, .move (.tmp 34), none⟩,
  ⟨some 36, .move (.tmp 6), some (some 35, true)⟩,
  ⟨some 37, .move (.tmp 8), some (some 35, true)⟩,
  ⟨some 38, .bin .eql 38 (.tmp 36) (.tmp 37), some (some 35, true)⟩,
  ⟨some 39, .pick (.tmp 35) (.tmp 38) (.const (.bool false)), none⟩,
  ⟨some 40, .move (.tmp 39), none⟩,
  ⟨some 41, .load 27 (.tmp 2), some (some 40, true)⟩,
  ⟨some 42, .fieldAddr 37 (.tmp 3) 1, some (some 40, true)⟩,
  ⟨some 43, .load 28 (.tmp 42), some (some 40, true)⟩,
  ⟨some 44, .call 14 [.tmp 41, .tmp 43], some (some 40, true)⟩,
  ⟨some 45, .load 27 (.tmp 2), some (some 40, true)⟩,
  ⟨some 46, .fieldAddr 37 (.tmp 3) 1, some (some 40, true)⟩,
  ⟨some 47, .load 28 (.tmp 46), some (some 40, true)⟩,
  ⟨some 48, .call 15 [.tmp 45, .tmp 47], some (some 40, true)⟩,
  ⟨some 49, .call 13 [.tmp 44, .tmp 48], some (some 40, true)⟩,
  ⟨some 50, .pick (.tmp 40) (.tmp 49) (.const (.bool false)), none⟩,
  ⟨some 4, .move (.tmp 50), none⟩]
def q4_0 : List (List Nat) := [[], [], [0, 1], [2], [3], [3], [4, 5, 3], [3, 6], [7, 3], [8], [8], [10, 8], [9, 11, 8, 8], [8], [8], [14, 8], [13, 15, 12, 8], [12, 16, 16, 8], [8, 17], [18, 17, 0, 1, 2, 3, 4, 5, 6, 7, 8, 9, 10, 11, 12, 13, 14, 15, 16, 17, 18]]
theorem dr4_0 {w0 : World} {N : Nat} (env : Env) (H : AH) (Q : APost) : awpC Try.prog w0 tt N (.draw r4_0 q4_0) Q env H = drunC Try.prog w0 tt 0 [⟨some 32, .load 23 (.tmp 5), none⟩,
  ⟨some 33, .load 23 (.tmp 7), none⟩,
  ⟨some 34, .bin .eql 23 (.tmp 32) (.tmp 33), none⟩,
  ⟨some 35, .move (.tmp 34), none⟩,
  ⟨some 36, .move (.tmp 6), some (some 35, true)⟩,
  ⟨some 37, .move (.tmp 8), some (some 35, true)⟩,
  ⟨some 38, .bin .eql 38 (.tmp 36) (.tmp 37), some (some 35, true)⟩,
  ⟨some 39, .pick (.tmp 35) (.tmp 38) (.const (.bool false)), none⟩,
  ⟨some 40, .move (.tmp 39), none⟩,
  ⟨some 41, .load 27 (.tmp 2), some (some 40, true)⟩,
  ⟨some 42, .fieldAddr 37 (.tmp 3) 1, some (some 40, true)⟩,
  ⟨some 43, .load 28 (.tmp 42), some (some 40, true)⟩,
  ⟨some 44, .call 14 [.tmp 41, .tmp 43], some (some 40, true)⟩,
  ⟨some 45, .load 27 (.tmp 2), some (some 40, true)⟩,
  ⟨some 46, .fieldAddr 37 (.tmp 3) 1, some (some 40, true)⟩,
  ⟨some 47, .load 28 (.tmp 46), some (some 40, true)⟩,
  ⟨some 48, .call 15 [.tmp 45, .tmp 47], some (some 40, true)⟩,
  ⟨some 49, .call 13 [.tmp 44, .tmp 48], some (some 40, true)⟩,
  ⟨some 50, .pick (.tmp 40) (.tmp 49) (.const (.bool false)), none⟩,
  ⟨some 4, .move (.tmp 50), none⟩] (dendC [] (Q .normal)) [] env H := awp_draw Try.prog w0 tt N (l := r4_0) (by kernel_rfl) (by kernel_rfl) (by kernel_rfl) mixed env H Q
-- pandect/pandectlaw21.TargetFind
noncomputable def c4 : Code := (Try.f4.body).getD .skip
def x4 : XCode := .seq (
    .region [⟨some 2, .box 27 (.tmp 0), none⟩,
      ⟨some 3, .box 37 (.tmp 1), none⟩,
      ⟨some 4, .move (.const (.bool false)), none⟩]) (.seq (.seq (
      .region [⟨some 9, .call 6 [], none⟩,
        ⟨some 10, .un .not (.tmp 9), none⟩]) (.cond (.tmp 10) (.seq (
        .region [⟨some 4, .move (.const (.bool false)), none⟩]) (.ret)) (.skip))) (.seq (.seq (
      .region [⟨some 11, .load 27 (.tmp 2), none⟩,
        ⟨some 12, .call 7 [.tmp 11], none⟩,
        ⟨some 13, .un .not (.tmp 12), none⟩,
        ⟨some 14, .move (.tmp 13), none⟩,
        ⟨some 15, .load 37 (.tmp 3), some (some 14, false)⟩,
        ⟨some 16, .call 8 [.tmp 15], some (some 14, false)⟩,
        ⟨some 17, .un .not (.tmp 16), some (some 14, false)⟩,
        ⟨some 18, .pick (.tmp 14) (.const (.bool true)) (.tmp 17), none⟩]) (.cond (.tmp 18) (.seq (
        .region [⟨some 4, .move (.const (.bool true)), none⟩]) (.ret)) (.skip))) (.seq (
    .region [⟨some 20, .load 27 (.tmp 2), none⟩,
      ⟨some 21, .load 37 (.tmp 3), none⟩,
      ⟨some 22, .call 11 [.tmp 20, .tmp 21], none⟩,
      ⟨some 19, .move (.tmp 22), none⟩,
      ⟨some 23, .extract (.tmp 19) 0, none⟩,
      ⟨some 24, .extract (.tmp 19) 1, none⟩,
      ⟨some 5, .alloc 23, none⟩,
      ⟨none, .store 23 (.tmp 5) (.tmp 23), none⟩,
      ⟨some 6, .move (.tmp 24), none⟩]) (.seq (
    .region [⟨some 26, .load 27 (.tmp 2), none⟩,
      ⟨some 27, .fieldAddr 37 (.tmp 3) 1, none⟩,
      ⟨some 28, .load 28 (.tmp 27), none⟩,
      ⟨some 29, .call 12 [.tmp 26, .tmp 28], none⟩,
      ⟨some 25, .move (.tmp 29), none⟩,
      ⟨some 30, .extract (.tmp 25) 0, none⟩,
      ⟨some 31, .extract (.tmp 25) 1, none⟩,
      ⟨some 7, .alloc 23, none⟩,
      ⟨none, .store 23 (.tmp 7) (.tmp 30), none⟩,
      ⟨some 8, .move (.tmp 31), none⟩]) (.seq (
    .draw r4_0 q4_0) (.ret))))))
theorem xc4 : xc c4 = x4 := by kernel_rfl
theorem enter4 {w0 : World} {args : List AV} {H : AH} {Q : AV → AH → Prop} (hn : args.length ≤ 51) (h : H.WF → (∀ a ∈ args, a.Ok) → ∀ (R : APost), (∀ env' H' r, ares tt env' H' [.tmp 4] r → Leave H r H' Q → R .ret env' H') → (∀ env' H', R .ret env' H' → R .normal env' H') → awp Try.prog w0 tt 51 x4 (enumF 0 args) H R) : ACalls Try.prog w0 4 args H Q :=
  ACalls.enterK (c := c4) ttOk Try.func4 (by kernel_rfl) (by kernel_rfl) xc4 (by kernel_rfl) rfl hn h

-- pandect/pandectlaw21.TargetDestination
noncomputable def c5 : Code := (Try.f5.body).getD .skip
def x5 : XCode := .seq (
    .region [⟨some 2, .box 27 (.tmp 0), none⟩,
      ⟨some 3, .box 37 (.tmp 1), none⟩,
      ⟨some 4, .move (.const (.bool false)), none⟩]) (.seq (.seq (
      .region [⟨some 11, .call 6 [], none⟩,
        ⟨some 12, .un .not (.tmp 11), none⟩]) (.cond (.tmp 12) (.seq (
        .region [⟨some 4, .move (.const (.bool false)), none⟩]) (.ret)) (.skip))) (.seq (.seq (
      .region [⟨some 13, .load 27 (.tmp 2), none⟩,
        ⟨some 14, .call 7 [.tmp 13], none⟩,
        ⟨some 15, .un .not (.tmp 14), none⟩,
        ⟨some 16, .move (.tmp 15), none⟩,
        ⟨some 17, .load 37 (.tmp 3), some (some 16, false)⟩,
        ⟨some 18, .call 8 [.tmp 17], some (some 16, false)⟩,
        ⟨some 19, .un .not (.tmp 18), some (some 16, false)⟩,
        ⟨some 20, .pick (.tmp 16) (.const (.bool true)) (.tmp 19), none⟩]) (.cond (.tmp 20) (.seq (
        .region [⟨some 4, .move (.const (.bool true)), none⟩]) (.ret)) (.skip))) (.seq (
    .region [⟨some 22, .load 27 (.tmp 2), none⟩,
      ⟨some 23, .load 37 (.tmp 3), none⟩,
      ⟨some 24, .call 16 [.tmp 22, .tmp 23], none⟩,
      ⟨some 21, .move (.tmp 24), none⟩,
      ⟨some 25, .extract (.tmp 21) 0, none⟩,
      ⟨some 26, .extract (.tmp 21) 1, none⟩,
      ⟨some 27, .extract (.tmp 21) 2, none⟩,
      ⟨some 5, .alloc 23, none⟩,
      ⟨none, .store 23 (.tmp 5) (.tmp 25), none⟩,
      ⟨some 6, .move (.tmp 26), none⟩,
      ⟨some 7, .move (.tmp 27), none⟩]) (.seq (
    .region [⟨some 29, .load 27 (.tmp 2), none⟩,
      ⟨some 30, .load 37 (.tmp 3), none⟩,
      ⟨some 31, .call 17 [.tmp 29, .tmp 30], none⟩,
      ⟨some 28, .move (.tmp 31), none⟩,
      ⟨some 32, .extract (.tmp 28) 0, none⟩,
      ⟨some 33, .extract (.tmp 28) 1, none⟩,
      ⟨some 34, .extract (.tmp 28) 2, none⟩,
      ⟨some 8, .alloc 23, none⟩,
      ⟨none, .store 23 (.tmp 8) (.tmp 32), none⟩,
      ⟨some 9, .move (.tmp 33), none⟩,
      ⟨some 10, .move (.tmp 34), none⟩]) (.seq (
    .region [⟨some 35, .load 23 (.tmp 5), none⟩,
      ⟨some 36, .load 23 (.tmp 8), none⟩,
      ⟨some 37, .bin .eql 23 (.tmp 35) (.tmp 36), none⟩,
      ⟨some 38, .move (.tmp 37), none⟩,
      ⟨some 39, .move (.tmp 6), some (some 38, true)⟩,
      ⟨some 40, .move (.tmp 9), some (some 38, true)⟩,
      ⟨some 41, .bin .eql 3 (.tmp 39) (.tmp 40), some (some 38, true)⟩,
      ⟨some 42, .pick (.tmp 38) (.tmp 41) (.const (.bool false)), none⟩,
      ⟨some 43, .move (.tmp 42), none⟩,
      ⟨some 44, .move (.tmp 7), some (some 43, true)⟩,
      ⟨some 45, .move (.tmp 10), some (some 43, true)⟩,
      ⟨some 46, .bin .eql 38 (.tmp 44) (.tmp 45), some (some 43, true)⟩,
      ⟨some 47, .pick (.tmp 43) (.tmp 46) (.const (.bool false)), none⟩,
      ⟨some 4, .move (.tmp 47), none⟩]) (.ret))))))
theorem xc5 : xc c5 = x5 := by kernel_rfl
theorem enter5 {w0 : World} {args : List AV} {H : AH} {Q : AV → AH → Prop} (hn : args.length ≤ 48) (h : H.WF → (∀ a ∈ args, a.Ok) → ∀ (R : APost), (∀ env' H' r, ares tt env' H' [.tmp 4] r → Leave H r H' Q → R .ret env' H') → (∀ env' H', R .ret env' H' → R .normal env' H') → awp Try.prog w0 tt 48 x5 (enumF 0 args) H R) : ACalls Try.prog w0 5 args H Q :=
  ACalls.enterK (c := c5) ttOk Try.func5 (by kernel_rfl) (by kernel_rfl) xc5 (by kernel_rfl) rfl hn h

-- pandect/pandectlaw21.awake
noncomputable def c6 : Code := (Try.f6.body).getD .skip
def x6 : XCode := .seq (
    .region [⟨some 0, .move (.const (.bool false)), none⟩]) (.seq (
    .region [⟨some 8, .build 23 [(0, .const (.int .i64 1)), (2, .const (.int .i64 1))], none⟩,
      ⟨some 9, .build 27 [(0, .tmp 8), (1, .const (.int .i64 2)), (2, .const (.string { data := #[49] }))], none⟩,
      ⟨some 10, .build 23 [(0, .const (.int .i64 1)), (2, .const (.int .i64 2))], none⟩,
      ⟨some 11, .build 27 [(0, .tmp 10), (1, .const (.int .i64 2)), (2, .const (.string { data := #[50] }))], none⟩,
      ⟨some 12, .buildSlice 25 2 [(0, .tmp 9), (1, .tmp 11)], none⟩,
      ⟨some 13, .build 27 [(5, .tmp 12)], none⟩,
      ⟨some 1, .alloc 27, none⟩,
      ⟨none, .store 27 (.tmp 1) (.tmp 13), none⟩]) (.seq (
    .region [⟨some 15, .load 27 (.tmp 1), none⟩,
      ⟨some 16, .build 52 [(0, .const (.int .i64 2)), (1, .const (.string { data := #[49] }))], none⟩,
      ⟨some 17, .buildSlice 28 1 [(0, .tmp 16)], none⟩,
      ⟨some 18, .call 9 [.tmp 15, .tmp 17, .const (.int .i64 2)], none⟩,
      ⟨some 14, .move (.tmp 18), none⟩,
      ⟨some 19, .extract (.tmp 14) 0, none⟩,
      ⟨some 20, .extract (.tmp 14) 1, none⟩,
      ⟨some 21, .extract (.tmp 14) 2, none⟩,
      ⟨some 2, .alloc 23, none⟩,
      ⟨none, .store 23 (.tmp 2) (.tmp 19), none⟩,
      ⟨some 3, .move (.tmp 20), none⟩,
      ⟨some 4, .move (.tmp 21), none⟩]) (.seq (
    .region [⟨some 23, .load 27 (.tmp 1), none⟩,
      ⟨some 24, .call 9 [.tmp 23, .const (.slice none 0 0), .const (.int .i64 1)], none⟩,
      ⟨some 22, .move (.tmp 24), none⟩,
      ⟨some 25, .extract (.tmp 22) 0, none⟩,
      ⟨some 26, .extract (.tmp 22) 1, none⟩,
      ⟨some 27, .extract (.tmp 22) 2, none⟩,
      ⟨some 5, .alloc 23, none⟩,
      ⟨none, .store 23 (.tmp 5) (.tmp 25), none⟩,
      ⟨some 6, .move (.tmp 26), none⟩,
      ⟨some 7, .move (.tmp 27), none⟩]) (.seq (
    .region [⟨some 28, .move (.tmp 4), none⟩,
      ⟨some 29, .bin .eql 38 (.tmp 28) (.const (.int .i64 0)), none⟩,
      ⟨some 30, .move (.tmp 29), none⟩,
      ⟨some 31, .load 23 (.tmp 2), some (some 30, true)⟩,
      ⟨some 32, .build 23 [], some (some 30, true)⟩,
      ⟨some 33, .bin .eql 23 (.tmp 31) (.tmp 32), some (some 30, true)⟩,
      ⟨some 34, .pick (.tmp 30) (.tmp 33) (.const (.bool false)), none⟩,
      ⟨some 35, .move (.tmp 34), none⟩,
      ⟨some 36, .move (.tmp 3), some (some 35, true)⟩,
      ⟨some 37, .bin .eql 3 (.tmp 36) (.const (.int .i64 1)), some (some 35, true)⟩,
      ⟨some 38, .pick (.tmp 35) (.tmp 37) (.const (.bool false)), none⟩,
      ⟨some 39, .move (.tmp 38), none⟩,
      ⟨some 40, .move (.tmp 7), some (some 39, true)⟩,
      ⟨some 41, .bin .eql 38 (.tmp 40) (.const (.int .i64 0)), some (some 39, true)⟩,
      ⟨some 42, .pick (.tmp 39) (.tmp 41) (.const (.bool false)), none⟩,
      ⟨some 43, .move (.tmp 42), none⟩,
      ⟨some 44, .load 23 (.tmp 5), some (some 43, true)⟩,
      ⟨some 45, .build 23 [], some (some 43, true)⟩,
      ⟨some 46, .bin .eql 23 (.tmp 44) (.tmp 45), some (some 43, true)⟩,
      ⟨some 47, .pick (.tmp 43) (.tmp 46) (.const (.bool false)), none⟩,
      ⟨some 48, .move (.tmp 47), none⟩,
      ⟨some 49, .move (.tmp 6), some (some 48, true)⟩,
      ⟨some 50, .bin .eql 3 (.tmp 49) (.const (.int .i64 2)), some (some 48, true)⟩,
      ⟨some 51, .pick (.tmp 48) (.tmp 50) (.const (.bool false)), none⟩,
      ⟨some 0, .move (.tmp 51), none⟩]) (.ret)))))
theorem xc6 : xc c6 = x6 := by kernel_rfl
theorem enter6 {w0 : World} {args : List AV} {H : AH} {Q : AV → AH → Prop} (hn : args.length ≤ 52) (h : H.WF → (∀ a ∈ args, a.Ok) → ∀ (R : APost), (∀ env' H' r, ares tt env' H' [.tmp 0] r → Leave H r H' Q → R .ret env' H') → (∀ env' H', R .ret env' H' → R .normal env' H') → awp Try.prog w0 tt 52 x6 (enumF 0 args) H R) : ACalls Try.prog w0 6 args H Q :=
  ACalls.enterK (c := c6) ttOk Try.func6 (by kernel_rfl) (by kernel_rfl) xc6 (by kernel_rfl) rfl hn h

-- pandect/pandectlaw21.book
noncomputable def c7 : Code := (Try.f7.body).getD .skip
def x7 : XCode := .seq (
    .region [⟨some 1, .box 27 (.tmp 0), none⟩,
      ⟨some 2, .move (.const (.bool false)), none⟩]) (.seq (
    .region [⟨some 3, .load 27 (.tmp 1), none⟩,
      ⟨some 4, .call 18 [.tmp 3, .const (.int .i64 30)], none⟩,
      ⟨some 5, .move (.tmp 4), none⟩,
      ⟨some 6, .load 27 (.tmp 1), some (some 5, true)⟩,
      ⟨some 7, .call 19 [.tmp 6], some (some 5, true)⟩,
      ⟨some 8, .pick (.tmp 5) (.tmp 7) (.const (.bool false)), none⟩,
      ⟨some 2, .move (.tmp 8), none⟩]) (.ret))
theorem xc7 : xc c7 = x7 := by kernel_rfl
theorem enter7 {w0 : World} {args : List AV} {H : AH} {Q : AV → AH → Prop} (hn : args.length ≤ 9) (h : H.WF → (∀ a ∈ args, a.Ok) → ∀ (R : APost), (∀ env' H' r, ares tt env' H' [.tmp 2] r → Leave H r H' Q → R .ret env' H') → (∀ env' H', R .ret env' H' → R .normal env' H') → awp Try.prog w0 tt 9 x7 (enumF 0 args) H R) : ACalls Try.prog w0 7 args H Q :=
  ACalls.enterK (c := c7) ttOk Try.func7 (by kernel_rfl) (by kernel_rfl) xc7 (by kernel_rfl) rfl hn h

def l8_0 : XCode := .seq (.seq (
      .region [⟨some 68, .move (.tmp 3), none⟩,
        ⟨some 69, .fieldAddr 37 (.tmp 1) 6, none⟩,
        ⟨some 70, .load 32 (.tmp 69), none⟩,
        ⟨some 71, .len 32 (.tmp 70), none⟩,
        ⟨some 72, .bin .lss 3 (.tmp 68) (.tmp 71), none⟩]) (.cond (.tmp 72) (.skip) (.exit 0))) (.seq (
    .block 1 (.seq (
        .region [⟨some 75, .fieldAddr 37 (.tmp 1) 6, none⟩,
          ⟨some 76, .load 32 (.tmp 75), none⟩,
          ⟨some 77, .move (.tmp 3), none⟩,
          ⟨some 78, .indexAddr 32 (.tmp 76) (.tmp 77), none⟩,
          ⟨some 79, .load 9 (.tmp 78), none⟩,
          ⟨some 80, .len 9 (.tmp 79), none⟩,
          ⟨some 81, .bin .gtr 3 (.tmp 80) (.const (.int .i64 100)), none⟩]) (.cond (.tmp 81) (.seq (
          .region [⟨some 2, .move (.const (.bool false)), none⟩]) (.ret)) (.skip)))) (
  .region [⟨some 73, .move (.tmp 3), none⟩,
    ⟨some 74, .bin .add 3 (.tmp 73) (.const (.int .i64 1)), none⟩,
    ⟨some 3, .move (.tmp 74), none⟩]))
def l8_1 : XCode := .seq (.seq (
      .region [⟨some 82, .move (.tmp 4), none⟩,
        ⟨some 83, .fieldAddr 37 (.tmp 1) 7, none⟩,
        ⟨some 84, .load 32 (.tmp 83), none⟩,
        ⟨some 85, .len 32 (.tmp 84), none⟩,
        ⟨some 86, .bin .lss 3 (.tmp 82) (.tmp 85), none⟩]) (.cond (.tmp 86) (.skip) (.exit 2))) (.seq (
    .block 3 (.seq (
        .region [⟨some 89, .fieldAddr 37 (.tmp 1) 7, none⟩,
          ⟨some 90, .load 32 (.tmp 89), none⟩,
          ⟨some 91, .move (.tmp 4), none⟩,
          ⟨some 92, .indexAddr 32 (.tmp 90) (.tmp 91), none⟩,
          ⟨some 93, .load 9 (.tmp 92), none⟩,
          ⟨some 94, .len 9 (.tmp 93), none⟩,
          ⟨some 95, .bin .gtr 3 (.tmp 94) (.const (.int .i64 100)), none⟩]) (.cond (.tmp 95) (.seq (
          .region [⟨some 2, .move (.const (.bool false)), none⟩]) (.ret)) (.skip)))) (
  .region [⟨some 87, .move (.tmp 4), none⟩,
    ⟨some 88, .bin .add 3 (.tmp 87) (.const (.int .i64 1)), none⟩,
    ⟨some 4, .move (.tmp 88), none⟩]))
def l8_2 : XCode := .seq (.seq (
      .region [⟨some 96, .move (.tmp 5), none⟩,
        ⟨some 97, .fieldAddr 37 (.tmp 1) 1, none⟩,
        ⟨some 98, .load 28 (.tmp 97), none⟩,
        ⟨some 99, .len 28 (.tmp 98), none⟩,
        ⟨some 100, .bin .lss 3 (.tmp 96) (.tmp 99), none⟩]) (.cond (.tmp 100) (.skip) (.exit 4))) (.seq (
    .block 5 (.seq (
        .region [⟨some 103, .fieldAddr 37 (.tmp 1) 1, none⟩,
          ⟨some 104, .load 28 (.tmp 103), none⟩,
          ⟨some 105, .move (.tmp 5), none⟩,
          ⟨some 106, .indexAddr 28 (.tmp 104) (.tmp 105), none⟩,
          ⟨some 107, .fieldAddr 52 (.tmp 106) 1, none⟩,
          ⟨some 108, .load 9 (.tmp 107), none⟩,
          ⟨some 109, .len 9 (.tmp 108), none⟩,
          ⟨some 110, .bin .gtr 3 (.tmp 109) (.const (.int .i64 100)), none⟩]) (.cond (.tmp 110) (.seq (
          .region [⟨some 2, .move (.const (.bool false)), none⟩]) (.ret)) (.skip)))) (
  .region [⟨some 101, .move (.tmp 5), none⟩,
    ⟨some 102, .bin .add 3 (.tmp 101) (.const (.int .i64 1)), none⟩,
    ⟨some 5, .move (.tmp 102), none⟩]))
def l8_3 : XCode := .seq (.seq (
      .region [⟨some 111, .move (.tmp 6), none⟩,
        ⟨some 112, .fieldAddr 37 (.tmp 1) 2, none⟩,
        ⟨some 113, .load 28 (.tmp 112), none⟩,
        ⟨some 114, .len 28 (.tmp 113), none⟩,
        ⟨some 115, .bin .lss 3 (.tmp 111) (.tmp 114), none⟩]) (.cond (.tmp 115) (.skip) (.exit 6))) (.seq (
    .block 7 (.seq (
        .region [⟨some 118, .fieldAddr 37 (.tmp 1) 2, none⟩,
          ⟨some 119, .load 28 (.tmp 118), none⟩,
          ⟨some 120, .move (.tmp 6), none⟩,
          ⟨some 121, .indexAddr 28 (.tmp 119) (.tmp 120), none⟩,
          ⟨some 122, .fieldAddr 52 (.tmp 121) 1, none⟩,
          ⟨some 123, .load 9 (.tmp 122), none⟩,
          ⟨some 124, .len 9 (.tmp 123), none⟩,
          ⟨some 125, .bin .gtr 3 (.tmp 124) (.const (.int .i64 100)), none⟩]) (.cond (.tmp 125) (.seq (
          .region [⟨some 2, .move (.const (.bool false)), none⟩]) (.ret)) (.skip)))) (
  .region [⟨some 116, .move (.tmp 6), none⟩,
    ⟨some 117, .bin .add 3 (.tmp 116) (.const (.int .i64 1)), none⟩,
    ⟨some 6, .move (.tmp 117), none⟩]))
def l8_4 : XCode := .seq (.seq (
      .region [⟨some 133, .move (.tmp 8), none⟩,
        ⟨some 134, .fieldAddr 37 (.tmp 1) 15, none⟩,
        ⟨some 135, .load 35 (.tmp 134), none⟩,
        ⟨some 136, .move (.tmp 7), none⟩,
        ⟨some 137, .indexAddr 35 (.tmp 135) (.tmp 136), none⟩,
        ⟨some 138, .fieldAddr 37 (.tmp 137) 15, none⟩,
        ⟨some 139, .load 35 (.tmp 138), none⟩,
        ⟨some 140, .len 35 (.tmp 139), none⟩,
        ⟨some 141, .bin .lss 3 (.tmp 133) (.tmp 140), none⟩]) (.cond (.tmp 141) (.skip) (.exit 10))) (.seq (
    .block 11 (.seq (
        .region [⟨some 144, .fieldAddr 37 (.tmp 1) 15, none⟩,
          ⟨some 145, .load 35 (.tmp 144), none⟩,
          ⟨some 146, .move (.tmp 7), none⟩,
          ⟨some 147, .indexAddr 35 (.tmp 145) (.tmp 146), none⟩,
          ⟨some 148, .fieldAddr 37 (.tmp 147) 15, none⟩,
          ⟨some 149, .load 35 (.tmp 148), none⟩,
          ⟨some 150, .move (.tmp 8), none⟩,
          ⟨some 151, .indexAddr 35 (.tmp 149) (.tmp 150), none⟩,
          ⟨some 152, .fieldAddr 37 (.tmp 151) 15, none⟩,
          ⟨some 153, .load 35 (.tmp 152), none⟩,
          ⟨some 154, .len 35 (.tmp 153), none⟩,
          ⟨some 155, .bin .gtr 3 (.tmp 154) (.const (.int .i64 0)), none⟩]) (.cond (.tmp 155) (.seq (
          .region [⟨some 2, .move (.const (.bool false)), none⟩]) (.ret)) (.skip)))) (
  .region [⟨some 142, .move (.tmp 8), none⟩,
    ⟨some 143, .bin .add 3 (.tmp 142) (.const (.int .i64 1)), none⟩,
    ⟨some 8, .move (.tmp 143), none⟩]))
def l8_5 : XCode := .seq (.seq (
      .region [⟨some 126, .move (.tmp 7), none⟩,
        ⟨some 127, .fieldAddr 37 (.tmp 1) 15, none⟩,
        ⟨some 128, .load 35 (.tmp 127), none⟩,
        ⟨some 129, .len 35 (.tmp 128), none⟩,
        ⟨some 130, .bin .lss 3 (.tmp 126) (.tmp 129), none⟩]) (.cond (.tmp 130) (.skip) (.exit 8))) (.seq (
    .block 9 (.seq (.seq (
          .region [⟨some 8, .move (.const (.int .i64 0)), none⟩]) (
        .block 10 (.loop l8_4))) (.seq (
        .region [⟨some 156, .fieldAddr 37 (.tmp 1) 15, none⟩,
          ⟨some 157, .load 35 (.tmp 156), none⟩,
          ⟨some 158, .move (.tmp 7), none⟩,
          ⟨some 159, .indexAddr 35 (.tmp 157) (.tmp 158), none⟩,
          ⟨some 160, .load 37 (.tmp 159), none⟩,
          ⟨some 161, .call 8 [.tmp 160], none⟩,
          ⟨some 162, .un .not (.tmp 161), none⟩]) (.cond (.tmp 162) (.seq (
          .region [⟨some 2, .move (.const (.bool false)), none⟩]) (.ret)) (.skip))))) (
  .region [⟨some 131, .move (.tmp 7), none⟩,
    ⟨some 132, .bin .add 3 (.tmp 131) (.const (.int .i64 1)), none⟩,
    ⟨some 7, .move (.tmp 132), none⟩]))
-- pandect/pandectref17.Few
noncomputable def c8 : Code := (Try.f8.body).getD .skip
def x8 : XCode := .seq (
    .region [⟨some 1, .box 37 (.tmp 0), none⟩,
      ⟨some 2, .move (.const (.bool false)), none⟩]) (.seq (.seq (
      .region [⟨some 9, .fieldAddr 37 (.tmp 1) 1, none⟩,
        ⟨some 10, .load 28 (.tmp 9), none⟩,
        ⟨some 11, .len 28 (.tmp 10), none⟩,
        ⟨some 12, .bin .gtr 3 (.tmp 11) (.const (.int .i64 12)), none⟩,
        ⟨some 13, .move (.tmp 12), none⟩,
        ⟨some 14, .fieldAddr 37 (.tmp 1) 2, some (some 13, false)⟩,
        ⟨some 15, .load 28 (.tmp 14), some (some 13, false)⟩,
        ⟨some 16, .len 28 (.tmp 15), some (some 13, false)⟩,
        ⟨some 17, .bin .gtr 3 (.tmp 16) (.const (.int .i64 12)), some (some 13, false)⟩,
        ⟨some 18, .pick (.tmp 13) (.const (.bool true)) (.tmp 17), none⟩,
        ⟨some 19, .move (.tmp 18), none⟩,
        ⟨some 20, .fieldAddr 37 (.tmp 1) 6, some (some 19, false)⟩,
        ⟨some 21, .load 32 (.tmp 20), some (some 19, false)⟩,
        ⟨some 22, .len 32 (.tmp 21), some (some 19, false)⟩,
        ⟨some 23, .bin .gtr 3 (.tmp 22) (.const (.int .i64 300)), some (some 19, false)⟩,
        ⟨some 24, .pick (.tmp 19) (.const (.bool true)) (.tmp 23), none⟩,
        ⟨some 25, .move (.tmp 24), none⟩,
        ⟨some 26, .fieldAddr 37 (.tmp 1) 7, some (some 25, false)⟩,
        ⟨some 27, .load 32 (.tmp 26), some (some 25, false)⟩,
        ⟨some 28, .len 32 (.tmp 27), some (some 25, false)⟩,
        ⟨some 29, .bin .gtr 3 (.tmp 28) (.const (.int .i64 300)), some (some 25, false)⟩,
        ⟨some 30, .pick (.tmp 25) (.const (.bool true)) (.tmp 29), none⟩,
        ⟨some 31, .move (.tmp 30), none⟩,
        ⟨some 32, .fieldAddr 37 (.tmp 1) 8, some (some 31, false)⟩,
        ⟨some 33, .load 9 (.tmp 32), some (some 31, false)⟩,
        ⟨some 34, .len 9 (.tmp 33), some (some 31, false)⟩,
        ⟨some 35, .bin .gtr 3 (.tmp 34) (.const (.int .i64 100)), some (some 31, false)⟩,
        ⟨some 36, .pick (.tmp 31) (.const (.bool true)) (.tmp 35), none⟩,
        ⟨some 37, .move (.tmp 36), none⟩,
        ⟨some 38, .fieldAddr 37 (.tmp 1) 9, some (some 37, false)⟩,
        ⟨some 39, .load 9 (.tmp 38), some (some 37, false)⟩,
        ⟨some 40, .len 9 (.tmp 39), some (some 37, false)⟩,
        ⟨some 41, .bin .gtr 3 (.tmp 40) (.const (.int .i64 100)), some (some 37, false)⟩,
        ⟨some 42, .pick (.tmp 37) (.const (.bool true)) (.tmp 41), none⟩,
        ⟨some 43, .move (.tmp 42), none⟩,
        ⟨some 44, .fieldAddr 37 (.tmp 1) 10, some (some 43, false)⟩,
        ⟨some 45, .fieldAddr 34 (.tmp 44) 2, some (some 43, false)⟩,
        ⟨some 46, .load 9 (.tmp 45), some (some 43, false)⟩,
        ⟨some 47, .len 9 (.tmp 46), some (some 43, false)⟩,
        ⟨some 48, .bin .gtr 3 (.tmp 47) (.const (.int .i64 100)), some (some 43, false)⟩,
        ⟨some 49, .pick (.tmp 43) (.const (.bool true)) (.tmp 48), none⟩,
        ⟨some 50, .move (.tmp 49), none⟩,
        ⟨some 51, .fieldAddr 37 (.tmp 1) 14, some (some 50, false)⟩,
        ⟨some 52, .load 9 (.tmp 51), some (some 50, false)⟩,
        ⟨some 53, .len 9 (.tmp 52), some (some 50, false)⟩,
        ⟨some 54, .bin .gtr 3 (.tmp 53) (.const (.int .i64 100)), some (some 50, false)⟩,
        ⟨some 55, .pick (.tmp 50) (.const (.bool true)) (.tmp 54), none⟩,
        ⟨some 56, .move (.tmp 55), none⟩,
        ⟨some 57, .fieldAddr 37 (.tmp 1) 15, some (some 56, false)⟩,
        ⟨some 58, .load 35 (.tmp 57), some (some 56, false)⟩,
        ⟨some 59, .len 35 (.tmp 58), some (some 56, false)⟩,
        ⟨some 60, .bin .gtr 3 (.tmp 59) (.const (.int .i64 2)), some (some 56, false)⟩,
        ⟨some 61, .pick (.tmp 56) (.const (.bool true)) (.tmp 60), none⟩,
        ⟨some 62, .move (.tmp 61), none⟩,
        ⟨some 63, .fieldAddr 37 (.tmp 1) 5, some (some 62, false)⟩,
        ⟨some 64, .load 27 (.tmp 63), some (some 62, false)⟩,
        ⟨some 65, .call 18 [.tmp 64, .const (.int .i64 30)], some (some 62, false)⟩,
        ⟨some 66, .un .not (.tmp 65), some (some 62, false)⟩,
        ⟨some 67, .pick (.tmp 62) (.const (.bool true)) (.tmp 66), none⟩]) (.cond (.tmp 67) (.seq (
        .region [⟨some 2, .move (.const (.bool false)), none⟩]) (.ret)) (.skip))) (.seq (.seq (
      .region [⟨some 3, .move (.const (.int .i64 0)), none⟩]) (
    .block 0 (.loop l8_0))) (.seq (.seq (
      .region [⟨some 4, .move (.const (.int .i64 0)), none⟩]) (
    .block 2 (.loop l8_1))) (.seq (.seq (
      .region [⟨some 5, .move (.const (.int .i64 0)), none⟩]) (
    .block 4 (.loop l8_2))) (.seq (.seq (
      .region [⟨some 6, .move (.const (.int .i64 0)), none⟩]) (
    .block 6 (.loop l8_3))) (.seq (.seq (
      .region [⟨some 7, .move (.const (.int .i64 0)), none⟩]) (
    .block 8 (.loop l8_5))) (.seq (
    .region [⟨some 2, .move (.const (.bool true)), none⟩]) (.ret))))))))
theorem xc8 : xc c8 = x8 := by kernel_rfl
theorem enter8 {w0 : World} {args : List AV} {H : AH} {Q : AV → AH → Prop} (hn : args.length ≤ 163) (h : H.WF → (∀ a ∈ args, a.Ok) → ∀ (R : APost), (∀ env' H' r, ares tt env' H' [.tmp 2] r → Leave H r H' Q → R .ret env' H') → (∀ env' H', R .ret env' H' → R .normal env' H') → awp Try.prog w0 tt 163 x8 (enumF 0 args) H R) : ACalls Try.prog w0 8 args H Q :=
  ACalls.enterK (c := c8) ttOk Try.func8 (by kernel_rfl) (by kernel_rfl) xc8 (by kernel_rfl) rfl hn h

def r9_0 : List XOp := [⟨some 27, .call 22 [], none⟩,
  ⟨some 28, .move (.tmp 2), none⟩,
  ⟨some 29, .index 60 (.tmp 27) (.tmp 28), none⟩,
  ⟨some 30, .load 27 (.tmp 3), none⟩,
  ⟨some 31, .load 23 (.tmp 9), none⟩,
  ⟨some 32, .callv (.tmp 29) [.tmp 30, .tmp 31], none⟩,
  ⟨some 26, .move (.tmp 32), none⟩,
  ⟨some 33, .extract (.tmp 26) 0, none⟩,
  ⟨some 34, .extract (.tmp 26) 1, none⟩,
  ⟨some 11, .alloc 57, none⟩,
  ⟨none, .store 57 (.tmp 11) (.tmp 33), none⟩,
  ⟨some 10, .move (.tmp 34), none⟩]
def q9_0 : List (List Nat) := [[], [], [0, 1], [], [], [2, 3, 4, 0], [5], [6], [6], [], [9, 7, 5, 0, 1, 2, 3, 4, 5, 6, 7, 9], [8, 10, 0, 1, 2, 3, 4, 5, 6, 7, 8, 9, 10]]
theorem dr9_0 {w0 : World} {N : Nat} (env : Env) (H : AH) (Q : APost) : awpC Try.prog w0 tt N (.draw r9_0 q9_0) Q env H = drunC Try.prog w0 tt 0 [⟨some 27, .call 22 [], none⟩,
  ⟨some 28, .move (.tmp 2), none⟩,
  ⟨some 29, .index 60 (.tmp 27) (.tmp 28), none⟩,
  ⟨some 30, .load 27 (.tmp 3), none⟩,
  ⟨some 31, .load 23 (.tmp 9), none⟩,
  ⟨some 32, .callv (.tmp 29) [.tmp 30, .tmp 31], none⟩,
  ⟨some 26, .move (.tmp 32), none⟩,
  ⟨some 33, .extract (.tmp 26) 0, none⟩,
  ⟨some 34, .extract (.tmp 26) 1, none⟩,
  ⟨some 11, .alloc 57, none⟩,
  ⟨none, .store 57 (.tmp 11) (.tmp 33), none⟩,
  ⟨some 10, .move (.tmp 34), none⟩] (dendC [(3, 9), (4, 9)] (Q .normal)) [] env H := awp_draw Try.prog w0 tt N (l := r9_0) (by kernel_rfl) (by kernel_rfl) (by kernel_rfl) mixed env H Q
def r9_1 : List XOp := [⟨some 39, .fieldAddr 57 (.tmp 11) 0, none⟩,
  ⟨some 40, .load 23 (.tmp 39), none⟩,
  ⟨some 41, .fieldAddr 57 (.tmp 11) 1, none⟩,
  ⟨some 42, .load 3 (.tmp 41), none⟩,
  ⟨none, .store 23 (.tmp 6) (.tmp 40), none⟩,
  ⟨some 7, .move (.tmp 42), none⟩,
  ⟨some 8, .move (.const (.int .i64 0)), none⟩]
def q9_1 : List (List Nat) := [[], [0], [], [2], [1, 0, 1], [3, 4, 0, 1, 2, 3, 4], [5, 0, 1, 2, 3, 4, 5]]
theorem dr9_1 {w0 : World} {N : Nat} (env : Env) (H : AH) (Q : APost) : awpC Try.prog w0 tt N (.draw r9_1 q9_1) Q env H = drunC Try.prog w0 tt 0 [⟨some 39, .fieldAddr 57 (.tmp 11) 0, none⟩,
  ⟨some 40, .load 23 (.tmp 39), none⟩,
  ⟨some 41, .fieldAddr 57 (.tmp 11) 1, none⟩,
  ⟨some 42, .load 3 (.tmp 41), none⟩,
  ⟨none, .store 23 (.tmp 6) (.tmp 40), none⟩,
  ⟨some 7, .move (.tmp 42), none⟩,
  ⟨some 8, .move (.const (.int .i64 0)), none⟩] (dendC [(3, 4)] (Q .normal)) [] env H := awp_draw Try.prog w0 tt N (l := r9_1) (by kernel_rfl) (by kernel_rfl) (by kernel_rfl) mixed env H Q
-- pandect/target.InsertionPoint
noncomputable def c9 : Code := (Try.f9.body).getD .skip
def x9 : XCode := .seq (
    .region [⟨some 3, .box 27 (.tmp 0), none⟩,
      ⟨some 6, .alloc 23, none⟩,
      ⟨some 7, .move (.const (.int .i64 0)), none⟩,
      ⟨some 8, .move (.const (.int .i64 0)), none⟩]) (.seq (.seq (
      .region [⟨some 12, .move (.tmp 2), none⟩,
        ⟨some 13, .call 20 [.tmp 12], none⟩,
        ⟨some 14, .un .not (.tmp 13), none⟩]) (.cond (.tmp 14) (.seq (
        .region [⟨some 15, .build 23 [], none⟩,
          ⟨none, .store 23 (.tmp 6) (.tmp 15), none⟩,
          ⟨some 7, .move (.const (.int .i64 0)), none⟩,
          ⟨some 8, .move (.const (.int .i64 1)), none⟩]) (.ret)) (.skip))) (.seq (
    .region [⟨some 17, .load 27 (.tmp 3), none⟩,
      ⟨some 18, .move (.tmp 1), none⟩,
      ⟨some 19, .call 21 [.tmp 17, .tmp 18], none⟩,
      ⟨some 16, .move (.tmp 19), none⟩,
      ⟨some 20, .extract (.tmp 16) 0, none⟩,
      ⟨some 21, .extract (.tmp 16) 1, none⟩,
      ⟨some 9, .alloc 23, none⟩,
      ⟨none, .store 23 (.tmp 9) (.tmp 20), none⟩,
      ⟨some 10, .move (.tmp 21), none⟩]) (.seq (.seq (
      .region [⟨some 22, .move (.tmp 10), none⟩,
        ⟨some 23, .bin .neq 38 (.tmp 22) (.const (.int .i64 0)), none⟩]) (.cond (.tmp 23) (.seq (
        .region [⟨some 24, .build 23 [], none⟩,
          ⟨some 25, .move (.tmp 10), none⟩,
          ⟨none, .store 23 (.tmp 6) (.tmp 24), none⟩,
          ⟨some 7, .move (.const (.int .i64 0)), none⟩,
          ⟨some 8, .move (.tmp 25), none⟩]) (.ret)) (.skip))) (.seq (
    .draw r9_0 q9_0) (.seq (.seq (
      .region [⟨some 35, .move (.tmp 10), none⟩,
        ⟨some 36, .bin .neq 38 (.tmp 35) (.const (.int .i64 0)), none⟩]) (.cond (.tmp 36) (.seq (
        .region [⟨some 37, .build 23 [], none⟩,
          ⟨some 38, .move (.tmp 10), none⟩,
          ⟨none, .store 23 (.tmp 6) (.tmp 37), none⟩,
          ⟨some 7, .move (.const (.int .i64 0)), none⟩,
          ⟨some 8, .move (.tmp 38), none⟩]) (.ret)) (.skip))) (.seq (
    .draw r9_1 q9_1) (.ret)))))))
theorem xc9 : xc c9 = x9 := by kernel_rfl
theorem enter9 {w0 : World} {args : List AV} {H : AH} {Q : AV → AH → Prop} (hn : args.length ≤ 43) (h : H.WF → (∀ a ∈ args, a.Ok) → ∀ (R : APost), (∀ env' H' r, ares tt env' H' [.cell 6 23, .tmp 7, .tmp 8] r → Leave H r H' Q → R .ret env' H') → (∀ env' H', R .ret env' H' → R .normal env' H') → awp Try.prog w0 tt 43 x9 (enumF 0 args) H R) : ACalls Try.prog w0 9 args H Q :=
  ACalls.enterK (c := c9) ttOk Try.func9 (by kernel_rfl) (by kernel_rfl) xc9 (by kernel_rfl) rfl hn h

def r10_0 : List XOp := [⟨some 44, .load 23 (.tmp 9), none⟩,
  ⟨some 45, .fieldAddr 27 (.tmp 11) 5, none⟩,
  ⟨some 46, .load 25 (.tmp 45), none⟩,
  ⟨some 47, .len 25 (.tmp 46), none⟩,
  ⟨none, .store 23 (.tmp 6) (.tmp 44), none⟩,
  ⟨some 7, .move (.tmp 47), none⟩,
  ⟨some 8, .move (.const (.int .i64 0)), none⟩]
def q10_0 : List (List Nat) := [[], [], [1], [2], [0, 0], [3, 4, 0, 1, 2, 3, 4], [5, 0, 1, 2, 3, 4, 5]]
theorem dr10_0 {w0 : World} {N : Nat} (env : Env) (H : AH) (Q : APost) : awpC Try.prog w0 tt N (.draw r10_0 q10_0) Q env H = drunC Try.prog w0 tt 0 [⟨some 44, .load 23 (.tmp 9), none⟩,
  ⟨some 45, .fieldAddr 27 (.tmp 11) 5, none⟩,
  ⟨some 46, .load 25 (.tmp 45), none⟩,
  ⟨some 47, .len 25 (.tmp 46), none⟩,
  ⟨none, .store 23 (.tmp 6) (.tmp 44), none⟩,
  ⟨some 7, .move (.tmp 47), none⟩,
  ⟨some 8, .move (.const (.int .i64 0)), none⟩] (dendC [(2, 4)] (Q .normal)) [] env H := awp_draw Try.prog w0 tt N (l := r10_0) (by kernel_rfl) (by kernel_rfl) (by kernel_rfl) mixed env H Q
-- pandect/pandectref21.Where
noncomputable def c10 : Code := (Try.f10.body).getD .skip
def x10 : XCode := .seq (
    .region [⟨some 3, .box 27 (.tmp 0), none⟩,
      ⟨some 6, .alloc 23, none⟩,
      ⟨some 7, .move (.const (.int .i64 0)), none⟩,
      ⟨some 8, .move (.const (.int .i64 0)), none⟩]) (.seq (.seq (
      .region [⟨some 16, .move (.tmp 2), none⟩,
        ⟨some 17, .bin .lss 3 (.tmp 16) (.const (.int .i64 0)), none⟩,
        ⟨some 18, .move (.tmp 17), none⟩,
        ⟨some 19, .move (.tmp 2), some (some 18, false)⟩,
        ⟨some 20, .bin .gtr 3 (.tmp 19) (.const (.int .i64 3)), some (some 18, false)⟩,
        ⟨some 21, .pick (.tmp 18) (.const (.bool true)) (.tmp 20), none⟩]) (.cond (.tmp 21) (.seq (
        .region [⟨some 22, .build 23 [], none⟩,
          ⟨none, .store 23 (.tmp 6) (.tmp 22), none⟩,
          ⟨some 7, .move (.const (.int .i64 0)), none⟩,
          ⟨some 8, .move (.const (.int .i64 1)), none⟩]) (.ret)) (.skip))) (.seq (
    .region [⟨some 24, .load 27 (.tmp 3), none⟩,
      ⟨some 25, .move (.tmp 1), none⟩,
      ⟨some 26, .call 12 [.tmp 24, .tmp 25], none⟩,
      ⟨some 23, .move (.tmp 26), none⟩,
      ⟨some 27, .extract (.tmp 23) 0, none⟩,
      ⟨some 28, .extract (.tmp 23) 1, none⟩,
      ⟨some 9, .alloc 23, none⟩,
      ⟨none, .store 23 (.tmp 9) (.tmp 27), none⟩,
      ⟨some 10, .move (.tmp 28), none⟩]) (.seq (.seq (
      .region [⟨some 29, .move (.tmp 10), none⟩,
        ⟨some 30, .bin .neq 38 (.tmp 29) (.const (.int .i64 0)), none⟩]) (.cond (.tmp 30) (.seq (
        .region [⟨some 31, .build 23 [], none⟩,
          ⟨some 32, .move (.tmp 10), none⟩,
          ⟨none, .store 23 (.tmp 6) (.tmp 31), none⟩,
          ⟨some 7, .move (.const (.int .i64 0)), none⟩,
          ⟨some 8, .move (.tmp 32), none⟩]) (.ret)) (.skip))) (.seq (
    .region [⟨some 34, .load 27 (.tmp 3), none⟩,
      ⟨some 35, .load 23 (.tmp 9), none⟩,
      ⟨some 36, .call 23 [.tmp 34, .tmp 35], none⟩,
      ⟨some 33, .move (.tmp 36), none⟩,
      ⟨some 37, .extract (.tmp 33) 0, none⟩,
      ⟨some 38, .extract (.tmp 33) 1, none⟩,
      ⟨some 11, .alloc 27, none⟩,
      ⟨none, .store 27 (.tmp 11) (.tmp 37), none⟩,
      ⟨some 12, .move (.tmp 38), none⟩]) (.seq (.seq (
      .region [⟨some 39, .move (.tmp 2), none⟩,
        ⟨some 40, .bin .eql 3 (.tmp 39) (.const (.int .i64 0)), none⟩]) (.cond (.tmp 40) (.seq (
        .region [⟨some 41, .load 23 (.tmp 9), none⟩,
          ⟨none, .store 23 (.tmp 6) (.tmp 41), none⟩,
          ⟨some 7, .move (.const (.int .i64 0)), none⟩,
          ⟨some 8, .move (.const (.int .i64 0)), none⟩]) (.ret)) (.skip))) (.seq (.seq (
      .region [⟨some 42, .move (.tmp 2), none⟩,
        ⟨some 43, .bin .eql 3 (.tmp 42) (.const (.int .i64 1)), none⟩]) (.cond (.tmp 43) (.seq (
        .draw r10_0 q10_0) (.ret)) (.skip))) (.seq (.seq (
      .region [⟨some 48, .load 23 (.tmp 9), none⟩,
        ⟨some 49, .fieldAddr 27 (.tmp 3) 0, none⟩,
        ⟨some 50, .load 23 (.tmp 49), none⟩,
        ⟨some 51, .bin .eql 23 (.tmp 48) (.tmp 50), none⟩]) (.cond (.tmp 51) (.seq (
        .region [⟨some 52, .build 23 [], none⟩,
          ⟨none, .store 23 (.tmp 6) (.tmp 52), none⟩,
          ⟨some 7, .move (.const (.int .i64 0)), none⟩,
          ⟨some 8, .move (.const (.int .i64 9)), none⟩]) (.ret)) (.skip))) (.seq (
    .region [⟨some 54, .load 27 (.tmp 3), none⟩,
      ⟨some 55, .load 23 (.tmp 9), none⟩,
      ⟨some 56, .call 24 [.tmp 54, .tmp 55], none⟩,
      ⟨some 53, .move (.tmp 56), none⟩,
      ⟨some 57, .extract (.tmp 53) 0, none⟩,
      ⟨some 58, .extract (.tmp 53) 1, none⟩,
      ⟨some 59, .extract (.tmp 53) 2, none⟩,
      ⟨some 13, .alloc 23, none⟩,
      ⟨none, .store 23 (.tmp 13) (.tmp 57), none⟩,
      ⟨some 14, .move (.tmp 58), none⟩,
      ⟨some 15, .move (.tmp 59), none⟩]) (.seq (.seq (
      .region [⟨some 60, .move (.tmp 2), none⟩,
        ⟨some 61, .bin .eql 3 (.tmp 60) (.const (.int .i64 2)), none⟩]) (.cond (.tmp 61) (
      .region [⟨some 62, .move (.tmp 14), none⟩,
        ⟨some 63, .bin .add 3 (.tmp 62) (.const (.int .i64 1)), none⟩,
        ⟨some 14, .move (.tmp 63), none⟩]) (.skip))) (.seq (
    .region [⟨some 64, .load 23 (.tmp 13), none⟩,
      ⟨some 65, .move (.tmp 14), none⟩,
      ⟨none, .store 23 (.tmp 6) (.tmp 64), none⟩,
      ⟨some 7, .move (.tmp 65), none⟩,
      ⟨some 8, .move (.const (.int .i64 0)), none⟩]) (.ret)))))))))))
theorem xc10 : xc c10 = x10 := by kernel_rfl
theorem enter10 {w0 : World} {args : List AV} {H : AH} {Q : AV → AH → Prop} (hn : args.length ≤ 66) (h : H.WF → (∀ a ∈ args, a.Ok) → ∀ (R : APost), (∀ env' H' r, ares tt env' H' [.cell 6 23, .tmp 7, .tmp 8] r → Leave H r H' Q → R .ret env' H') → (∀ env' H', R .ret env' H' → R .normal env' H') → awp Try.prog w0 tt 66 x10 (enumF 0 args) H R) : ACalls Try.prog w0 10 args H Q :=
  ACalls.enterK (c := c10) ttOk Try.func10 (by kernel_rfl) (by kernel_rfl) xc10 (by kernel_rfl) rfl hn h

-- pandect/target.Find
noncomputable def c11 : Code := (Try.f11.body).getD .skip
def x11 : XCode := .seq (
    .region [⟨some 2, .box 27 (.tmp 0), none⟩,
      ⟨some 3, .box 37 (.tmp 1), none⟩,
      ⟨some 4, .alloc 23, none⟩,
      ⟨some 5, .move (.const (.int .i64 0)), none⟩]) (.seq (
    .region [⟨some 6, .load 27 (.tmp 2), none⟩,
      ⟨some 7, .fieldAddr 37 (.tmp 3) 1, none⟩,
      ⟨some 8, .load 28 (.tmp 7), none⟩,
      ⟨some 9, .call 21 [.tmp 6, .tmp 8], none⟩,
      ⟨some 10, .extract (.tmp 9) 0, none⟩,
      ⟨some 11, .extract (.tmp 9) 1, none⟩,
      ⟨none, .store 23 (.tmp 4) (.tmp 10), none⟩,
      ⟨some 5, .move (.tmp 11), none⟩]) (.ret))
theorem xc11 : xc c11 = x11 := by kernel_rfl
theorem enter11 {w0 : World} {args : List AV} {H : AH} {Q : AV → AH → Prop} (hn : args.length ≤ 12) (h : H.WF → (∀ a ∈ args, a.Ok) → ∀ (R : APost), (∀ env' H' r, ares tt env' H' [.cell 4 23, .tmp 5] r → Leave H r H' Q → R .ret env' H') → (∀ env' H', R .ret env' H' → R .normal env' H') → awp Try.prog w0 tt 12 x11 (enumF 0 args) H R) : ACalls Try.prog w0 11 args H Q :=
  ACalls.enterK (c := c11) ttOk Try.func11 (by kernel_rfl) (by kernel_rfl) xc11 (by kernel_rfl) rfl hn h

-- pandect/pandectref07.One
noncomputable def c12 : Code := (Try.f12.body).getD .skip
def x12 : XCode := .seq (
    .region [⟨some 2, .box 27 (.tmp 0), none⟩,
      ⟨some 4, .alloc 23, none⟩,
      ⟨some 5, .move (.const (.int .i64 0)), none⟩]) (.seq (
    .region [⟨some 7, .load 27 (.tmp 2), none⟩,
      ⟨some 8, .move (.tmp 1), none⟩,
      ⟨some 9, .call 15 [.tmp 7, .tmp 8], none⟩,
      ⟨some 6, .move (.tmp 9), none⟩]) (.seq (.seq (
      .region [⟨some 10, .move (.tmp 6), none⟩,
        ⟨some 11, .len 46 (.tmp 10), none⟩,
        ⟨some 12, .bin .eql 3 (.tmp 11) (.const (.int .i64 0)), none⟩]) (.cond (.tmp 12) (.seq (
        .region [⟨some 13, .build 23 [], none⟩,
          ⟨none, .store 23 (.tmp 4) (.tmp 13), none⟩,
          ⟨some 5, .move (.const (.int .i64 7)), none⟩]) (.ret)) (.skip))) (.seq (.seq (
      .region [⟨some 14, .move (.tmp 6), none⟩,
        ⟨some 15, .len 46 (.tmp 14), none⟩,
        ⟨some 16, .bin .gtr 3 (.tmp 15) (.const (.int .i64 1)), none⟩]) (.cond (.tmp 16) (.seq (
        .region [⟨some 17, .build 23 [], none⟩,
          ⟨none, .store 23 (.tmp 4) (.tmp 17), none⟩,
          ⟨some 5, .move (.const (.int .i64 8)), none⟩]) (.ret)) (.skip))) (.seq (
    .region [⟨some 18, .move (.tmp 6), none⟩,
      ⟨some 19, .indexAddr 46 (.tmp 18) (.const (.int .i64 0)), none⟩,
      ⟨some 20, .load 23 (.tmp 19), none⟩,
      ⟨none, .store 23 (.tmp 4) (.tmp 20), none⟩,
      ⟨some 5, .move (.const (.int .i64 0)), none⟩]) (.ret)))))
theorem xc12 : xc c12 = x12 := by kernel_rfl
theorem enter12 {w0 : World} {args : List AV} {H : AH} {Q : AV → AH → Prop} (hn : args.length ≤ 21) (h : H.WF → (∀ a ∈ args, a.Ok) → ∀ (R : APost), (∀ env' H' r, ares tt env' H' [.cell 4 23, .tmp 5] r → Leave H r H' Q → R .ret env' H') → (∀ env' H', R .ret env' H' → R .normal env' H') → awp Try.prog w0 tt 21 x12 (enumF 0 args) H R) : ACalls Try.prog w0 12 args H Q :=
  ACalls.enterK (c := c12) ttOk Try.func12 (by kernel_rfl) (by kernel_rfl) xc12 (by kernel_rfl) rfl hn h

def r13_0 : List XOp := [⟨some 17, .move (.tmp 0), none⟩,
  ⟨some 18, .move (.tmp 5), none⟩,
  ⟨some 19, .indexAddr 46 (.tmp 17) (.tmp 18), none⟩,
  ⟨some 20, .load 23 (.tmp 19), none⟩,
  ⟨some 21, .move (.tmp 1), none⟩,
  ⟨some 22, .move (.tmp 5), none⟩,
  ⟨some 23, .indexAddr 46 (.tmp 21) (.tmp 22), none⟩,
  ⟨some 24, .load 23 (.tmp 23), none⟩,
  ⟨some 25, .bin .neq 23 (.tmp 20) (.tmp 24), none⟩]
def q13_0 : List (List Nat) := [[], [], [0, 1], [2], [], [], [4, 5], [6], [3, 7]]
theorem dr13_0 {w0 : World} {N : Nat} (env : Env) (H : AH) (Q : APost) : awpC Try.prog w0 tt N (.draw r13_0 q13_0) Q env H = drunC Try.prog w0 tt 0 [⟨some 17, .move (.tmp 0), none⟩,
  ⟨some 18, .move (.tmp 5), none⟩,
  ⟨some 19, .indexAddr 46 (.tmp 17) (.tmp 18), none⟩,
  ⟨some 20, .load 23 (.tmp 19), none⟩,
  ⟨some 21, .move (.tmp 1), none⟩,
  ⟨some 22, .move (.tmp 5), none⟩,
  ⟨some 23, .indexAddr 46 (.tmp 21) (.tmp 22), none⟩,
  ⟨some 24, .load 23 (.tmp 23), none⟩,
  ⟨some 25, .bin .neq 23 (.tmp 20) (.tmp 24), none⟩] (dendC [] (Q .normal)) [] env H := awp_draw Try.prog w0 tt N (l := r13_0) (by kernel_rfl) (by kernel_rfl) (by kernel_rfl) mixed env H Q
def l13_0 : XCode := .seq (.seq (
      .region [⟨some 11, .move (.tmp 5), none⟩,
        ⟨some 12, .move (.tmp 0), none⟩,
        ⟨some 13, .len 46 (.tmp 12), none⟩,
        ⟨some 14, .bin .lss 3 (.tmp 11) (.tmp 13), none⟩]) (.cond (.tmp 14) (.skip) (.exit 0))) (.seq (
    .block 1 (.seq (
        .draw r13_0 q13_0) (.cond (.tmp 25) (.seq (
          .region [⟨some 4, .move (.const (.bool false)), none⟩]) (.ret)) (.skip)))) (
  .region [⟨some 15, .move (.tmp 5), none⟩,
    ⟨some 16, .bin .add 3 (.tmp 15) (.const (.int .i64 1)), none⟩,
    ⟨some 5, .move (.tmp 16), none⟩]))
-- pandect/pandectref07.Ids
noncomputable def c13 : Code := (Try.f13.body).getD .skip
def x13 : XCode := .seq (
    .region [⟨some 4, .move (.const (.bool false)), none⟩]) (.seq (.seq (
      .region [⟨some 6, .move (.tmp 0), none⟩,
        ⟨some 7, .len 46 (.tmp 6), none⟩,
        ⟨some 8, .move (.tmp 1), none⟩,
        ⟨some 9, .len 46 (.tmp 8), none⟩,
        ⟨some 10, .bin .neq 3 (.tmp 7) (.tmp 9), none⟩]) (.cond (.tmp 10) (.seq (
        .region [⟨some 4, .move (.const (.bool false)), none⟩]) (.ret)) (.skip))) (.seq (.seq (
      .region [⟨some 5, .move (.const (.int .i64 0)), none⟩]) (
    .block 0 (.loop l13_0))) (.seq (
    .region [⟨some 4, .move (.const (.bool true)), none⟩]) (.ret))))
theorem xc13 : xc c13 = x13 := by kernel_rfl
theorem enter13 {w0 : World} {args : List AV} {H : AH} {Q : AV → AH → Prop} (hn : args.length ≤ 26) (h : H.WF → (∀ a ∈ args, a.Ok) → ∀ (R : APost), (∀ env' H' r, ares tt env' H' [.tmp 4] r → Leave H r H' Q → R .ret env' H') → (∀ env' H', R .ret env' H' → R .normal env' H') → awp Try.prog w0 tt 26 x13 (enumF 0 args) H R) : ACalls Try.prog w0 13 args H Q :=
  ACalls.enterK (c := c13) ttOk Try.func13 (by kernel_rfl) (by kernel_rfl) xc13 (by kernel_rfl) rfl hn h

-- pandect/target.FindAll
noncomputable def c14 : Code := (Try.f14.body).getD .skip
def x14 : XCode := .seq (
    .region [⟨some 2, .box 27 (.tmp 0), none⟩,
      ⟨some 4, .move (.const (.slice none 0 0)), none⟩]) (.seq (
    .region [⟨some 5, .load 27 (.tmp 2), none⟩,
      ⟨some 6, .move (.tmp 1), none⟩,
      ⟨some 7, .call 25 [.tmp 5, .tmp 6], none⟩,
      ⟨some 4, .move (.tmp 7), none⟩]) (.ret))
theorem xc14 : xc c14 = x14 := by kernel_rfl
theorem enter14 {w0 : World} {args : List AV} {H : AH} {Q : AV → AH → Prop} (hn : args.length ≤ 8) (h : H.WF → (∀ a ∈ args, a.Ok) → ∀ (R : APost), (∀ env' H' r, ares tt env' H' [.tmp 4] r → Leave H r H' Q → R .ret env' H') → (∀ env' H', R .ret env' H' → R .normal env' H') → awp Try.prog w0 tt 8 x14 (enumF 0 args) H R) : ACalls Try.prog w0 14 args H Q :=
  ACalls.enterK (c := c14) ttOk Try.func14 (by kernel_rfl) (by kernel_rfl) xc14 (by kernel_rfl) rfl hn h

def l15_0 : XCode := .seq (.seq (
      .region [⟨some 12, .move (.tmp 7), none⟩,
        ⟨some 13, .move (.tmp 6), none⟩,
        ⟨some 14, .len 25 (.tmp 13), none⟩,
        ⟨some 15, .bin .lss 3 (.tmp 12) (.tmp 14), none⟩]) (.cond (.tmp 15) (.skip) (.exit 0))) (.seq (
    .block 1 (
      .region [⟨some 18, .move (.tmp 5), none⟩,
        ⟨some 19, .move (.tmp 6), none⟩,
        ⟨some 20, .move (.tmp 7), none⟩,
        ⟨some 21, .indexAddr 25 (.tmp 19) (.tmp 20), none⟩,
        ⟨some 22, .fieldAddr 27 (.tmp 21) 0, none⟩,
        ⟨some 23, .load 23 (.tmp 22), none⟩,
        ⟨some 24, .buildSlice 46 1 [(0, .tmp 23)], none⟩,
        ⟨some 25, .append 46 (.tmp 18) (.tmp 24), none⟩,
        ⟨some 5, .move (.tmp 25), none⟩])) (
  .region [⟨some 16, .move (.tmp 7), none⟩,
    ⟨some 17, .bin .add 3 (.tmp 16) (.const (.int .i64 1)), none⟩,
    ⟨some 7, .move (.tmp 17), none⟩]))
-- pandect/pandectref07.Find
noncomputable def c15 : Code := (Try.f15.body).getD .skip
def x15 : XCode := .seq (
    .region [⟨some 2, .box 27 (.tmp 0), none⟩,
      ⟨some 4, .move (.const (.slice none 0 0)), none⟩]) (.seq (
    .region [⟨some 8, .buildSlice 46 0 [], none⟩,
      ⟨some 5, .move (.tmp 8), none⟩]) (.seq (
    .region [⟨some 9, .load 27 (.tmp 2), none⟩,
      ⟨some 10, .move (.tmp 1), none⟩,
      ⟨some 11, .call 26 [.tmp 9, .tmp 10], none⟩,
      ⟨some 6, .move (.tmp 11), none⟩]) (.seq (.seq (
      .region [⟨some 7, .move (.const (.int .i64 0)), none⟩]) (
    .block 0 (.loop l15_0))) (.seq (
    .region [⟨some 26, .move (.tmp 5), none⟩,
      ⟨some 4, .move (.tmp 26), none⟩]) (.ret)))))
theorem xc15 : xc c15 = x15 := by kernel_rfl
theorem enter15 {w0 : World} {args : List AV} {H : AH} {Q : AV → AH → Prop} (hn : args.length ≤ 27) (h : H.WF → (∀ a ∈ args, a.Ok) → ∀ (R : APost), (∀ env' H' r, ares tt env' H' [.tmp 4] r → Leave H r H' Q → R .ret env' H') → (∀ env' H', R .ret env' H' → R .normal env' H') → awp Try.prog w0 tt 27 x15 (enumF 0 args) H R) : ACalls Try.prog w0 15 args H Q :=
  ACalls.enterK (c := c15) ttOk Try.func15 (by kernel_rfl) (by kernel_rfl) xc15 (by kernel_rfl) rfl hn h

def r16_0 : List XOp := [⟨some 68, .fieldAddr 57 (.tmp 10) 0, none⟩,
  ⟨some 69, .load 23 (.tmp 68), none⟩,
  ⟨some 70, .fieldAddr 57 (.tmp 10) 1, none⟩,
  ⟨some 71, .load 3 (.tmp 70), none⟩,
  ⟨none, .store 23 (.tmp 4) (.tmp 69), none⟩,
  ⟨some 5, .move (.tmp 71), none⟩,
  ⟨some 6, .move (.const (.int .i64 0)), none⟩]
def q16_0 : List (List Nat) := [[], [0], [], [2], [1, 0, 1], [3, 4, 0, 1, 2, 3, 4], [5, 0, 1, 2, 3, 4, 5]]
theorem dr16_0 {w0 : World} {N : Nat} (env : Env) (H : AH) (Q : APost) : awpC Try.prog w0 tt N (.draw r16_0 q16_0) Q env H = drunC Try.prog w0 tt 0 [⟨some 68, .fieldAddr 57 (.tmp 10) 0, none⟩,
  ⟨some 69, .load 23 (.tmp 68), none⟩,
  ⟨some 70, .fieldAddr 57 (.tmp 10) 1, none⟩,
  ⟨some 71, .load 3 (.tmp 70), none⟩,
  ⟨none, .store 23 (.tmp 4) (.tmp 69), none⟩,
  ⟨some 5, .move (.tmp 71), none⟩,
  ⟨some 6, .move (.const (.int .i64 0)), none⟩] (dendC [(3, 4)] (Q .normal)) [] env H := awp_draw Try.prog w0 tt N (l := r16_0) (by kernel_rfl) (by kernel_rfl) (by kernel_rfl) mixed env H Q
-- pandect/target.Destination
noncomputable def c16 : Code := (Try.f16.body).getD .skip
def x16 : XCode := .seq (
    .region [⟨some 2, .box 27 (.tmp 0), none⟩,
      ⟨some 3, .box 37 (.tmp 1), none⟩,
      ⟨some 4, .alloc 23, none⟩,
      ⟨some 5, .move (.const (.int .i64 0)), none⟩,
      ⟨some 6, .move (.const (.int .i64 0)), none⟩]) (.seq (.seq (
      .region [⟨some 11, .fieldAddr 37 (.tmp 3) 0, none⟩,
        ⟨some 12, .load 3 (.tmp 11), none⟩,
        ⟨some 13, .bin .eql 3 (.tmp 12) (.const (.int .i64 0)), none⟩]) (.cond (.tmp 13) (.seq (
        .region [⟨some 14, .load 27 (.tmp 2), none⟩,
          ⟨some 15, .fieldAddr 37 (.tmp 3) 1, none⟩,
          ⟨some 16, .load 28 (.tmp 15), none⟩,
          ⟨some 17, .fieldAddr 37 (.tmp 3) 3, none⟩,
          ⟨some 18, .load 3 (.tmp 17), none⟩,
          ⟨some 19, .call 9 [.tmp 14, .tmp 16, .tmp 18], none⟩,
          ⟨some 20, .extract (.tmp 19) 0, none⟩,
          ⟨some 21, .extract (.tmp 19) 1, none⟩,
          ⟨some 22, .extract (.tmp 19) 2, none⟩,
          ⟨none, .store 23 (.tmp 4) (.tmp 20), none⟩,
          ⟨some 5, .move (.tmp 21), none⟩,
          ⟨some 6, .move (.tmp 22), none⟩]) (.ret)) (.skip))) (.seq (.seq (
      .region [⟨some 23, .fieldAddr 37 (.tmp 3) 0, none⟩,
        ⟨some 24, .load 3 (.tmp 23), none⟩,
        ⟨some 25, .bin .neq 3 (.tmp 24) (.const (.int .i64 6)), none⟩,
        ⟨some 26, .move (.tmp 25), none⟩,
        ⟨some 27, .fieldAddr 37 (.tmp 3) 3, some (some 26, false)⟩,
        ⟨some 28, .load 3 (.tmp 27), some (some 26, false)⟩,
        ⟨some 29, .call 20 [.tmp 28], some (some 26, false)⟩,
        ⟨some 30, .un .not (.tmp 29), some (some 26, false)⟩,
        ⟨some 31, .pick (.tmp 26) (.const (.bool true)) (.tmp 30), none⟩]) (.cond (.tmp 31) (.seq (
        .region [⟨some 32, .build 23 [], none⟩,
          ⟨none, .store 23 (.tmp 4) (.tmp 32), none⟩,
          ⟨some 5, .move (.const (.int .i64 0)), none⟩,
          ⟨some 6, .move (.const (.int .i64 1)), none⟩]) (.ret)) (.skip))) (.seq (
    .region [⟨some 34, .load 27 (.tmp 2), none⟩,
      ⟨some 35, .fieldAddr 37 (.tmp 3) 1, none⟩,
      ⟨some 36, .load 28 (.tmp 35), none⟩,
      ⟨some 37, .call 21 [.tmp 34, .tmp 36], none⟩,
      ⟨some 33, .move (.tmp 37), none⟩,
      ⟨some 38, .extract (.tmp 33) 0, none⟩,
      ⟨some 39, .extract (.tmp 33) 1, none⟩,
      ⟨some 7, .alloc 23, none⟩,
      ⟨none, .store 23 (.tmp 7) (.tmp 38), none⟩,
      ⟨some 8, .move (.tmp 39), none⟩]) (.seq (.seq (
      .region [⟨some 40, .move (.tmp 8), none⟩,
        ⟨some 41, .bin .neq 38 (.tmp 40) (.const (.int .i64 0)), none⟩]) (.cond (.tmp 41) (.seq (
        .region [⟨some 42, .build 23 [], none⟩,
          ⟨some 43, .move (.tmp 8), none⟩,
          ⟨none, .store 23 (.tmp 4) (.tmp 42), none⟩,
          ⟨some 5, .move (.const (.int .i64 0)), none⟩,
          ⟨some 6, .move (.tmp 43), none⟩]) (.ret)) (.skip))) (.seq (
    .region [⟨some 45, .load 27 (.tmp 2), none⟩,
      ⟨some 46, .fieldAddr 37 (.tmp 3) 2, none⟩,
      ⟨some 47, .load 28 (.tmp 46), none⟩,
      ⟨some 48, .call 21 [.tmp 45, .tmp 47], none⟩,
      ⟨some 44, .move (.tmp 48), none⟩,
      ⟨some 49, .extract (.tmp 44) 0, none⟩,
      ⟨some 50, .extract (.tmp 44) 1, none⟩,
      ⟨some 9, .alloc 23, none⟩,
      ⟨none, .store 23 (.tmp 9) (.tmp 49), none⟩,
      ⟨some 8, .move (.tmp 50), none⟩]) (.seq (.seq (
      .region [⟨some 51, .move (.tmp 8), none⟩,
        ⟨some 52, .bin .neq 38 (.tmp 51) (.const (.int .i64 0)), none⟩]) (.cond (.tmp 52) (.seq (
        .region [⟨some 53, .build 23 [], none⟩,
          ⟨some 54, .move (.tmp 8), none⟩,
          ⟨none, .store 23 (.tmp 4) (.tmp 53), none⟩,
          ⟨some 5, .move (.const (.int .i64 0)), none⟩,
          ⟨some 6, .move (.tmp 54), none⟩]) (.ret)) (.skip))) (.seq (
    .region [⟨some 56, .load 27 (.tmp 2), none⟩,
      ⟨some 57, .load 23 (.tmp 7), none⟩,
      ⟨some 58, .load 23 (.tmp 9), none⟩,
      ⟨some 59, .fieldAddr 37 (.tmp 3) 3, none⟩,
      ⟨some 60, .load 3 (.tmp 59), none⟩,
      ⟨some 61, .call 27 [.tmp 56, .tmp 57, .tmp 58, .tmp 60], none⟩,
      ⟨some 55, .move (.tmp 61), none⟩,
      ⟨some 62, .extract (.tmp 55) 0, none⟩,
      ⟨some 63, .extract (.tmp 55) 1, none⟩,
      ⟨some 10, .alloc 57, none⟩,
      ⟨none, .store 57 (.tmp 10) (.tmp 62), none⟩,
      ⟨some 8, .move (.tmp 63), none⟩]) (.seq (.seq (
      .region [⟨some 64, .move (.tmp 8), none⟩,
        ⟨some 65, .bin .neq 38 (.tmp 64) (.const (.int .i64 0)), none⟩]) (.cond (.tmp 65) (.seq (
        .region [⟨some 66, .build 23 [], none⟩,
          ⟨some 67, .move (.tmp 8), none⟩,
          ⟨none, .store 23 (.tmp 4) (.tmp 66), none⟩,
          ⟨some 5, .move (.const (.int .i64 0)), none⟩,
          ⟨some 6, .move (.tmp 67), none⟩]) (.ret)) (.skip))) (.seq (
    .draw r16_0 q16_0) (.ret))))))))))
theorem xc16 : xc c16 = x16 := by kernel_rfl
theorem enter16 {w0 : World} {args : List AV} {H : AH} {Q : AV → AH → Prop} (hn : args.length ≤ 72) (h : H.WF → (∀ a ∈ args, a.Ok) → ∀ (R : APost), (∀ env' H' r, ares tt env' H' [.cell 4 23, .tmp 5, .tmp 6] r → Leave H r H' Q → R .ret env' H') → (∀ env' H', R .ret env' H' → R .normal env' H') → awp Try.prog w0 tt 72 x16 (enumF 0 args) H R) : ACalls Try.prog w0 16 args H Q :=
  ACalls.enterK (c := c16) ttOk Try.func16 (by kernel_rfl) (by kernel_rfl) xc16 (by kernel_rfl) rfl hn h

-- pandect/pandectref21.Goes
noncomputable def c17 : Code := (Try.f17.body).getD .skip
def x17 : XCode := .seq (
    .region [⟨some 2, .box 27 (.tmp 0), none⟩,
      ⟨some 3, .box 37 (.tmp 1), none⟩,
      ⟨some 4, .alloc 23, none⟩,
      ⟨some 5, .move (.const (.int .i64 0)), none⟩,
      ⟨some 6, .move (.const (.int .i64 0)), none⟩]) (.seq (.seq (
      .region [⟨some 22, .fieldAddr 37 (.tmp 3) 0, none⟩,
        ⟨some 23, .load 3 (.tmp 22), none⟩,
        ⟨some 24, .bin .neq 3 (.tmp 23) (.const (.int .i64 0)), none⟩,
        ⟨some 25, .move (.tmp 24), none⟩,
        ⟨some 26, .fieldAddr 37 (.tmp 3) 0, some (some 25, true)⟩,
        ⟨some 27, .load 3 (.tmp 26), some (some 25, true)⟩,
        ⟨some 28, .bin .neq 3 (.tmp 27) (.const (.int .i64 6)), some (some 25, true)⟩,
        ⟨some 29, .pick (.tmp 25) (.tmp 28) (.const (.bool false)), none⟩,
        ⟨some 30, .move (.tmp 29), none⟩,
        ⟨some 31, .fieldAddr 37 (.tmp 3) 3, some (some 30, false)⟩,
        ⟨some 32, .load 3 (.tmp 31), some (some 30, false)⟩,
        ⟨some 33, .bin .lss 3 (.tmp 32) (.const (.int .i64 0)), some (some 30, false)⟩,
        ⟨some 34, .pick (.tmp 30) (.const (.bool true)) (.tmp 33), none⟩,
        ⟨some 35, .move (.tmp 34), none⟩,
        ⟨some 36, .fieldAddr 37 (.tmp 3) 3, some (some 35, false)⟩,
        ⟨some 37, .load 3 (.tmp 36), some (some 35, false)⟩,
        ⟨some 38, .bin .gtr 3 (.tmp 37) (.const (.int .i64 3)), some (some 35, false)⟩,
        ⟨some 39, .pick (.tmp 35) (.const (.bool true)) (.tmp 38), none⟩]) (.cond (.tmp 39) (.seq (
        .region [⟨some 40, .build 23 [], none⟩,
          ⟨none, .store 23 (.tmp 4) (.tmp 40), none⟩,
          ⟨some 5, .move (.const (.int .i64 0)), none⟩,
          ⟨some 6, .move (.const (.int .i64 1)), none⟩]) (.ret)) (.skip))) (.seq (.seq (
      .region [⟨some 41, .fieldAddr 37 (.tmp 3) 0, none⟩,
        ⟨some 42, .load 3 (.tmp 41), none⟩,
        ⟨some 43, .bin .eql 3 (.tmp 42) (.const (.int .i64 0)), none⟩]) (.cond (.tmp 43) (.seq (
        .region [⟨some 44, .load 27 (.tmp 2), none⟩,
          ⟨some 45, .fieldAddr 37 (.tmp 3) 1, none⟩,
          ⟨some 46, .load 28 (.tmp 45), none⟩,
          ⟨some 47, .fieldAddr 37 (.tmp 3) 3, none⟩,
          ⟨some 48, .load 3 (.tmp 47), none⟩,
          ⟨some 49, .call 10 [.tmp 44, .tmp 46, .tmp 48], none⟩,
          ⟨some 50, .extract (.tmp 49) 0, none⟩,
          ⟨some 51, .extract (.tmp 49) 1, none⟩,
          ⟨some 52, .extract (.tmp 49) 2, none⟩,
          ⟨none, .store 23 (.tmp 4) (.tmp 50), none⟩,
          ⟨some 5, .move (.tmp 51), none⟩,
          ⟨some 6, .move (.tmp 52), none⟩]) (.ret)) (.skip))) (.seq (
    .region [⟨some 54, .load 27 (.tmp 2), none⟩,
      ⟨some 55, .fieldAddr 37 (.tmp 3) 1, none⟩,
      ⟨some 56, .load 28 (.tmp 55), none⟩,
      ⟨some 57, .call 12 [.tmp 54, .tmp 56], none⟩,
      ⟨some 53, .move (.tmp 57), none⟩,
      ⟨some 58, .extract (.tmp 53) 0, none⟩,
      ⟨some 59, .extract (.tmp 53) 1, none⟩,
      ⟨some 7, .alloc 23, none⟩,
      ⟨none, .store 23 (.tmp 7) (.tmp 58), none⟩,
      ⟨some 8, .move (.tmp 59), none⟩]) (.seq (.seq (
      .region [⟨some 60, .move (.tmp 8), none⟩,
        ⟨some 61, .bin .neq 38 (.tmp 60) (.const (.int .i64 0)), none⟩]) (.cond (.tmp 61) (.seq (
        .region [⟨some 62, .build 23 [], none⟩,
          ⟨some 63, .move (.tmp 8), none⟩,
          ⟨none, .store 23 (.tmp 4) (.tmp 62), none⟩,
          ⟨some 5, .move (.const (.int .i64 0)), none⟩,
          ⟨some 6, .move (.tmp 63), none⟩]) (.ret)) (.skip))) (.seq (
    .region [⟨some 65, .load 27 (.tmp 2), none⟩,
      ⟨some 66, .fieldAddr 37 (.tmp 3) 2, none⟩,
      ⟨some 67, .load 28 (.tmp 66), none⟩,
      ⟨some 68, .call 12 [.tmp 65, .tmp 67], none⟩,
      ⟨some 64, .move (.tmp 68), none⟩,
      ⟨some 69, .extract (.tmp 64) 0, none⟩,
      ⟨some 70, .extract (.tmp 64) 1, none⟩,
      ⟨some 9, .alloc 23, none⟩,
      ⟨none, .store 23 (.tmp 9) (.tmp 69), none⟩,
      ⟨some 10, .move (.tmp 70), none⟩]) (.seq (.seq (
      .region [⟨some 71, .move (.tmp 10), none⟩,
        ⟨some 72, .bin .neq 38 (.tmp 71) (.const (.int .i64 0)), none⟩]) (.cond (.tmp 72) (.seq (
        .region [⟨some 73, .build 23 [], none⟩,
          ⟨some 74, .move (.tmp 10), none⟩,
          ⟨none, .store 23 (.tmp 4) (.tmp 73), none⟩,
          ⟨some 5, .move (.const (.int .i64 0)), none⟩,
          ⟨some 6, .move (.tmp 74), none⟩]) (.ret)) (.skip))) (.seq (
    .region [⟨some 75, .fieldAddr 37 (.tmp 3) 3, none⟩,
      ⟨some 76, .load 3 (.tmp 75), none⟩,
      ⟨some 77, .bin .geq 3 (.tmp 76) (.const (.int .i64 2)), none⟩,
      ⟨some 11, .move (.tmp 77), none⟩]) (.seq (
    .region [⟨some 79, .load 27 (.tmp 2), none⟩,
      ⟨some 80, .load 23 (.tmp 7), none⟩,
      ⟨some 81, .call 23 [.tmp 79, .tmp 80], none⟩,
      ⟨some 78, .move (.tmp 81), none⟩,
      ⟨some 82, .extract (.tmp 78) 0, none⟩,
      ⟨some 83, .extract (.tmp 78) 1, none⟩,
      ⟨some 12, .alloc 27, none⟩,
      ⟨none, .store 27 (.tmp 12) (.tmp 82), none⟩,
      ⟨some 13, .move (.tmp 83), none⟩]) (.seq (
    .region [⟨some 85, .load 27 (.tmp 12), none⟩,
      ⟨some 86, .load 23 (.tmp 9), none⟩,
      ⟨some 87, .call 23 [.tmp 85, .tmp 86], none⟩,
      ⟨some 84, .move (.tmp 87), none⟩,
      ⟨some 88, .extract (.tmp 84) 0, none⟩,
      ⟨some 89, .extract (.tmp 84) 1, none⟩,
      ⟨some 14, .alloc 27, none⟩,
      ⟨none, .store 27 (.tmp 14) (.tmp 88), none⟩,
      ⟨some 15, .move (.tmp 89), none⟩]) (.seq (.seq (
      .region [⟨some 90, .load 23 (.tmp 7), none⟩,
        ⟨some 91, .fieldAddr 27 (.tmp 2) 0, none⟩,
        ⟨some 92, .load 23 (.tmp 91), none⟩,
        ⟨some 93, .bin .eql 23 (.tmp 90) (.tmp 92), none⟩,
        ⟨some 94, .move (.tmp 93), none⟩,
        ⟨some 95, .move (.tmp 11), some (some 94, false)⟩,
        ⟨some 96, .move (.tmp 95), some (some 94, false)⟩,
        ⟨some 97, .load 23 (.tmp 9), some (some 96, true)⟩,
        ⟨some 98, .fieldAddr 27 (.tmp 2) 0, some (some 96, true)⟩,
        ⟨some 99, .load 23 (.tmp 98), some (some 96, true)⟩,
        ⟨some 100, .bin .eql 23 (.tmp 97) (.tmp 99), some (some 96, true)⟩,
        ⟨some 101, .pick (.tmp 96) (.tmp 100) (.const (.bool false)), some (some 94, false)⟩,
        ⟨some 102, .pick (.tmp 94) (.const (.bool true)) (.tmp 101), none⟩,
        ⟨some 103, .move (.tmp 102), none⟩,
        ⟨some 104, .move (.tmp 15), some (some 103, false)⟩,
        ⟨some 105, .move (.tmp 104), some (some 103, false)⟩,
        ⟨some 106, .load 23 (.tmp 9), some (some 105, true)⟩,
        ⟨some 107, .load 23 (.tmp 7), some (some 105, true)⟩,
        ⟨some 108, .bin .neq 23 (.tmp 106) (.tmp 107), some (some 105, true)⟩,
        ⟨some 109, .pick (.tmp 105) (.tmp 108) (.const (.bool false)), some (some 103, false)⟩,
        ⟨some 110, .pick (.tmp 103) (.const (.bool true)) (.tmp 109), none⟩,
        ⟨some 111, .move (.tmp 110), none⟩,
        ⟨some 112, .load 23 (.tmp 9), some (some 111, false)⟩,
        ⟨some 113, .load 23 (.tmp 7), some (some 111, false)⟩,
        ⟨some 114, .bin .eql 23 (.tmp 112) (.tmp 113), some (some 111, false)⟩,
        ⟨some 115, .move (.tmp 114), some (some 111, false)⟩,
        ⟨some 116, .move (.tmp 11), some (some 115, true)⟩,
        ⟨some 117, .un .not (.tmp 116), some (some 115, true)⟩,
        ⟨some 118, .pick (.tmp 115) (.tmp 117) (.const (.bool false)), some (some 111, false)⟩,
        ⟨some 119, .pick (.tmp 111) (.const (.bool true)) (.tmp 118), none⟩]) (.cond (.tmp 119) (.seq (
        .region [⟨some 120, .build 23 [], none⟩,
          ⟨none, .store 23 (.tmp 4) (.tmp 120), none⟩,
          ⟨some 5, .move (.const (.int .i64 0)), none⟩,
          ⟨some 6, .move (.const (.int .i64 9)), none⟩]) (.ret)) (.skip))) (.seq (
    .region [⟨some 122, .load 27 (.tmp 2), none⟩,
      ⟨some 123, .load 23 (.tmp 7), none⟩,
      ⟨some 124, .call 24 [.tmp 122, .tmp 123], none⟩,
      ⟨some 121, .move (.tmp 124), none⟩,
      ⟨some 125, .extract (.tmp 121) 0, none⟩,
      ⟨some 126, .extract (.tmp 121) 1, none⟩,
      ⟨some 127, .extract (.tmp 121) 2, none⟩,
      ⟨some 16, .alloc 23, none⟩,
      ⟨none, .store 23 (.tmp 16) (.tmp 125), none⟩,
      ⟨some 17, .move (.tmp 126), none⟩,
      ⟨some 18, .move (.tmp 127), none⟩]) (.seq (.seq (
      .region [⟨some 128, .load 23 (.tmp 9), none⟩,
        ⟨some 129, .load 23 (.tmp 7), none⟩,
        ⟨some 130, .bin .eql 23 (.tmp 128) (.tmp 129), none⟩]) (.cond (.tmp 130) (.seq (
        .region [⟨some 131, .load 23 (.tmp 16), none⟩,
          ⟨some 132, .move (.tmp 17), none⟩,
          ⟨none, .store 23 (.tmp 4) (.tmp 131), none⟩,
          ⟨some 5, .move (.tmp 132), none⟩,
          ⟨some 6, .move (.const (.int .i64 0)), none⟩]) (.ret)) (.skip))) (.seq (
    .region [⟨some 134, .load 27 (.tmp 2), none⟩,
      ⟨some 135, .fieldAddr 37 (.tmp 3) 2, none⟩,
      ⟨some 136, .load 28 (.tmp 135), none⟩,
      ⟨some 137, .fieldAddr 37 (.tmp 3) 3, none⟩,
      ⟨some 138, .load 3 (.tmp 137), none⟩,
      ⟨some 139, .call 10 [.tmp 134, .tmp 136, .tmp 138], none⟩,
      ⟨some 133, .move (.tmp 139), none⟩,
      ⟨some 140, .extract (.tmp 133) 0, none⟩,
      ⟨some 141, .extract (.tmp 133) 1, none⟩,
      ⟨some 142, .extract (.tmp 133) 2, none⟩,
      ⟨some 19, .alloc 23, none⟩,
      ⟨none, .store 23 (.tmp 19) (.tmp 140), none⟩,
      ⟨some 20, .move (.tmp 141), none⟩,
      ⟨some 21, .move (.tmp 142), none⟩]) (.seq (.seq (
      .region [⟨some 143, .load 23 (.tmp 19), none⟩,
        ⟨some 144, .load 23 (.tmp 16), none⟩,
        ⟨some 145, .bin .eql 23 (.tmp 143) (.tmp 144), none⟩,
        ⟨some 146, .move (.tmp 145), none⟩,
        ⟨some 147, .move (.tmp 17), some (some 146, true)⟩,
        ⟨some 148, .move (.tmp 20), some (some 146, true)⟩,
        ⟨some 149, .bin .lss 3 (.tmp 147) (.tmp 148), some (some 146, true)⟩,
        ⟨some 150, .pick (.tmp 146) (.tmp 149) (.const (.bool false)), none⟩]) (.cond (.tmp 150) (
      .region [⟨some 151, .move (.tmp 20), none⟩,
        ⟨some 152, .bin .sub 3 (.tmp 151) (.const (.int .i64 1)), none⟩,
        ⟨some 20, .move (.tmp 152), none⟩]) (.skip))) (.seq (
    .region [⟨some 153, .load 23 (.tmp 19), none⟩,
      ⟨some 154, .move (.tmp 20), none⟩,
      ⟨none, .store 23 (.tmp 4) (.tmp 153), none⟩,
      ⟨some 5, .move (.tmp 154), none⟩,
      ⟨some 6, .move (.const (.int .i64 0)), none⟩]) (.ret))))))))))))))))
theorem xc17 : xc c17 = x17 := by kernel_rfl
theorem enter17 {w0 : World} {args : List AV} {H : AH} {Q : AV → AH → Prop} (hn : args.length ≤ 155) (h : H.WF → (∀ a ∈ args, a.Ok) → ∀ (R : APost), (∀ env' H' r, ares tt env' H' [.cell 4 23, .tmp 5, .tmp 6] r → Leave H r H' Q → R .ret env' H') → (∀ env' H', R .ret env' H' → R .normal env' H') → awp Try.prog w0 tt 155 x17 (enumF 0 args) H R) : ACalls Try.prog w0 17 args H Q :=
  ACalls.enterK (c := c17) ttOk Try.func17 (by kernel_rfl) (by kernel_rfl) xc17 (by kernel_rfl) rfl hn h

-- pandect/pandectref06.Few
noncomputable def c18 : Code := (Try.f18.body).getD .skip
def x18 : XCode := .seq (
    .region [⟨some 2, .box 27 (.tmp 0), none⟩,
      ⟨some 4, .move (.const (.bool false)), none⟩]) (.seq (
    .region [⟨some 5, .load 27 (.tmp 2), none⟩,
      ⟨some 6, .move (.tmp 1), none⟩,
      ⟨some 7, .call 28 [.tmp 5, .const (.int .i64 0), .tmp 6], none⟩,
      ⟨some 8, .move (.tmp 1), none⟩,
      ⟨some 9, .bin .leq 3 (.tmp 7) (.tmp 8), none⟩,
      ⟨some 10, .move (.tmp 9), none⟩,
      ⟨some 11, .load 27 (.tmp 2), some (some 10, true)⟩,
      ⟨some 12, .call 29 [.tmp 11], some (some 10, true)⟩,
      ⟨some 13, .pick (.tmp 10) (.tmp 12) (.const (.bool false)), none⟩,
      ⟨some 4, .move (.tmp 13), none⟩]) (.ret))
theorem xc18 : xc c18 = x18 := by kernel_rfl
theorem enter18 {w0 : World} {args : List AV} {H : AH} {Q : AV → AH → Prop} (hn : args.length ≤ 14) (h : H.WF → (∀ a ∈ args, a.Ok) → ∀ (R : APost), (∀ env' H' r, ares tt env' H' [.tmp 4] r → Leave H r H' Q → R .ret env' H') → (∀ env' H', R .ret env' H' → R .normal env' H') → awp Try.prog w0 tt 14 x18 (enumF 0 args) H R) : ACalls Try.prog w0 18 args H Q :=
  ACalls.enterK (c := c18) ttOk Try.func18 (by kernel_rfl) (by kernel_rfl) xc18 (by kernel_rfl) rfl hn h

-- pandect/pandectref08.Stands
noncomputable def c19 : Code := (Try.f19.body).getD .skip
def x19 : XCode := .seq (
    .region [⟨some 1, .box 27 (.tmp 0), none⟩,
      ⟨some 2, .move (.const (.bool false)), none⟩]) (.seq (
    .region [⟨some 3, .load 27 (.tmp 1), none⟩,
      ⟨some 4, .call 30 [.tmp 3], none⟩,
      ⟨some 5, .move (.tmp 4), none⟩,
      ⟨some 6, .load 27 (.tmp 1), some (some 5, true)⟩,
      ⟨some 7, .call 31 [.tmp 6], some (some 5, true)⟩,
      ⟨some 8, .pick (.tmp 5) (.tmp 7) (.const (.bool false)), none⟩,
      ⟨some 2, .move (.tmp 8), none⟩]) (.ret))
theorem xc19 : xc c19 = x19 := by kernel_rfl
theorem enter19 {w0 : World} {args : List AV} {H : AH} {Q : AV → AH → Prop} (hn : args.length ≤ 9) (h : H.WF → (∀ a ∈ args, a.Ok) → ∀ (R : APost), (∀ env' H' r, ares tt env' H' [.tmp 2] r → Leave H r H' Q → R .ret env' H') → (∀ env' H', R .ret env' H' → R .normal env' H') → awp Try.prog w0 tt 9 x19 (enumF 0 args) H R) : ACalls Try.prog w0 19 args H Q :=
  ACalls.enterK (c := c19) ttOk Try.func19 (by kernel_rfl) (by kernel_rfl) xc19 (by kernel_rfl) rfl hn h

-- pandect/target.isWhere
noncomputable def c20 : Code := (Try.f20.body).getD .skip
def x20 : XCode := .seq (
    .region [⟨some 2, .move (.const (.bool false)), none⟩]) (.seq (
    .region [⟨some 3, .move (.tmp 0), none⟩,
      ⟨some 4, .bin .geq 3 (.tmp 3) (.const (.int .i64 0)), none⟩,
      ⟨some 5, .move (.tmp 4), none⟩,
      ⟨some 6, .move (.tmp 0), some (some 5, true)⟩,
      ⟨some 7, .bin .leq 3 (.tmp 6) (.const (.int .i64 3)), some (some 5, true)⟩,
      ⟨some 8, .pick (.tmp 5) (.tmp 7) (.const (.bool false)), none⟩,
      ⟨some 2, .move (.tmp 8), none⟩]) (.ret))
theorem xc20 : xc c20 = x20 := by kernel_rfl
theorem enter20 {w0 : World} {args : List AV} {H : AH} {Q : AV → AH → Prop} (hn : args.length ≤ 9) (h : H.WF → (∀ a ∈ args, a.Ok) → ∀ (R : APost), (∀ env' H' r, ares tt env' H' [.tmp 2] r → Leave H r H' Q → R .ret env' H') → (∀ env' H', R .ret env' H' → R .normal env' H') → awp Try.prog w0 tt 9 x20 (enumF 0 args) H R) : ACalls Try.prog w0 20 args H Q :=
  ACalls.enterK (c := c20) ttOk Try.func20 (by kernel_rfl) (by kernel_rfl) xc20 (by kernel_rfl) rfl hn h

-- pandect/address.FindOne
noncomputable def c21 : Code := (Try.f21.body).getD .skip
def x21 : XCode := .seq (
    .region [⟨some 2, .box 27 (.tmp 0), none⟩,
      ⟨some 4, .alloc 23, none⟩,
      ⟨some 5, .move (.const (.int .i64 0)), none⟩]) (.seq (
    .region [⟨some 7, .load 27 (.tmp 2), none⟩,
      ⟨some 8, .move (.tmp 1), none⟩,
      ⟨some 9, .call 25 [.tmp 7, .tmp 8], none⟩,
      ⟨some 6, .move (.tmp 9), none⟩]) (.seq (.seq (
      .region [⟨some 10, .move (.tmp 6), none⟩,
        ⟨some 11, .len 46 (.tmp 10), none⟩]) (
    .block 0 (.seq (
        .region [⟨some 13, .bin .eql 3 (.tmp 11) (.const (.int .i64 0)), none⟩,
          ⟨some 12, .move (.tmp 13), none⟩]) (.cond (.tmp 12) (.seq (
          .region [⟨some 14, .build 23 [], none⟩,
            ⟨none, .store 23 (.tmp 4) (.tmp 14), none⟩,
            ⟨some 5, .move (.const (.int .i64 7)), none⟩]) (.ret)) (.seq (
          .region [⟨some 16, .bin .eql 3 (.tmp 11) (.const (.int .i64 1)), none⟩,
            ⟨some 15, .move (.tmp 16), none⟩]) (.cond (.tmp 15) (.seq (
            .region [⟨some 17, .move (.tmp 6), none⟩,
              ⟨some 18, .indexAddr 46 (.tmp 17) (.const (.int .i64 0)), none⟩,
              ⟨some 19, .load 23 (.tmp 18), none⟩,
              ⟨none, .store 23 (.tmp 4) (.tmp 19), none⟩,
              ⟨some 5, .move (.const (.int .i64 0)), none⟩]) (.ret)) (.skip))))))) (.seq (
    .region [⟨some 20, .build 23 [], none⟩,
      ⟨none, .store 23 (.tmp 4) (.tmp 20), none⟩,
      ⟨some 5, .move (.const (.int .i64 8)), none⟩]) (.ret))))
theorem xc21 : xc c21 = x21 := by kernel_rfl
theorem enter21 {w0 : World} {args : List AV} {H : AH} {Q : AV → AH → Prop} (hn : args.length ≤ 21) (h : H.WF → (∀ a ∈ args, a.Ok) → ∀ (R : APost), (∀ env' H' r, ares tt env' H' [.cell 4 23, .tmp 5] r → Leave H r H' Q → R .ret env' H') → (∀ env' H', R .ret env' H' → R .normal env' H') → awp Try.prog w0 tt 21 x21 (enumF 0 args) H R) : ACalls Try.prog w0 21 args H Q :=
  ACalls.enterK (c := c21) ttOk Try.func21 (by kernel_rfl) (by kernel_rfl) xc21 (by kernel_rfl) rfl hn h

-- pandect/target.leads
noncomputable def c22 : Code := (Try.f22.body).getD .skip
def x22 : XCode := .seq (
    .region [⟨some 0, .alloc 60, none⟩]) (.seq (
    .region [⟨some 1, .build 60 [(0, .func 32), (1, .func 35), (2, .func 37), (3, .func 39)], none⟩,
      ⟨none, .store 60 (.tmp 0) (.tmp 1), none⟩]) (.ret))
theorem xc22 : xc c22 = x22 := by kernel_rfl
theorem enter22 {w0 : World} {args : List AV} {H : AH} {Q : AV → AH → Prop} (hn : args.length ≤ 2) (h : H.WF → (∀ a ∈ args, a.Ok) → ∀ (R : APost), (∀ env' H' r, ares tt env' H' [.cell 0 60] r → Leave H r H' Q → R .ret env' H') → (∀ env' H', R .ret env' H' → R .normal env' H') → awp Try.prog w0 tt 2 x22 (enumF 0 args) H R) : ACalls Try.prog w0 22 args H Q :=
  ACalls.enterK (c := c22) ttOk Try.func22 (by kernel_rfl) (by kernel_rfl) xc22 (by kernel_rfl) rfl hn h

def r23_0 : List XOp := [⟨some 22, .fieldAddr 27 (.tmp 2) 5, none⟩,
  ⟨some 23, .load 25 (.tmp 22), none⟩,
  ⟨some 24, .move (.tmp 6), none⟩,
  ⟨some 25, .indexAddr 25 (.tmp 23) (.tmp 24), none⟩,
  ⟨some 26, .load 27 (.tmp 25), none⟩,
  ⟨some 27, .load 23 (.tmp 3), none⟩,
  ⟨some 28, .call 23 [.tmp 26, .tmp 27], none⟩,
  ⟨some 21, .move (.tmp 28), none⟩,
  ⟨some 29, .extract (.tmp 21) 0, none⟩,
  ⟨some 30, .extract (.tmp 21) 1, none⟩,
  ⟨some 7, .alloc 27, none⟩,
  ⟨none, .store 27 (.tmp 7) (.tmp 29), none⟩,
  ⟨some 8, .move (.tmp 30), none⟩]
def q23_0 : List (List Nat) := [[], [0], [], [1, 2], [3], [], [4, 5], [6], [7], [7], [], [10, 8, 6, 0, 1, 2, 3, 4, 5, 6, 7, 8, 10], [9, 11, 0, 1, 2, 3, 4, 5, 6, 7, 8, 9, 10, 11]]
theorem dr23_0 {w0 : World} {N : Nat} (env : Env) (H : AH) (Q : APost) : awpC Try.prog w0 tt N (.draw r23_0 q23_0) Q env H = drunC Try.prog w0 tt 0 [⟨some 22, .fieldAddr 27 (.tmp 2) 5, none⟩,
  ⟨some 23, .load 25 (.tmp 22), none⟩,
  ⟨some 24, .move (.tmp 6), none⟩,
  ⟨some 25, .indexAddr 25 (.tmp 23) (.tmp 24), none⟩,
  ⟨some 26, .load 27 (.tmp 25), none⟩,
  ⟨some 27, .load 23 (.tmp 3), none⟩,
  ⟨some 28, .call 23 [.tmp 26, .tmp 27], none⟩,
  ⟨some 21, .move (.tmp 28), none⟩,
  ⟨some 29, .extract (.tmp 21) 0, none⟩,
  ⟨some 30, .extract (.tmp 21) 1, none⟩,
  ⟨some 7, .alloc 27, none⟩,
  ⟨none, .store 27 (.tmp 7) (.tmp 29), none⟩,
  ⟨some 8, .move (.tmp 30), none⟩] (dendC [(1, 10), (4, 10), (5, 10)] (Q .normal)) [] env H := awp_draw Try.prog w0 tt N (l := r23_0) (by kernel_rfl) (by kernel_rfl) (by kernel_rfl) mixed env H Q
def l23_0 : XCode := .seq (.seq (
      .region [⟨some 14, .move (.tmp 6), none⟩,
        ⟨some 15, .fieldAddr 27 (.tmp 2) 5, none⟩,
        ⟨some 16, .load 25 (.tmp 15), none⟩,
        ⟨some 17, .len 25 (.tmp 16), none⟩,
        ⟨some 18, .bin .lss 3 (.tmp 14) (.tmp 17), none⟩]) (.cond (.tmp 18) (.skip) (.exit 0))) (.seq (
    .block 1 (.seq (
        .draw r23_0 q23_0) (.seq (
        .region [⟨some 31, .move (.tmp 8), none⟩]) (.cond (.tmp 31) (.seq (
          .region [⟨some 32, .load 27 (.tmp 7), none⟩,
            ⟨none, .store 27 (.tmp 4) (.tmp 32), none⟩,
            ⟨some 5, .move (.const (.bool true)), none⟩]) (.ret)) (.skip))))) (
  .region [⟨some 19, .move (.tmp 6), none⟩,
    ⟨some 20, .bin .add 3 (.tmp 19) (.const (.int .i64 1)), none⟩,
    ⟨some 6, .move (.tmp 20), none⟩]))
-- pandect/pandectref06.Find
noncomputable def c23 : Code := (Try.f23.body).getD .skip
def x23 : XCode := .seq (
    .region [⟨some 2, .box 27 (.tmp 0), none⟩,
      ⟨some 3, .box 23 (.tmp 1), none⟩,
      ⟨some 4, .alloc 27, none⟩,
      ⟨some 5, .move (.const (.bool false)), none⟩]) (.seq (.seq (
      .region [⟨some 9, .fieldAddr 27 (.tmp 2) 0, none⟩,
        ⟨some 10, .load 23 (.tmp 9), none⟩,
        ⟨some 11, .load 23 (.tmp 3), none⟩,
        ⟨some 12, .bin .eql 23 (.tmp 10) (.tmp 11), none⟩]) (.cond (.tmp 12) (.seq (
        .region [⟨some 13, .load 27 (.tmp 2), none⟩,
          ⟨none, .store 27 (.tmp 4) (.tmp 13), none⟩,
          ⟨some 5, .move (.const (.bool true)), none⟩]) (.ret)) (.skip))) (.seq (.seq (
      .region [⟨some 6, .move (.const (.int .i64 0)), none⟩]) (
    .block 0 (.loop l23_0))) (.seq (
    .region [⟨some 33, .build 27 [], none⟩,
      ⟨none, .store 27 (.tmp 4) (.tmp 33), none⟩,
      ⟨some 5, .move (.const (.bool false)), none⟩]) (.ret))))
theorem xc23 : xc c23 = x23 := by kernel_rfl
theorem enter23 {w0 : World} {args : List AV} {H : AH} {Q : AV → AH → Prop} (hn : args.length ≤ 34) (h : H.WF → (∀ a ∈ args, a.Ok) → ∀ (R : APost), (∀ env' H' r, ares tt env' H' [.cell 4 27, .tmp 5] r → Leave H r H' Q → R .ret env' H') → (∀ env' H', R .ret env' H' → R .normal env' H') → awp Try.prog w0 tt 34 x23 (enumF 0 args) H R) : ACalls Try.prog w0 23 args H Q :=
  ACalls.enterK (c := c23) ttOk Try.func23 (by kernel_rfl) (by kernel_rfl) xc23 (by kernel_rfl) rfl hn h

def r24_0 : List XOp := [⟨some 22, .fieldAddr 27 (.tmp 2) 5, none⟩,
  ⟨some 23, .load 25 (.tmp 22), none⟩,
  ⟨some 24, .move (.tmp 7), none⟩,
  ⟨some 25, .indexAddr 25 (.tmp 23) (.tmp 24), none⟩,
  ⟨some 26, .fieldAddr 27 (.tmp 25) 0, none⟩,
  ⟨some 27, .load 23 (.tmp 26), none⟩,
  ⟨some 28, .load 23 (.tmp 3), none⟩,
  ⟨some 29, .bin .eql 23 (.tmp 27) (.tmp 28), none⟩]
def q24_0 : List (List Nat) := [[], [0], [], [1, 2], [3], [4], [], [5, 6]]
theorem dr24_0 {w0 : World} {N : Nat} (env : Env) (H : AH) (Q : APost) : awpC Try.prog w0 tt N (.draw r24_0 q24_0) Q env H = drunC Try.prog w0 tt 0 [⟨some 22, .fieldAddr 27 (.tmp 2) 5, none⟩,
  ⟨some 23, .load 25 (.tmp 22), none⟩,
  ⟨some 24, .move (.tmp 7), none⟩,
  ⟨some 25, .indexAddr 25 (.tmp 23) (.tmp 24), none⟩,
  ⟨some 26, .fieldAddr 27 (.tmp 25) 0, none⟩,
  ⟨some 27, .load 23 (.tmp 26), none⟩,
  ⟨some 28, .load 23 (.tmp 3), none⟩,
  ⟨some 29, .bin .eql 23 (.tmp 27) (.tmp 28), none⟩] (dendC [] (Q .normal)) [] env H := awp_draw Try.prog w0 tt N (l := r24_0) (by kernel_rfl) (by kernel_rfl) (by kernel_rfl) mixed env H Q
def r24_1 : List XOp := [⟨some 34, .fieldAddr 27 (.tmp 2) 5, none⟩,
  ⟨some 35, .load 25 (.tmp 34), none⟩,
  ⟨some 36, .move (.tmp 7), none⟩,
  ⟨some 37, .indexAddr 25 (.tmp 35) (.tmp 36), none⟩,
  ⟨some 38, .load 27 (.tmp 37), none⟩,
  ⟨some 39, .load 23 (.tmp 3), none⟩,
  ⟨some 40, .call 23 [.tmp 38, .tmp 39], none⟩,
  ⟨some 33, .move (.tmp 40), none⟩,
  ⟨some 41, .extract (.tmp 33) 0, none⟩,
  ⟨some 42, .extract (.tmp 33) 1, none⟩,
  ⟨some 8, .alloc 27, none⟩,
  ⟨none, .store 27 (.tmp 8) (.tmp 41), none⟩,
  ⟨some 9, .move (.tmp 42), none⟩]
def q24_1 : List (List Nat) := [[], [0], [], [1, 2], [3], [], [4, 5], [6], [7], [7], [], [10, 8, 6, 0, 1, 2, 3, 4, 5, 6, 7, 8, 10], [9, 11, 0, 1, 2, 3, 4, 5, 6, 7, 8, 9, 10, 11]]
theorem dr24_1 {w0 : World} {N : Nat} (env : Env) (H : AH) (Q : APost) : awpC Try.prog w0 tt N (.draw r24_1 q24_1) Q env H = drunC Try.prog w0 tt 0 [⟨some 34, .fieldAddr 27 (.tmp 2) 5, none⟩,
  ⟨some 35, .load 25 (.tmp 34), none⟩,
  ⟨some 36, .move (.tmp 7), none⟩,
  ⟨some 37, .indexAddr 25 (.tmp 35) (.tmp 36), none⟩,
  ⟨some 38, .load 27 (.tmp 37), none⟩,
  ⟨some 39, .load 23 (.tmp 3), none⟩,
  ⟨some 40, .call 23 [.tmp 38, .tmp 39], none⟩,
  ⟨some 33, .move (.tmp 40), none⟩,
  ⟨some 41, .extract (.tmp 33) 0, none⟩,
  ⟨some 42, .extract (.tmp 33) 1, none⟩,
  ⟨some 8, .alloc 27, none⟩,
  ⟨none, .store 27 (.tmp 8) (.tmp 41), none⟩,
  ⟨some 9, .move (.tmp 42), none⟩] (dendC [(1, 10), (4, 10), (5, 10)] (Q .normal)) [] env H := awp_draw Try.prog w0 tt N (l := r24_1) (by kernel_rfl) (by kernel_rfl) (by kernel_rfl) mixed env H Q
def r24_2 : List XOp := [⟨some 44, .fieldAddr 27 (.tmp 2) 5, none⟩,
  ⟨some 45, .load 25 (.tmp 44), none⟩,
  ⟨some 46, .move (.tmp 7), none⟩,
  ⟨some 47, .indexAddr 25 (.tmp 45) (.tmp 46), none⟩,
  ⟨some 48, .load 27 (.tmp 47), none⟩,
  ⟨some 49, .load 23 (.tmp 3), none⟩,
  ⟨some 50, .call 24 [.tmp 48, .tmp 49], none⟩,
  ⟨some 51, .extract (.tmp 50) 0, none⟩,
  ⟨some 52, .extract (.tmp 50) 1, none⟩,
  ⟨some 53, .extract (.tmp 50) 2, none⟩,
  ⟨none, .store 23 (.tmp 4) (.tmp 51), none⟩,
  ⟨some 5, .move (.tmp 52), none⟩,
  ⟨some 6, .move (.tmp 53), none⟩]
def q24_2 : List (List Nat) := [[], [0], [], [1, 2], [3], [], [4, 5], [6], [6], [6], [7, 6, 0, 1, 2, 3, 4, 5, 6, 7, 8, 9], [8, 10, 0, 1, 2, 3, 4, 5, 6, 7, 8, 9, 10], [9, 11, 0, 1, 2, 3, 4, 5, 6, 7, 8, 9, 10, 11]]
theorem dr24_2 {w0 : World} {N : Nat} (env : Env) (H : AH) (Q : APost) : awpC Try.prog w0 tt N (.draw r24_2 q24_2) Q env H = drunC Try.prog w0 tt 0 [⟨some 44, .fieldAddr 27 (.tmp 2) 5, none⟩,
  ⟨some 45, .load 25 (.tmp 44), none⟩,
  ⟨some 46, .move (.tmp 7), none⟩,
  ⟨some 47, .indexAddr 25 (.tmp 45) (.tmp 46), none⟩,
  ⟨some 48, .load 27 (.tmp 47), none⟩,
  ⟨some 49, .load 23 (.tmp 3), none⟩,
  ⟨some 50, .call 24 [.tmp 48, .tmp 49], none⟩,
  ⟨some 51, .extract (.tmp 50) 0, none⟩,
  ⟨some 52, .extract (.tmp 50) 1, none⟩,
  ⟨some 53, .extract (.tmp 50) 2, none⟩,
  ⟨none, .store 23 (.tmp 4) (.tmp 51), none⟩,
  ⟨some 5, .move (.tmp 52), none⟩,
  ⟨some 6, .move (.tmp 53), none⟩] (dendC [] (Q .normal)) [] env H := awp_draw Try.prog w0 tt N (l := r24_2) (by kernel_rfl) (by kernel_rfl) (by kernel_rfl) mixed env H Q
def l24_0 : XCode := .seq (.seq (
      .region [⟨some 15, .move (.tmp 7), none⟩,
        ⟨some 16, .fieldAddr 27 (.tmp 2) 5, none⟩,
        ⟨some 17, .load 25 (.tmp 16), none⟩,
        ⟨some 18, .len 25 (.tmp 17), none⟩,
        ⟨some 19, .bin .lss 3 (.tmp 15) (.tmp 18), none⟩]) (.cond (.tmp 19) (.skip) (.exit 0))) (.seq (
    .block 1 (.seq (.seq (
          .draw r24_0 q24_0) (.cond (.tmp 29) (.seq (
            .region [⟨some 30, .fieldAddr 27 (.tmp 2) 0, none⟩,
              ⟨some 31, .load 23 (.tmp 30), none⟩,
              ⟨some 32, .move (.tmp 7), none⟩,
              ⟨none, .store 23 (.tmp 4) (.tmp 31), none⟩,
              ⟨some 5, .move (.tmp 32), none⟩,
              ⟨some 6, .move (.const (.bool true)), none⟩]) (.ret)) (.skip))) (.seq (
        .draw r24_1 q24_1) (.seq (
        .region [⟨some 43, .move (.tmp 9), none⟩]) (.cond (.tmp 43) (.seq (
          .draw r24_2 q24_2) (.ret)) (.skip)))))) (
  .region [⟨some 20, .move (.tmp 7), none⟩,
    ⟨some 21, .bin .add 3 (.tmp 20) (.const (.int .i64 1)), none⟩,
    ⟨some 7, .move (.tmp 21), none⟩]))
-- pandect/pandectref06.Parent
noncomputable def c24 : Code := (Try.f24.body).getD .skip
def x24 : XCode := .seq (
    .region [⟨some 2, .box 27 (.tmp 0), none⟩,
      ⟨some 3, .box 23 (.tmp 1), none⟩,
      ⟨some 4, .alloc 23, none⟩,
      ⟨some 5, .move (.const (.int .i64 0)), none⟩,
      ⟨some 6, .move (.const (.bool false)), none⟩]) (.seq (.seq (
      .region [⟨some 10, .fieldAddr 27 (.tmp 2) 0, none⟩,
        ⟨some 11, .load 23 (.tmp 10), none⟩,
        ⟨some 12, .load 23 (.tmp 3), none⟩,
        ⟨some 13, .bin .eql 23 (.tmp 11) (.tmp 12), none⟩]) (.cond (.tmp 13) (.seq (
        .region [⟨some 14, .build 23 [], none⟩,
          ⟨none, .store 23 (.tmp 4) (.tmp 14), none⟩,
          ⟨some 5, .move (.const (.int .i64 (-1))), none⟩,
          ⟨some 6, .move (.const (.bool false)), none⟩]) (.ret)) (.skip))) (.seq (.seq (
      .region [⟨some 7, .move (.const (.int .i64 0)), none⟩]) (
    .block 0 (.loop l24_0))) (.seq (
    .region [⟨some 54, .build 23 [], none⟩,
      ⟨none, .store 23 (.tmp 4) (.tmp 54), none⟩,
      ⟨some 5, .move (.const (.int .i64 (-1))), none⟩,
      ⟨some 6, .move (.const (.bool false)), none⟩]) (.ret))))
theorem xc24 : xc c24 = x24 := by kernel_rfl
theorem enter24 {w0 : World} {args : List AV} {H : AH} {Q : AV → AH → Prop} (hn : args.length ≤ 55) (h : H.WF → (∀ a ∈ args, a.Ok) → ∀ (R : APost), (∀ env' H' r, ares tt env' H' [.cell 4 23, .tmp 5, .tmp 6] r → Leave H r H' Q → R .ret env' H') → (∀ env' H', R .ret env' H' → R .normal env' H') → awp Try.prog w0 tt 55 x24 (enumF 0 args) H R) : ACalls Try.prog w0 24 args H Q :=
  ACalls.enterK (c := c24) ttOk Try.func24 (by kernel_rfl) (by kernel_rfl) xc24 (by kernel_rfl) rfl hn h

def l25_0 : XCode := .seq (
    .region [⟨some 13, .bin .lss 3 (.tmp 12) (.tmp 11), none⟩]) (.seq (.cond (.tmp 13) (.skip) (.exit 0)) (.seq (
    .block 1 (.seq (
        .region [⟨some 14, .indexAddr 25 (.tmp 10) (.tmp 12), none⟩,
          ⟨some 15, .load 27 (.tmp 14), none⟩,
          ⟨some 7, .alloc 27, none⟩,
          ⟨none, .store 27 (.tmp 7) (.tmp 15), none⟩]) (
      .region [⟨some 16, .move (.tmp 5), none⟩,
        ⟨some 17, .fieldAddr 27 (.tmp 7) 0, none⟩,
        ⟨some 18, .load 23 (.tmp 17), none⟩,
        ⟨some 19, .buildSlice 46 1 [(0, .tmp 18)], none⟩,
        ⟨some 20, .append 46 (.tmp 16) (.tmp 19), none⟩,
        ⟨some 5, .move (.tmp 20), none⟩]))) (
  .region [⟨some 21, .bin .add 3 (.tmp 12) (.const (.int .i64 1)), none⟩,
    ⟨some 12, .move (.tmp 21), none⟩])))
-- pandect/address.FindAll
noncomputable def c25 : Code := (Try.f25.body).getD .skip
def x25 : XCode := .seq (
    .region [⟨some 2, .box 27 (.tmp 0), none⟩,
      ⟨some 4, .move (.const (.slice none 0 0)), none⟩]) (.seq (
    .region [⟨some 5, .move (.const (.slice none 0 0)), none⟩]) (.seq (.seq (
      .region [⟨some 8, .load 27 (.tmp 2), none⟩,
        ⟨some 9, .move (.tmp 1), none⟩,
        ⟨some 10, .call 40 [.tmp 8, .tmp 9], none⟩,
        ⟨some 11, .len 25 (.tmp 10), none⟩,
        ⟨some 12, .move (.const (.int .i64 0)), none⟩]) (
    .block 0 (.loop l25_0))) (.seq (
    .region [⟨some 22, .move (.tmp 5), none⟩,
      ⟨some 4, .move (.tmp 22), none⟩]) (.ret))))
theorem xc25 : xc c25 = x25 := by kernel_rfl
theorem enter25 {w0 : World} {args : List AV} {H : AH} {Q : AV → AH → Prop} (hn : args.length ≤ 23) (h : H.WF → (∀ a ∈ args, a.Ok) → ∀ (R : APost), (∀ env' H' r, ares tt env' H' [.tmp 4] r → Leave H r H' Q → R .ret env' H') → (∀ env' H', R .ret env' H' → R .normal env' H') → awp Try.prog w0 tt 23 x25 (enumF 0 args) H R) : ACalls Try.prog w0 25 args H Q :=
  ACalls.enterK (c := c25) ttOk Try.func25 (by kernel_rfl) (by kernel_rfl) xc25 (by kernel_rfl) rfl hn h

def r26_0 : List XOp := [⟨some 37, .move (.tmp 6), none⟩,
  ⟨some 38, .move (.tmp 7), none⟩,
  ⟨some 39, .indexAddr 25 (.tmp 37) (.tmp 38), none⟩,
  ⟨some 40, .load 27 (.tmp 39), none⟩,
  ⟨some 41, .move (.tmp 1), none⟩,
  ⟨some 42, .indexAddr 28 (.tmp 41) (.const (.int .i64 0)), none⟩,
  ⟨some 43, .load 52 (.tmp 42), none⟩,
  ⟨some 44, .call 44 [.tmp 40, .tmp 43], none⟩]
def q26_0 : List (List Nat) := [[], [], [0, 1], [2], [], [4], [5], [3, 6]]
theorem dr26_0 {w0 : World} {N : Nat} (env : Env) (H : AH) (Q : APost) : awpC Try.prog w0 tt N (.draw r26_0 q26_0) Q env H = drunC Try.prog w0 tt 0 [⟨some 37, .move (.tmp 6), none⟩,
  ⟨some 38, .move (.tmp 7), none⟩,
  ⟨some 39, .indexAddr 25 (.tmp 37) (.tmp 38), none⟩,
  ⟨some 40, .load 27 (.tmp 39), none⟩,
  ⟨some 41, .move (.tmp 1), none⟩,
  ⟨some 42, .indexAddr 28 (.tmp 41) (.const (.int .i64 0)), none⟩,
  ⟨some 43, .load 52 (.tmp 42), none⟩,
  ⟨some 44, .call 44 [.tmp 40, .tmp 43], none⟩] (dendC [] (Q .normal)) [] env H := awp_draw Try.prog w0 tt N (l := r26_0) (by kernel_rfl) (by kernel_rfl) (by kernel_rfl) mixed env H Q
def r26_1 : List XOp := [⟨some 75, .move (.tmp 5), none⟩,
  ⟨some 76, .move (.tmp 10), none⟩,
  ⟨some 77, .indexAddr 25 (.tmp 75) (.tmp 76), none⟩,
  ⟨some 78, .fieldAddr 27 (.tmp 77) 5, none⟩,
  ⟨some 79, .load 25 (.tmp 78), none⟩,
  ⟨some 80, .move (.tmp 11), none⟩,
  ⟨some 81, .indexAddr 25 (.tmp 79) (.tmp 80), none⟩,
  ⟨some 82, .load 27 (.tmp 81), none⟩,
  ⟨some 83, .move (.tmp 1), none⟩,
  ⟨some 84, .move (.tmp 8), none⟩,
  ⟨some 85, .indexAddr 28 (.tmp 83) (.tmp 84), none⟩,
  ⟨some 86, .load 52 (.tmp 85), none⟩,
  ⟨some 87, .call 44 [.tmp 82, .tmp 86], none⟩]
def q26_1 : List (List Nat) := [[], [], [0, 1], [2], [3], [], [4, 5], [6], [], [], [8, 9], [10], [7, 11]]
theorem dr26_1 {w0 : World} {N : Nat} (env : Env) (H : AH) (Q : APost) : awpC Try.prog w0 tt N (.draw r26_1 q26_1) Q env H = drunC Try.prog w0 tt 0 [⟨some 75, .move (.tmp 5), none⟩,
  ⟨some 76, .move (.tmp 10), none⟩,
  ⟨some 77, .indexAddr 25 (.tmp 75) (.tmp 76), none⟩,
  ⟨some 78, .fieldAddr 27 (.tmp 77) 5, none⟩,
  ⟨some 79, .load 25 (.tmp 78), none⟩,
  ⟨some 80, .move (.tmp 11), none⟩,
  ⟨some 81, .indexAddr 25 (.tmp 79) (.tmp 80), none⟩,
  ⟨some 82, .load 27 (.tmp 81), none⟩,
  ⟨some 83, .move (.tmp 1), none⟩,
  ⟨some 84, .move (.tmp 8), none⟩,
  ⟨some 85, .indexAddr 28 (.tmp 83) (.tmp 84), none⟩,
  ⟨some 86, .load 52 (.tmp 85), none⟩,
  ⟨some 87, .call 44 [.tmp 82, .tmp 86], none⟩] (dendC [] (Q .normal)) [] env H := awp_draw Try.prog w0 tt N (l := r26_1) (by kernel_rfl) (by kernel_rfl) (by kernel_rfl) mixed env H Q
def l26_0 : XCode := .seq (.seq (
      .region [⟨some 31, .move (.tmp 7), none⟩,
        ⟨some 32, .move (.tmp 6), none⟩,
        ⟨some 33, .len 25 (.tmp 32), none⟩,
        ⟨some 34, .bin .lss 3 (.tmp 31) (.tmp 33), none⟩]) (.cond (.tmp 34) (.skip) (.exit 0))) (.seq (
    .block 1 (.seq (
        .draw r26_0 q26_0) (.cond (.tmp 44) (
        .region [⟨some 45, .move (.tmp 5), none⟩,
          ⟨some 46, .move (.tmp 6), none⟩,
          ⟨some 47, .move (.tmp 7), none⟩,
          ⟨some 48, .indexAddr 25 (.tmp 46) (.tmp 47), none⟩,
          ⟨some 49, .load 27 (.tmp 48), none⟩,
          ⟨some 50, .buildSlice 25 1 [(0, .tmp 49)], none⟩,
          ⟨some 51, .append 25 (.tmp 45) (.tmp 50), none⟩,
          ⟨some 5, .move (.tmp 51), none⟩]) (.skip)))) (
  .region [⟨some 35, .move (.tmp 7), none⟩,
    ⟨some 36, .bin .add 3 (.tmp 35) (.const (.int .i64 1)), none⟩,
    ⟨some 7, .move (.tmp 36), none⟩]))
def l26_1 : XCode := .seq (.seq (
      .region [⟨some 65, .move (.tmp 11), none⟩,
        ⟨some 66, .move (.tmp 5), none⟩,
        ⟨some 67, .move (.tmp 10), none⟩,
        ⟨some 68, .indexAddr 25 (.tmp 66) (.tmp 67), none⟩,
        ⟨some 69, .fieldAddr 27 (.tmp 68) 5, none⟩,
        ⟨some 70, .load 25 (.tmp 69), none⟩,
        ⟨some 71, .len 25 (.tmp 70), none⟩,
        ⟨some 72, .bin .lss 3 (.tmp 65) (.tmp 71), none⟩]) (.cond (.tmp 72) (.skip) (.exit 6))) (.seq (
    .block 7 (.seq (
        .draw r26_1 q26_1) (.cond (.tmp 87) (
        .region [⟨some 88, .move (.tmp 9), none⟩,
          ⟨some 89, .move (.tmp 5), none⟩,
          ⟨some 90, .move (.tmp 10), none⟩,
          ⟨some 91, .indexAddr 25 (.tmp 89) (.tmp 90), none⟩,
          ⟨some 92, .fieldAddr 27 (.tmp 91) 5, none⟩,
          ⟨some 93, .load 25 (.tmp 92), none⟩,
          ⟨some 94, .move (.tmp 11), none⟩,
          ⟨some 95, .indexAddr 25 (.tmp 93) (.tmp 94), none⟩,
          ⟨some 96, .load 27 (.tmp 95), none⟩,
          ⟨some 97, .buildSlice 25 1 [(0, .tmp 96)], none⟩,
          ⟨some 98, .append 25 (.tmp 88) (.tmp 97), none⟩,
          ⟨some 9, .move (.tmp 98), none⟩]) (.skip)))) (
  .region [⟨some 73, .move (.tmp 11), none⟩,
    ⟨some 74, .bin .add 3 (.tmp 73) (.const (.int .i64 1)), none⟩,
    ⟨some 11, .move (.tmp 74), none⟩]))
def l26_2 : XCode := .seq (.seq (
      .region [⟨some 59, .move (.tmp 10), none⟩,
        ⟨some 60, .move (.tmp 5), none⟩,
        ⟨some 61, .len 25 (.tmp 60), none⟩,
        ⟨some 62, .bin .lss 3 (.tmp 59) (.tmp 61), none⟩]) (.cond (.tmp 62) (.skip) (.exit 4))) (.seq (
    .block 5 (.seq (
        .region [⟨some 11, .move (.const (.int .i64 0)), none⟩]) (
      .block 6 (.loop l26_1)))) (
  .region [⟨some 63, .move (.tmp 10), none⟩,
    ⟨some 64, .bin .add 3 (.tmp 63) (.const (.int .i64 1)), none⟩,
    ⟨some 10, .move (.tmp 64), none⟩]))
def l26_3 : XCode := .seq (.seq (
      .region [⟨some 52, .move (.tmp 8), none⟩,
        ⟨some 53, .move (.tmp 1), none⟩,
        ⟨some 54, .len 28 (.tmp 53), none⟩,
        ⟨some 55, .bin .lss 3 (.tmp 52) (.tmp 54), none⟩]) (.cond (.tmp 55) (.skip) (.exit 2))) (.seq (
    .block 3 (.seq (
        .region [⟨some 58, .buildSlice 25 0 [], none⟩,
          ⟨some 9, .move (.tmp 58), none⟩]) (.seq (.seq (
          .region [⟨some 10, .move (.const (.int .i64 0)), none⟩]) (
        .block 4 (.loop l26_2))) (
      .region [⟨some 99, .move (.tmp 9), none⟩,
        ⟨some 5, .move (.tmp 99), none⟩])))) (
  .region [⟨some 56, .move (.tmp 8), none⟩,
    ⟨some 57, .bin .add 3 (.tmp 56) (.const (.int .i64 1)), none⟩,
    ⟨some 8, .move (.tmp 57), none⟩]))
-- pandect/pandectref07.Units
noncomputable def c26 : Code := (Try.f26.body).getD .skip
def x26 : XCode := .seq (
    .region [⟨some 2, .box 27 (.tmp 0), none⟩,
      ⟨some 4, .move (.const (.slice none 0 0)), none⟩]) (.seq (.seq (
      .region [⟨some 12, .move (.tmp 1), none⟩,
        ⟨some 13, .call 41 [.tmp 12], none⟩,
        ⟨some 14, .un .not (.tmp 13), none⟩]) (.cond (.tmp 14) (.seq (
        .region [⟨some 4, .move (.const (.slice none 0 0)), none⟩]) (.ret)) (.skip))) (.seq (.seq (
      .region [⟨some 15, .move (.tmp 1), none⟩,
        ⟨some 16, .len 28 (.tmp 15), none⟩,
        ⟨some 17, .bin .eql 3 (.tmp 16) (.const (.int .i64 0)), none⟩]) (.cond (.tmp 17) (.seq (
        .region [⟨some 18, .load 27 (.tmp 2), none⟩,
          ⟨some 19, .buildSlice 25 1 [(0, .tmp 18)], none⟩,
          ⟨some 4, .move (.tmp 19), none⟩]) (.ret)) (.skip))) (.seq (
    .region [⟨some 20, .buildSlice 25 0 [], none⟩,
      ⟨some 5, .move (.tmp 20), none⟩]) (.seq (.seq (
      .region [⟨some 21, .move (.tmp 1), none⟩,
        ⟨some 22, .indexAddr 28 (.tmp 21) (.const (.int .i64 0)), none⟩,
        ⟨some 23, .load 52 (.tmp 22), none⟩,
        ⟨some 24, .call 42 [.tmp 23], none⟩]) (.cond (.tmp 24) (
      .region [⟨some 25, .move (.tmp 5), none⟩,
        ⟨some 26, .load 27 (.tmp 2), none⟩,
        ⟨some 27, .buildSlice 25 1 [(0, .tmp 26)], none⟩,
        ⟨some 28, .append 25 (.tmp 25) (.tmp 27), none⟩,
        ⟨some 5, .move (.tmp 28), none⟩]) (.seq (
        .region [⟨some 29, .load 27 (.tmp 2), none⟩,
          ⟨some 30, .call 43 [.tmp 29], none⟩,
          ⟨some 6, .move (.tmp 30), none⟩]) (.seq (
        .region [⟨some 7, .move (.const (.int .i64 0)), none⟩]) (
      .block 0 (.loop l26_0)))))) (.seq (.seq (
      .region [⟨some 8, .move (.const (.int .i64 1)), none⟩]) (
    .block 2 (.loop l26_3))) (.seq (
    .region [⟨some 100, .move (.tmp 5), none⟩,
      ⟨some 4, .move (.tmp 100), none⟩]) (.ret)))))))
theorem xc26 : xc c26 = x26 := by kernel_rfl
theorem enter26 {w0 : World} {args : List AV} {H : AH} {Q : AV → AH → Prop} (hn : args.length ≤ 101) (h : H.WF → (∀ a ∈ args, a.Ok) → ∀ (R : APost), (∀ env' H' r, ares tt env' H' [.tmp 4] r → Leave H r H' Q → R .ret env' H') → (∀ env' H', R .ret env' H' → R .normal env' H') → awp Try.prog w0 tt 101 x26 (enumF 0 args) H R) : ACalls Try.prog w0 26 args H Q :=
  ACalls.enterK (c := c26) ttOk Try.func26 (by kernel_rfl) (by kernel_rfl) xc26 (by kernel_rfl) rfl hn h

def r27_0 : List XOp := [⟨some 30, .load 23 (.tmp 6), none⟩,
  ⟨some 31, .load 23 (.tmp 5), none⟩,
  ⟨some 32, .bin .neq 23 (.tmp 30) (.tmp 31), none⟩,
  ⟨some 33, .move (.tmp 32), none⟩,
  ⟨some 34, .load 27 (.tmp 4), some (some 33, true)⟩,
  ⟨some 35, .load 23 (.tmp 6), some (some 33, true)⟩,
  ⟨some 36, .call 47 [.tmp 34, .tmp 35], some (some 33, true)⟩,
  ⟨some 37, .load 23 (.tmp 5), some (some 33, true)⟩,
  ⟨some 38, .call 46 [.tmp 36, .tmp 37], some (some 33, true)⟩,
  ⟨some 39, .pick (.tmp 33) (.tmp 38) (.const (.bool false)), none⟩,
  ⟨some 14, .move (.tmp 39), none⟩]
def q27_0 : List (List Nat) := [[], [], [0, 1], [2], [3], [3], [4, 5, 3, 3], [3], [6, 7, 6, 3], [3, 8], [9, 8, 0, 1, 2, 3, 4, 5, 6, 7, 8, 9]]
theorem dr27_0 {w0 : World} {N : Nat} (env : Env) (H : AH) (Q : APost) : awpC Try.prog w0 tt N (.draw r27_0 q27_0) Q env H = drunC Try.prog w0 tt 0 [⟨some 30, .load 23 (.tmp 6), none⟩,
  ⟨some 31, .load 23 (.tmp 5), none⟩,
  ⟨some 32, .bin .neq 23 (.tmp 30) (.tmp 31), none⟩,
  ⟨some 33, .move (.tmp 32), none⟩,
  ⟨some 34, .load 27 (.tmp 4), some (some 33, true)⟩,
  ⟨some 35, .load 23 (.tmp 6), some (some 33, true)⟩,
  ⟨some 36, .call 47 [.tmp 34, .tmp 35], some (some 33, true)⟩,
  ⟨some 37, .load 23 (.tmp 5), some (some 33, true)⟩,
  ⟨some 38, .call 46 [.tmp 36, .tmp 37], some (some 33, true)⟩,
  ⟨some 39, .pick (.tmp 33) (.tmp 38) (.const (.bool false)), none⟩,
  ⟨some 14, .move (.tmp 39), none⟩] (dendC [] (Q .normal)) [] env H := awp_draw Try.prog w0 tt N (l := r27_0) (by kernel_rfl) (by kernel_rfl) (by kernel_rfl) mixed env H Q
def r27_1 : List XOp := [⟨some 62, .call 22 [], none⟩,
  ⟨some 63, .move (.tmp 3), none⟩,
  ⟨some 64, .index 60 (.tmp 62) (.tmp 63), none⟩,
  ⟨some 65, .load 27 (.tmp 4), none⟩,
  ⟨some 66, .load 23 (.tmp 6), none⟩,
  ⟨some 67, .callv (.tmp 64) [.tmp 65, .tmp 66], none⟩,
  ⟨some 61, .move (.tmp 67), none⟩,
  ⟨some 68, .extract (.tmp 61) 0, none⟩,
  ⟨some 69, .extract (.tmp 61) 1, none⟩,
  ⟨some 15, .alloc 57, none⟩,
  ⟨none, .store 57 (.tmp 15) (.tmp 68), none⟩,
  ⟨some 16, .move (.tmp 69), none⟩]
def q27_1 : List (List Nat) := [[], [], [0, 1], [], [], [2, 3, 4, 0], [5], [6], [6], [], [9, 7, 5, 0, 1, 2, 3, 4, 5, 6, 7, 9], [8, 10, 0, 1, 2, 3, 4, 5, 6, 7, 8, 9, 10]]
theorem dr27_1 {w0 : World} {N : Nat} (env : Env) (H : AH) (Q : APost) : awpC Try.prog w0 tt N (.draw r27_1 q27_1) Q env H = drunC Try.prog w0 tt 0 [⟨some 62, .call 22 [], none⟩,
  ⟨some 63, .move (.tmp 3), none⟩,
  ⟨some 64, .index 60 (.tmp 62) (.tmp 63), none⟩,
  ⟨some 65, .load 27 (.tmp 4), none⟩,
  ⟨some 66, .load 23 (.tmp 6), none⟩,
  ⟨some 67, .callv (.tmp 64) [.tmp 65, .tmp 66], none⟩,
  ⟨some 61, .move (.tmp 67), none⟩,
  ⟨some 68, .extract (.tmp 61) 0, none⟩,
  ⟨some 69, .extract (.tmp 61) 1, none⟩,
  ⟨some 15, .alloc 57, none⟩,
  ⟨none, .store 57 (.tmp 15) (.tmp 68), none⟩,
  ⟨some 16, .move (.tmp 69), none⟩] (dendC [(3, 9), (4, 9)] (Q .normal)) [] env H := awp_draw Try.prog w0 tt N (l := r27_1) (by kernel_rfl) (by kernel_rfl) (by kernel_rfl) mixed env H Q
-- pandect/target.goes
noncomputable def c27 : Code := (Try.f27.body).getD .skip
def x27 : XCode := .seq (
    .region [⟨some 4, .box 27 (.tmp 0), none⟩,
      ⟨some 5, .box 23 (.tmp 1), none⟩,
      ⟨some 6, .box 23 (.tmp 2), none⟩,
      ⟨some 8, .alloc 57, none⟩,
      ⟨some 9, .move (.const (.int .i64 0)), none⟩]) (.seq (
    .region [⟨some 17, .move (.tmp 3), none⟩,
      ⟨some 18, .bin .eql 3 (.tmp 17) (.const (.int .i64 2)), none⟩,
      ⟨some 19, .move (.tmp 18), none⟩,
      ⟨some 20, .move (.tmp 3), some (some 19, false)⟩,
      ⟨some 21, .bin .eql 3 (.tmp 20) (.const (.int .i64 3)), some (some 19, false)⟩,
      ⟨some 22, .pick (.tmp 19) (.const (.bool true)) (.tmp 21), none⟩,
      ⟨some 10, .move (.tmp 22), none⟩]) (.seq (
    .region [⟨some 24, .load 27 (.tmp 4), none⟩,
      ⟨some 25, .load 23 (.tmp 5), none⟩,
      ⟨some 26, .call 45 [.tmp 24, .tmp 25], none⟩,
      ⟨some 23, .move (.tmp 26), none⟩,
      ⟨some 27, .extract (.tmp 23) 0, none⟩,
      ⟨some 28, .extract (.tmp 23) 1, none⟩,
      ⟨some 29, .extract (.tmp 23) 2, none⟩,
      ⟨some 11, .alloc 23, none⟩,
      ⟨none, .store 23 (.tmp 11) (.tmp 27), none⟩,
      ⟨some 12, .move (.tmp 28), none⟩,
      ⟨some 13, .move (.tmp 29), none⟩]) (.seq (
    .draw r27_0 q27_0) (.seq (.seq (
      .region [⟨some 40, .move (.tmp 13), none⟩,
        ⟨some 41, .un .not (.tmp 40), none⟩,
        ⟨some 42, .move (.tmp 41), none⟩,
        ⟨some 43, .move (.tmp 14), some (some 42, false)⟩,
        ⟨some 44, .pick (.tmp 42) (.const (.bool true)) (.tmp 43), none⟩,
        ⟨some 45, .move (.tmp 44), none⟩,
        ⟨some 46, .load 23 (.tmp 6), some (some 45, false)⟩,
        ⟨some 47, .load 23 (.tmp 5), some (some 45, false)⟩,
        ⟨some 48, .bin .eql 23 (.tmp 46) (.tmp 47), some (some 45, false)⟩,
        ⟨some 49, .move (.tmp 48), some (some 45, false)⟩,
        ⟨some 50, .move (.tmp 10), some (some 49, true)⟩,
        ⟨some 51, .un .not (.tmp 50), some (some 49, true)⟩,
        ⟨some 52, .pick (.tmp 49) (.tmp 51) (.const (.bool false)), some (some 45, false)⟩,
        ⟨some 53, .pick (.tmp 45) (.const (.bool true)) (.tmp 52), none⟩]) (.cond (.tmp 53) (.seq (
        .region [⟨some 54, .build 57 [], none⟩,
          ⟨none, .store 57 (.tmp 8) (.tmp 54), none⟩,
          ⟨some 9, .move (.const (.int .i64 9)), none⟩]) (.ret)) (.skip))) (.seq (.seq (
      .region [⟨some 55, .load 23 (.tmp 6), none⟩,
        ⟨some 56, .load 23 (.tmp 5), none⟩,
        ⟨some 57, .bin .eql 23 (.tmp 55) (.tmp 56), none⟩]) (.cond (.tmp 57) (.seq (
        .region [⟨some 58, .load 23 (.tmp 11), none⟩,
          ⟨some 59, .move (.tmp 12), none⟩,
          ⟨some 60, .build 57 [(0, .tmp 58), (1, .tmp 59)], none⟩,
          ⟨none, .store 57 (.tmp 8) (.tmp 60), none⟩,
          ⟨some 9, .move (.const (.int .i64 0)), none⟩]) (.ret)) (.skip))) (.seq (
    .draw r27_1 q27_1) (.seq (.seq (
      .region [⟨some 70, .move (.tmp 16), none⟩,
        ⟨some 71, .bin .eql 38 (.tmp 70) (.const (.int .i64 0)), none⟩,
        ⟨some 72, .move (.tmp 71), none⟩,
        ⟨some 73, .fieldAddr 57 (.tmp 15) 0, some (some 72, true)⟩,
        ⟨some 74, .load 23 (.tmp 73), some (some 72, true)⟩,
        ⟨some 75, .load 23 (.tmp 11), some (some 72, true)⟩,
        ⟨some 76, .bin .eql 23 (.tmp 74) (.tmp 75), some (some 72, true)⟩,
        ⟨some 77, .pick (.tmp 72) (.tmp 76) (.const (.bool false)), none⟩,
        ⟨some 78, .move (.tmp 77), none⟩,
        ⟨some 79, .move (.tmp 12), some (some 78, true)⟩,
        ⟨some 80, .fieldAddr 57 (.tmp 15) 1, some (some 78, true)⟩,
        ⟨some 81, .load 3 (.tmp 80), some (some 78, true)⟩,
        ⟨some 82, .bin .lss 3 (.tmp 79) (.tmp 81), some (some 78, true)⟩,
        ⟨some 83, .pick (.tmp 78) (.tmp 82) (.const (.bool false)), none⟩]) (.cond (.tmp 83) (
      .region [⟨some 84, .fieldAddr 57 (.tmp 15) 1, none⟩,
        ⟨some 85, .load 3 (.tmp 84), none⟩,
        ⟨some 86, .bin .sub 3 (.tmp 85) (.const (.int .i64 1)), none⟩,
        ⟨some 87, .fieldAddr 57 (.tmp 15) 1, none⟩,
        ⟨none, .store 3 (.tmp 87) (.tmp 86), none⟩]) (.skip))) (.seq (
    .region [⟨some 88, .load 57 (.tmp 15), none⟩,
      ⟨some 89, .move (.tmp 16), none⟩,
      ⟨none, .store 57 (.tmp 8) (.tmp 88), none⟩,
      ⟨some 9, .move (.tmp 89), none⟩]) (.ret)))))))))
theorem xc27 : xc c27 = x27 := by kernel_rfl
theorem enter27 {w0 : World} {args : List AV} {H : AH} {Q : AV → AH → Prop} (hn : args.length ≤ 90) (h : H.WF → (∀ a ∈ args, a.Ok) → ∀ (R : APost), (∀ env' H' r, ares tt env' H' [.cell 8 57, .tmp 9] r → Leave H r H' Q → R .ret env' H') → (∀ env' H', R .ret env' H' → R .normal env' H') → awp Try.prog w0 tt 90 x27 (enumF 0 args) H R) : ACalls Try.prog w0 27 args H Q :=
  ACalls.enterK (c := c27) ttOk Try.func27 (by kernel_rfl) (by kernel_rfl) xc27 (by kernel_rfl) rfl hn h

def l28_0 : XCode := .seq (.seq (
      .region [⟨some 13, .move (.tmp 8), none⟩,
        ⟨some 14, .fieldAddr 27 (.tmp 3) 5, none⟩,
        ⟨some 15, .load 25 (.tmp 14), none⟩,
        ⟨some 16, .len 25 (.tmp 15), none⟩,
        ⟨some 17, .bin .lss 3 (.tmp 13) (.tmp 16), none⟩,
        ⟨some 18, .move (.tmp 17), none⟩,
        ⟨some 19, .move (.tmp 7), some (some 18, true)⟩,
        ⟨some 20, .move (.tmp 2), some (some 18, true)⟩,
        ⟨some 21, .bin .leq 3 (.tmp 19) (.tmp 20), some (some 18, true)⟩,
        ⟨some 22, .pick (.tmp 18) (.tmp 21) (.const (.bool false)), none⟩]) (.cond (.tmp 22) (.skip) (.exit 0))) (.seq (
    .block 1 (
      .region [⟨some 25, .move (.tmp 7), none⟩,
        ⟨some 26, .fieldAddr 27 (.tmp 3) 5, none⟩,
        ⟨some 27, .load 25 (.tmp 26), none⟩,
        ⟨some 28, .move (.tmp 8), none⟩,
        ⟨some 29, .indexAddr 25 (.tmp 27) (.tmp 28), none⟩,
        ⟨some 30, .load 27 (.tmp 29), none⟩,
        ⟨some 31, .move (.tmp 1), none⟩,
        ⟨some 32, .bin .add 3 (.tmp 31) (.const (.int .i64 1)), none⟩,
        ⟨some 33, .move (.tmp 2), none⟩,
        ⟨some 34, .move (.tmp 7), none⟩,
        ⟨some 35, .bin .sub 3 (.tmp 33) (.tmp 34), none⟩,
        ⟨some 36, .call 28 [.tmp 30, .tmp 32, .tmp 35], none⟩,
        ⟨some 37, .bin .add 3 (.tmp 25) (.tmp 36), none⟩,
        ⟨some 7, .move (.tmp 37), none⟩])) (
  .region [⟨some 23, .move (.tmp 8), none⟩,
    ⟨some 24, .bin .add 3 (.tmp 23) (.const (.int .i64 1)), none⟩,
    ⟨some 8, .move (.tmp 24), none⟩]))
-- pandect/pandectref06.size
noncomputable def c28 : Code := (Try.f28.body).getD .skip
def x28 : XCode := .seq (
    .region [⟨some 3, .box 27 (.tmp 0), none⟩,
      ⟨some 6, .move (.const (.int .i64 0)), none⟩]) (.seq (.seq (
      .region [⟨some 9, .move (.tmp 1), none⟩,
        ⟨some 10, .bin .gtr 3 (.tmp 9) (.const (.int .i64 20)), none⟩]) (.cond (.tmp 10) (.seq (
        .region [⟨some 11, .move (.tmp 2), none⟩,
          ⟨some 12, .bin .add 3 (.tmp 11) (.const (.int .i64 1)), none⟩,
          ⟨some 6, .move (.tmp 12), none⟩]) (.ret)) (.skip))) (.seq (
    .region [⟨some 7, .move (.const (.int .i64 1)), none⟩]) (.seq (.seq (
      .region [⟨some 8, .move (.const (.int .i64 0)), none⟩]) (
    .block 0 (.loop l28_0))) (.seq (
    .region [⟨some 38, .move (.tmp 7), none⟩,
      ⟨some 6, .move (.tmp 38), none⟩]) (.ret)))))
theorem xc28 : xc c28 = x28 := by kernel_rfl
theorem enter28 {w0 : World} {args : List AV} {H : AH} {Q : AV → AH → Prop} (hn : args.length ≤ 39) (h : H.WF → (∀ a ∈ args, a.Ok) → ∀ (R : APost), (∀ env' H' r, ares tt env' H' [.tmp 6] r → Leave H r H' Q → R .ret env' H') → (∀ env' H', R .ret env' H' → R .normal env' H') → awp Try.prog w0 tt 39 x28 (enumF 0 args) H R) : ACalls Try.prog w0 28 args H Q :=
  ACalls.enterK (c := c28) ttOk Try.func28 (by kernel_rfl) (by kernel_rfl) xc28 (by kernel_rfl) rfl hn h

def l29_0 : XCode := .seq (.seq (
      .region [⟨some 20, .move (.tmp 3), none⟩,
        ⟨some 21, .fieldAddr 27 (.tmp 1) 5, none⟩,
        ⟨some 22, .load 25 (.tmp 21), none⟩,
        ⟨some 23, .len 25 (.tmp 22), none⟩,
        ⟨some 24, .bin .lss 3 (.tmp 20) (.tmp 23), none⟩]) (.cond (.tmp 24) (.skip) (.exit 0))) (.seq (
    .block 1 (.seq (
        .region [⟨some 27, .fieldAddr 27 (.tmp 1) 5, none⟩,
          ⟨some 28, .load 25 (.tmp 27), none⟩,
          ⟨some 29, .move (.tmp 3), none⟩,
          ⟨some 30, .indexAddr 25 (.tmp 28) (.tmp 29), none⟩,
          ⟨some 31, .load 27 (.tmp 30), none⟩,
          ⟨some 32, .call 29 [.tmp 31], none⟩,
          ⟨some 33, .un .not (.tmp 32), none⟩]) (.cond (.tmp 33) (.seq (
          .region [⟨some 2, .move (.const (.bool false)), none⟩]) (.ret)) (.skip)))) (
  .region [⟨some 25, .move (.tmp 3), none⟩,
    ⟨some 26, .bin .add 3 (.tmp 25) (.const (.int .i64 1)), none⟩,
    ⟨some 3, .move (.tmp 26), none⟩]))
-- pandect/pandectref06.words
noncomputable def c29 : Code := (Try.f29.body).getD .skip
def x29 : XCode := .seq (
    .region [⟨some 1, .box 27 (.tmp 0), none⟩,
      ⟨some 2, .move (.const (.bool false)), none⟩]) (.seq (.seq (
      .region [⟨some 4, .fieldAddr 27 (.tmp 1) 2, none⟩,
        ⟨some 5, .load 9 (.tmp 4), none⟩,
        ⟨some 6, .len 9 (.tmp 5), none⟩,
        ⟨some 7, .bin .gtr 3 (.tmp 6) (.const (.int .i64 30)), none⟩,
        ⟨some 8, .move (.tmp 7), none⟩,
        ⟨some 9, .fieldAddr 27 (.tmp 1) 3, some (some 8, false)⟩,
        ⟨some 10, .load 24 (.tmp 9), some (some 8, false)⟩,
        ⟨some 11, .call 48 [.tmp 10], some (some 8, false)⟩,
        ⟨some 12, .un .not (.tmp 11), some (some 8, false)⟩,
        ⟨some 13, .pick (.tmp 8) (.const (.bool true)) (.tmp 12), none⟩,
        ⟨some 14, .move (.tmp 13), none⟩,
        ⟨some 15, .fieldAddr 27 (.tmp 1) 4, some (some 14, false)⟩,
        ⟨some 16, .load 24 (.tmp 15), some (some 14, false)⟩,
        ⟨some 17, .call 48 [.tmp 16], some (some 14, false)⟩,
        ⟨some 18, .un .not (.tmp 17), some (some 14, false)⟩,
        ⟨some 19, .pick (.tmp 14) (.const (.bool true)) (.tmp 18), none⟩]) (.cond (.tmp 19) (.seq (
        .region [⟨some 2, .move (.const (.bool false)), none⟩]) (.ret)) (.skip))) (.seq (.seq (
      .region [⟨some 3, .move (.const (.int .i64 0)), none⟩]) (
    .block 0 (.loop l29_0))) (.seq (
    .region [⟨some 2, .move (.const (.bool true)), none⟩]) (.ret))))
theorem xc29 : xc c29 = x29 := by kernel_rfl
theorem enter29 {w0 : World} {args : List AV} {H : AH} {Q : AV → AH → Prop} (hn : args.length ≤ 34) (h : H.WF → (∀ a ∈ args, a.Ok) → ∀ (R : APost), (∀ env' H' r, ares tt env' H' [.tmp 2] r → Leave H r H' Q → R .ret env' H') → (∀ env' H', R .ret env' H' → R .normal env' H') → awp Try.prog w0 tt 34 x29 (enumF 0 args) H R) : ACalls Try.prog w0 29 args H Q :=
  ACalls.enterK (c := c29) ttOk Try.func29 (by kernel_rfl) (by kernel_rfl) xc29 (by kernel_rfl) rfl hn h

-- pandect/pandectref06.May
noncomputable def c30 : Code := (Try.f30.body).getD .skip
def x30 : XCode := .seq (
    .region [⟨some 1, .box 27 (.tmp 0), none⟩,
      ⟨some 2, .move (.const (.bool false)), none⟩]) (.seq (
    .region [⟨some 3, .load 27 (.tmp 1), none⟩,
      ⟨some 4, .call 49 [.tmp 3], none⟩,
      ⟨some 5, .move (.tmp 4), none⟩,
      ⟨some 6, .load 27 (.tmp 1), some (some 5, true)⟩,
      ⟨some 7, .call 50 [.tmp 6], some (some 5, true)⟩,
      ⟨some 8, .bin .leq 3 (.tmp 7) (.const (.int .i64 8)), some (some 5, true)⟩,
      ⟨some 9, .pick (.tmp 5) (.tmp 8) (.const (.bool false)), none⟩,
      ⟨some 10, .move (.tmp 9), none⟩,
      ⟨some 11, .load 27 (.tmp 1), some (some 10, true)⟩,
      ⟨some 12, .call 51 [.tmp 11], some (some 10, true)⟩,
      ⟨some 13, .bin .leq 3 (.tmp 12) (.const (.int .i64 1024)), some (some 10, true)⟩,
      ⟨some 14, .pick (.tmp 10) (.tmp 13) (.const (.bool false)), none⟩,
      ⟨some 15, .move (.tmp 14), none⟩,
      ⟨some 16, .load 27 (.tmp 1), some (some 15, true)⟩,
      ⟨some 17, .call 52 [.tmp 16], some (some 15, true)⟩,
      ⟨some 18, .pick (.tmp 15) (.tmp 17) (.const (.bool false)), none⟩,
      ⟨some 2, .move (.tmp 18), none⟩]) (.ret))
theorem xc30 : xc c30 = x30 := by kernel_rfl
theorem enter30 {w0 : World} {args : List AV} {H : AH} {Q : AV → AH → Prop} (hn : args.length ≤ 19) (h : H.WF → (∀ a ∈ args, a.Ok) → ∀ (R : APost), (∀ env' H' r, ares tt env' H' [.tmp 2] r → Leave H r H' Q → R .ret env' H') → (∀ env' H', R .ret env' H' → R .normal env' H') → awp Try.prog w0 tt 19 x30 (enumF 0 args) H R) : ACalls Try.prog w0 30 args H Q :=
  ACalls.enterK (c := c30) ttOk Try.func30 (by kernel_rfl) (by kernel_rfl) xc30 (by kernel_rfl) rfl hn h

def l31_0 : XCode := .seq (.seq (
      .region [⟨some 13, .move (.tmp 3), none⟩,
        ⟨some 14, .fieldAddr 27 (.tmp 1) 5, none⟩,
        ⟨some 15, .load 25 (.tmp 14), none⟩,
        ⟨some 16, .len 25 (.tmp 15), none⟩,
        ⟨some 17, .bin .lss 3 (.tmp 13) (.tmp 16), none⟩]) (.cond (.tmp 17) (.skip) (.exit 0))) (.seq (
    .block 1 (.seq (
        .region [⟨some 20, .fieldAddr 27 (.tmp 1) 5, none⟩,
          ⟨some 21, .load 25 (.tmp 20), none⟩,
          ⟨some 22, .move (.tmp 3), none⟩,
          ⟨some 23, .indexAddr 25 (.tmp 21) (.tmp 22), none⟩,
          ⟨some 24, .load 27 (.tmp 23), none⟩,
          ⟨some 25, .call 31 [.tmp 24], none⟩,
          ⟨some 26, .un .not (.tmp 25), none⟩]) (.cond (.tmp 26) (.seq (
          .region [⟨some 2, .move (.const (.bool false)), none⟩]) (.ret)) (.skip)))) (
  .region [⟨some 18, .move (.tmp 3), none⟩,
    ⟨some 19, .bin .add 3 (.tmp 18) (.const (.int .i64 1)), none⟩,
    ⟨some 3, .move (.tmp 19), none⟩]))
-- pandect/pandectref08.named
noncomputable def c31 : Code := (Try.f31.body).getD .skip
def x31 : XCode := .seq (
    .region [⟨some 1, .box 27 (.tmp 0), none⟩,
      ⟨some 2, .move (.const (.bool false)), none⟩]) (.seq (.seq (
      .region [⟨some 4, .fieldAddr 27 (.tmp 1) 1, none⟩,
        ⟨some 5, .load 3 (.tmp 4), none⟩,
        ⟨some 6, .bin .neq 3 (.tmp 5) (.const (.int .i64 0)), none⟩,
        ⟨some 7, .move (.tmp 6), none⟩,
        ⟨some 8, .fieldAddr 27 (.tmp 1) 0, some (some 7, true)⟩,
        ⟨some 9, .load 23 (.tmp 8), some (some 7, true)⟩,
        ⟨some 10, .build 23 [], some (some 7, true)⟩,
        ⟨some 11, .bin .eql 23 (.tmp 9) (.tmp 10), some (some 7, true)⟩,
        ⟨some 12, .pick (.tmp 7) (.tmp 11) (.const (.bool false)), none⟩]) (.cond (.tmp 12) (.seq (
        .region [⟨some 2, .move (.const (.bool false)), none⟩]) (.ret)) (.skip))) (.seq (.seq (
      .region [⟨some 3, .move (.const (.int .i64 0)), none⟩]) (
    .block 0 (.loop l31_0))) (.seq (
    .region [⟨some 2, .move (.const (.bool true)), none⟩]) (.ret))))
theorem xc31 : xc c31 = x31 := by kernel_rfl
theorem enter31 {w0 : World} {args : List AV} {H : AH} {Q : AV → AH → Prop} (hn : args.length ≤ 27) (h : H.WF → (∀ a ∈ args, a.Ok) → ∀ (R : APost), (∀ env' H' r, ares tt env' H' [.tmp 2] r → Leave H r H' Q → R .ret env' H') → (∀ env' H', R .ret env' H' → R .normal env' H') → awp Try.prog w0 tt 27 x31 (enumF 0 args) H R) : ACalls Try.prog w0 31 args H Q :=
  ACalls.enterK (c := c31) ttOk Try.func31 (by kernel_rfl) (by kernel_rfl) xc31 (by kernel_rfl) rfl hn h

-- pandect/target.leads$1
noncomputable def c32 : Code := (Try.f32.body).getD .skip
def x32 : XCode := .seq (
    .region [⟨some 2, .box 27 (.tmp 0), none⟩,
      ⟨some 3, .box 23 (.tmp 1), none⟩,
      ⟨some 4, .alloc 57, none⟩,
      ⟨some 5, .move (.const (.int .i64 0)), none⟩]) (.seq (
    .region [⟨some 6, .load 27 (.tmp 2), none⟩,
      ⟨some 7, .load 23 (.tmp 3), none⟩,
      ⟨some 8, .call 33 [.tmp 6, .tmp 7, .func 34], none⟩,
      ⟨some 9, .extract (.tmp 8) 0, none⟩,
      ⟨some 10, .extract (.tmp 8) 1, none⟩,
      ⟨none, .store 57 (.tmp 4) (.tmp 9), none⟩,
      ⟨some 5, .move (.tmp 10), none⟩]) (.ret))
theorem xc32 : xc c32 = x32 := by kernel_rfl
theorem enter32 {w0 : World} {args : List AV} {H : AH} {Q : AV → AH → Prop} (hn : args.length ≤ 11) (h : H.WF → (∀ a ∈ args, a.Ok) → ∀ (R : APost), (∀ env' H' r, ares tt env' H' [.cell 4 57, .tmp 5] r → Leave H r H' Q → R .ret env' H') → (∀ env' H', R .ret env' H' → R .normal env' H') → awp Try.prog w0 tt 11 x32 (enumF 0 args) H R) : ACalls Try.prog w0 32 args H Q :=
  ACalls.enterK (c := c32) ttOk Try.func32 (by kernel_rfl) (by kernel_rfl) xc32 (by kernel_rfl) rfl hn h

def r33_0 : List XOp := [⟨some 16, .load 23 (.tmp 4), none⟩,
  ⟨some 17, .move (.tmp 2), none⟩,
  ⟨some 18, .fieldAddr 27 (.tmp 8) 5, none⟩,
  ⟨some 19, .load 25 (.tmp 18), none⟩,
  ⟨some 20, .len 25 (.tmp 19), none⟩,
  ⟨some 21, .callv (.tmp 17) [.tmp 20], none⟩,
  ⟨some 22, .build 57 [(0, .tmp 16), (1, .tmp 21)], none⟩,
  ⟨none, .store 57 (.tmp 6) (.tmp 22), none⟩,
  ⟨some 7, .move (.const (.int .i64 0)), none⟩]
def q33_0 : List (List Nat) := [[], [], [], [2], [3], [1, 4], [0, 5], [6, 5, 0, 1, 2, 3, 4, 5, 6], [7, 0, 1, 2, 3, 4, 5, 6, 7]]
theorem dr33_0 {w0 : World} {N : Nat} (env : Env) (H : AH) (Q : APost) : awpC Try.prog w0 tt N (.draw r33_0 q33_0) Q env H = drunC Try.prog w0 tt 0 [⟨some 16, .load 23 (.tmp 4), none⟩,
  ⟨some 17, .move (.tmp 2), none⟩,
  ⟨some 18, .fieldAddr 27 (.tmp 8) 5, none⟩,
  ⟨some 19, .load 25 (.tmp 18), none⟩,
  ⟨some 20, .len 25 (.tmp 19), none⟩,
  ⟨some 21, .callv (.tmp 17) [.tmp 20], none⟩,
  ⟨some 22, .build 57 [(0, .tmp 16), (1, .tmp 21)], none⟩,
  ⟨none, .store 57 (.tmp 6) (.tmp 22), none⟩,
  ⟨some 7, .move (.const (.int .i64 0)), none⟩] (dendC [] (Q .normal)) [] env H := awp_draw Try.prog w0 tt N (l := r33_0) (by kernel_rfl) (by kernel_rfl) (by kernel_rfl) mixed env H Q
-- pandect/target.into
noncomputable def c33 : Code := (Try.f33.body).getD .skip
def x33 : XCode := .seq (
    .region [⟨some 3, .box 27 (.tmp 0), none⟩,
      ⟨some 4, .box 23 (.tmp 1), none⟩,
      ⟨some 6, .alloc 57, none⟩,
      ⟨some 7, .move (.const (.int .i64 0)), none⟩]) (.seq (
    .region [⟨some 11, .load 27 (.tmp 3), none⟩,
      ⟨some 12, .load 23 (.tmp 4), none⟩,
      ⟨some 13, .call 53 [.tmp 11, .tmp 12], none⟩,
      ⟨some 10, .move (.tmp 13), none⟩,
      ⟨some 14, .extract (.tmp 10) 0, none⟩,
      ⟨some 15, .extract (.tmp 10) 1, none⟩,
      ⟨some 8, .alloc 27, none⟩,
      ⟨none, .store 27 (.tmp 8) (.tmp 14), none⟩,
      ⟨some 9, .move (.tmp 15), none⟩]) (.seq (
    .draw r33_0 q33_0) (.ret)))
theorem xc33 : xc c33 = x33 := by kernel_rfl
theorem enter33 {w0 : World} {args : List AV} {H : AH} {Q : AV → AH → Prop} (hn : args.length ≤ 23) (h : H.WF → (∀ a ∈ args, a.Ok) → ∀ (R : APost), (∀ env' H' r, ares tt env' H' [.cell 6 57, .tmp 7] r → Leave H r H' Q → R .ret env' H') → (∀ env' H', R .ret env' H' → R .normal env' H') → awp Try.prog w0 tt 23 x33 (enumF 0 args) H R) : ACalls Try.prog w0 33 args H Q :=
  ACalls.enterK (c := c33) ttOk Try.func33 (by kernel_rfl) (by kernel_rfl) xc33 (by kernel_rfl) rfl hn h

-- pandect/target.leads$1$1
noncomputable def c34 : Code := (Try.f34.body).getD .skip
def x34 : XCode := .seq (
    .region [⟨some 2, .move (.const (.int .i64 0)), none⟩]) (.seq (
    .region [⟨some 2, .move (.const (.int .i64 0)), none⟩]) (.ret))
theorem xc34 : xc c34 = x34 := by kernel_rfl
theorem enter34 {w0 : World} {args : List AV} {H : AH} {Q : AV → AH → Prop} (hn : args.length ≤ 3) (h : H.WF → (∀ a ∈ args, a.Ok) → ∀ (R : APost), (∀ env' H' r, ares tt env' H' [.tmp 2] r → Leave H r H' Q → R .ret env' H') → (∀ env' H', R .ret env' H' → R .normal env' H') → awp Try.prog w0 tt 3 x34 (enumF 0 args) H R) : ACalls Try.prog w0 34 args H Q :=
  ACalls.enterK (c := c34) ttOk Try.func34 (by kernel_rfl) (by kernel_rfl) xc34 (by kernel_rfl) rfl hn h

-- pandect/target.leads$2
noncomputable def c35 : Code := (Try.f35.body).getD .skip
def x35 : XCode := .seq (
    .region [⟨some 2, .box 27 (.tmp 0), none⟩,
      ⟨some 3, .box 23 (.tmp 1), none⟩,
      ⟨some 4, .alloc 57, none⟩,
      ⟨some 5, .move (.const (.int .i64 0)), none⟩]) (.seq (
    .region [⟨some 6, .load 27 (.tmp 2), none⟩,
      ⟨some 7, .load 23 (.tmp 3), none⟩,
      ⟨some 8, .call 33 [.tmp 6, .tmp 7, .func 36], none⟩,
      ⟨some 9, .extract (.tmp 8) 0, none⟩,
      ⟨some 10, .extract (.tmp 8) 1, none⟩,
      ⟨none, .store 57 (.tmp 4) (.tmp 9), none⟩,
      ⟨some 5, .move (.tmp 10), none⟩]) (.ret))
theorem xc35 : xc c35 = x35 := by kernel_rfl
theorem enter35 {w0 : World} {args : List AV} {H : AH} {Q : AV → AH → Prop} (hn : args.length ≤ 11) (h : H.WF → (∀ a ∈ args, a.Ok) → ∀ (R : APost), (∀ env' H' r, ares tt env' H' [.cell 4 57, .tmp 5] r → Leave H r H' Q → R .ret env' H') → (∀ env' H', R .ret env' H' → R .normal env' H') → awp Try.prog w0 tt 11 x35 (enumF 0 args) H R) : ACalls Try.prog w0 35 args H Q :=
  ACalls.enterK (c := c35) ttOk Try.func35 (by kernel_rfl) (by kernel_rfl) xc35 (by kernel_rfl) rfl hn h

-- pandect/target.leads$2$1
noncomputable def c36 : Code := (Try.f36.body).getD .skip
def x36 : XCode := .seq (
    .region [⟨some 2, .move (.const (.int .i64 0)), none⟩]) (.seq (
    .region [⟨some 3, .move (.tmp 0), none⟩,
      ⟨some 2, .move (.tmp 3), none⟩]) (.ret))
theorem xc36 : xc c36 = x36 := by kernel_rfl
theorem enter36 {w0 : World} {args : List AV} {H : AH} {Q : AV → AH → Prop} (hn : args.length ≤ 4) (h : H.WF → (∀ a ∈ args, a.Ok) → ∀ (R : APost), (∀ env' H' r, ares tt env' H' [.tmp 2] r → Leave H r H' Q → R .ret env' H') → (∀ env' H', R .ret env' H' → R .normal env' H') → awp Try.prog w0 tt 4 x36 (enumF 0 args) H R) : ACalls Try.prog w0 36 args H Q :=
  ACalls.enterK (c := c36) ttOk Try.func36 (by kernel_rfl) (by kernel_rfl) xc36 (by kernel_rfl) rfl hn h

-- pandect/target.leads$3
noncomputable def c37 : Code := (Try.f37.body).getD .skip
def x37 : XCode := .seq (
    .region [⟨some 2, .box 27 (.tmp 0), none⟩,
      ⟨some 3, .box 23 (.tmp 1), none⟩,
      ⟨some 4, .alloc 57, none⟩,
      ⟨some 5, .move (.const (.int .i64 0)), none⟩]) (.seq (
    .region [⟨some 6, .load 27 (.tmp 2), none⟩,
      ⟨some 7, .load 23 (.tmp 3), none⟩,
      ⟨some 8, .call 38 [.tmp 6, .tmp 7, .const (.int .i64 1)], none⟩,
      ⟨some 9, .extract (.tmp 8) 0, none⟩,
      ⟨some 10, .extract (.tmp 8) 1, none⟩,
      ⟨none, .store 57 (.tmp 4) (.tmp 9), none⟩,
      ⟨some 5, .move (.tmp 10), none⟩]) (.ret))
theorem xc37 : xc c37 = x37 := by kernel_rfl
theorem enter37 {w0 : World} {args : List AV} {H : AH} {Q : AV → AH → Prop} (hn : args.length ≤ 11) (h : H.WF → (∀ a ∈ args, a.Ok) → ∀ (R : APost), (∀ env' H' r, ares tt env' H' [.cell 4 57, .tmp 5] r → Leave H r H' Q → R .ret env' H') → (∀ env' H', R .ret env' H' → R .normal env' H') → awp Try.prog w0 tt 11 x37 (enumF 0 args) H R) : ACalls Try.prog w0 37 args H Q :=
  ACalls.enterK (c := c37) ttOk Try.func37 (by kernel_rfl) (by kernel_rfl) xc37 (by kernel_rfl) rfl hn h

-- pandect/target.beside
noncomputable def c38 : Code := (Try.f38.body).getD .skip
def x38 : XCode := .seq (
    .region [⟨some 3, .box 27 (.tmp 0), none⟩,
      ⟨some 4, .box 23 (.tmp 1), none⟩,
      ⟨some 6, .alloc 57, none⟩,
      ⟨some 7, .move (.const (.int .i64 0)), none⟩]) (.seq (
    .region [⟨some 12, .load 27 (.tmp 3), none⟩,
      ⟨some 13, .load 23 (.tmp 4), none⟩,
      ⟨some 14, .call 45 [.tmp 12, .tmp 13], none⟩,
      ⟨some 11, .move (.tmp 14), none⟩,
      ⟨some 15, .extract (.tmp 11) 0, none⟩,
      ⟨some 16, .extract (.tmp 11) 1, none⟩,
      ⟨some 17, .extract (.tmp 11) 2, none⟩,
      ⟨some 8, .alloc 23, none⟩,
      ⟨none, .store 23 (.tmp 8) (.tmp 15), none⟩,
      ⟨some 9, .move (.tmp 16), none⟩,
      ⟨some 10, .move (.tmp 17), none⟩]) (.seq (.seq (
      .region [⟨some 18, .move (.tmp 10), none⟩,
        ⟨some 19, .un .not (.tmp 18), none⟩]) (.cond (.tmp 19) (.seq (
        .region [⟨some 20, .build 57 [], none⟩,
          ⟨none, .store 57 (.tmp 6) (.tmp 20), none⟩,
          ⟨some 7, .move (.const (.int .i64 9)), none⟩]) (.ret)) (.skip))) (.seq (
    .region [⟨some 21, .load 23 (.tmp 8), none⟩,
      ⟨some 22, .move (.tmp 9), none⟩,
      ⟨some 23, .move (.tmp 2), none⟩,
      ⟨some 24, .bin .add 3 (.tmp 22) (.tmp 23), none⟩,
      ⟨some 25, .build 57 [(0, .tmp 21), (1, .tmp 24)], none⟩,
      ⟨none, .store 57 (.tmp 6) (.tmp 25), none⟩,
      ⟨some 7, .move (.const (.int .i64 0)), none⟩]) (.ret))))
theorem xc38 : xc c38 = x38 := by kernel_rfl
theorem enter38 {w0 : World} {args : List AV} {H : AH} {Q : AV → AH → Prop} (hn : args.length ≤ 26) (h : H.WF → (∀ a ∈ args, a.Ok) → ∀ (R : APost), (∀ env' H' r, ares tt env' H' [.cell 6 57, .tmp 7] r → Leave H r H' Q → R .ret env' H') → (∀ env' H', R .ret env' H' → R .normal env' H') → awp Try.prog w0 tt 26 x38 (enumF 0 args) H R) : ACalls Try.prog w0 38 args H Q :=
  ACalls.enterK (c := c38) ttOk Try.func38 (by kernel_rfl) (by kernel_rfl) xc38 (by kernel_rfl) rfl hn h

-- pandect/target.leads$4
noncomputable def c39 : Code := (Try.f39.body).getD .skip
def x39 : XCode := .seq (
    .region [⟨some 2, .box 27 (.tmp 0), none⟩,
      ⟨some 3, .box 23 (.tmp 1), none⟩,
      ⟨some 4, .alloc 57, none⟩,
      ⟨some 5, .move (.const (.int .i64 0)), none⟩]) (.seq (
    .region [⟨some 6, .load 27 (.tmp 2), none⟩,
      ⟨some 7, .load 23 (.tmp 3), none⟩,
      ⟨some 8, .call 38 [.tmp 6, .tmp 7, .const (.int .i64 0)], none⟩,
      ⟨some 9, .extract (.tmp 8) 0, none⟩,
      ⟨some 10, .extract (.tmp 8) 1, none⟩,
      ⟨none, .store 57 (.tmp 4) (.tmp 9), none⟩,
      ⟨some 5, .move (.tmp 10), none⟩]) (.ret))
theorem xc39 : xc c39 = x39 := by kernel_rfl
theorem enter39 {w0 : World} {args : List AV} {H : AH} {Q : AV → AH → Prop} (hn : args.length ≤ 11) (h : H.WF → (∀ a ∈ args, a.Ok) → ∀ (R : APost), (∀ env' H' r, ares tt env' H' [.cell 4 57, .tmp 5] r → Leave H r H' Q → R .ret env' H') → (∀ env' H', R .ret env' H' → R .normal env' H') → awp Try.prog w0 tt 11 x39 (enumF 0 args) H R) : ACalls Try.prog w0 39 args H Q :=
  ACalls.enterK (c := c39) ttOk Try.func39 (by kernel_rfl) (by kernel_rfl) xc39 (by kernel_rfl) rfl hn h

def l40_0 : XCode := .seq (
    .region [⟨some 49, .bin .lss 3 (.tmp 48) (.tmp 47), none⟩]) (.seq (.cond (.tmp 49) (.skip) (.exit 5)) (.seq (
    .block 6 (.seq (
        .region [⟨some 50, .indexAddr 25 (.tmp 46) (.tmp 48), none⟩,
          ⟨some 51, .load 27 (.tmp 50), none⟩,
          ⟨some 12, .alloc 27, none⟩,
          ⟨none, .store 27 (.tmp 12) (.tmp 51), none⟩]) (.seq (
        .region [⟨some 52, .load 27 (.tmp 12), none⟩,
          ⟨some 53, .load 52 (.tmp 7), none⟩,
          ⟨some 54, .call 58 [.tmp 52, .tmp 53], none⟩]) (.cond (.tmp 54) (
        .region [⟨some 55, .move (.tmp 8), none⟩,
          ⟨some 56, .load 27 (.tmp 12), none⟩,
          ⟨some 57, .buildSlice 25 1 [(0, .tmp 56)], none⟩,
          ⟨some 58, .append 25 (.tmp 55) (.tmp 57), none⟩,
          ⟨some 8, .move (.tmp 58), none⟩]) (.skip))))) (
  .region [⟨some 59, .bin .add 3 (.tmp 48) (.const (.int .i64 1)), none⟩,
    ⟨some 48, .move (.tmp 59), none⟩])))
def l40_1 : XCode := .seq (
    .region [⟨some 42, .bin .lss 3 (.tmp 41) (.tmp 40), none⟩]) (.seq (.cond (.tmp 42) (.skip) (.exit 3)) (.seq (
    .block 4 (.seq (
        .region [⟨some 43, .indexAddr 25 (.tmp 39) (.tmp 41), none⟩,
          ⟨some 44, .load 27 (.tmp 43), none⟩,
          ⟨some 10, .alloc 27, none⟩,
          ⟨none, .store 27 (.tmp 10) (.tmp 44), none⟩]) (.seq (
        .region [⟨some 45, .fieldAddr 27 (.tmp 10) 5, none⟩,
          ⟨some 46, .load 25 (.tmp 45), none⟩,
          ⟨some 47, .len 25 (.tmp 46), none⟩,
          ⟨some 48, .move (.const (.int .i64 0)), none⟩]) (
      .block 5 (.loop l40_0))))) (
  .region [⟨some 60, .bin .add 3 (.tmp 41) (.const (.int .i64 1)), none⟩,
    ⟨some 41, .move (.tmp 60), none⟩])))
def l40_2 : XCode := .seq (
    .region [⟨some 36, .bin .lss 3 (.tmp 35) (.tmp 34), none⟩]) (.seq (.cond (.tmp 36) (.skip) (.exit 1)) (.seq (
    .block 2 (.seq (
        .region [⟨some 37, .indexAddr 28 (.tmp 33) (.tmp 35), none⟩,
          ⟨some 38, .load 52 (.tmp 37), none⟩,
          ⟨some 7, .alloc 52, none⟩,
          ⟨none, .store 52 (.tmp 7) (.tmp 38), none⟩]) (.seq (
        .region [⟨some 8, .move (.const (.slice none 0 0)), none⟩]) (.seq (.seq (
          .region [⟨some 39, .load 25 (.tmp 5), none⟩,
            ⟨some 40, .len 25 (.tmp 39), none⟩,
            ⟨some 41, .move (.const (.int .i64 0)), none⟩]) (
        .block 3 (.loop l40_1))) (
      .region [⟨some 61, .move (.tmp 8), none⟩,
        ⟨none, .store 25 (.tmp 5) (.tmp 61), none⟩]))))) (
  .region [⟨some 62, .bin .add 3 (.tmp 35) (.const (.int .i64 1)), none⟩,
    ⟨some 35, .move (.tmp 62), none⟩])))
-- pandect/address.found
noncomputable def c40 : Code := (Try.f40.body).getD .skip
def x40 : XCode := .seq (
    .region [⟨some 2, .box 27 (.tmp 0), none⟩,
      ⟨some 3, .box 28 (.tmp 1), none⟩,
      ⟨some 4, .move (.const (.slice none 0 0)), none⟩]) (.seq (.seq (
      .region [⟨some 13, .load 28 (.tmp 3), none⟩,
        ⟨some 14, .call 54 [.tmp 13], none⟩,
        ⟨some 15, .un .not (.tmp 14), none⟩]) (.cond (.tmp 15) (.seq (
        .region [⟨some 4, .move (.const (.slice none 0 0)), none⟩]) (.ret)) (.skip))) (.seq (
    .region [⟨some 5, .alloc 25, none⟩]) (.seq (
    .block 0 (.seq (
        .region [⟨some 20, .load 28 (.tmp 3), none⟩,
          ⟨some 21, .len 28 (.tmp 20), none⟩,
          ⟨some 22, .bin .eql 3 (.tmp 21) (.const (.int .i64 0)), none⟩,
          ⟨some 19, .move (.tmp 22), none⟩]) (.cond (.tmp 19) (.seq (
          .region [⟨some 23, .load 27 (.tmp 2), none⟩,
            ⟨some 24, .buildSlice 25 1 [(0, .tmp 23)], none⟩,
            ⟨some 4, .move (.tmp 24), none⟩]) (.ret)) (.seq (
          .region [⟨some 26, .load 28 (.tmp 3), none⟩,
            ⟨some 27, .indexAddr 28 (.tmp 26) (.const (.int .i64 0)), none⟩,
            ⟨some 28, .load 52 (.tmp 27), none⟩,
            ⟨some 29, .call 55 [.tmp 28], none⟩,
            ⟨some 25, .move (.tmp 29), none⟩]) (.cond (.tmp 25) (
          .region [⟨some 30, .load 27 (.tmp 2), none⟩,
            ⟨some 31, .buildSlice 25 1 [(0, .tmp 30)], none⟩,
            ⟨none, .store 25 (.tmp 5) (.tmp 31), none⟩]) (
          .region [⟨some 16, .load 27 (.tmp 2), none⟩,
            ⟨some 17, .mkfn 57 [.tmp 3, .tmp 5], none⟩,
            ⟨some 18, .call 56 [.tmp 16, .tmp 17], none⟩])))))) (.seq (.seq (
      .region [⟨some 32, .load 28 (.tmp 3), none⟩,
        ⟨some 33, .slice 28 (.tmp 32) (some (.const (.int .i64 1))) none, none⟩,
        ⟨some 34, .len 28 (.tmp 33), none⟩,
        ⟨some 35, .move (.const (.int .i64 0)), none⟩]) (
    .block 1 (.loop l40_2))) (.seq (
    .region [⟨some 63, .load 25 (.tmp 5), none⟩,
      ⟨some 4, .move (.tmp 63), none⟩]) (.ret))))))
theorem xc40 : xc c40 = x40 := by kernel_rfl
theorem enter40 {w0 : World} {args : List AV} {H : AH} {Q : AV → AH → Prop} (hn : args.length ≤ 64) (h : H.WF → (∀ a ∈ args, a.Ok) → ∀ (R : APost), (∀ env' H' r, ares tt env' H' [.tmp 4] r → Leave H r H' Q → R .ret env' H') → (∀ env' H', R .ret env' H' → R .normal env' H') → awp Try.prog w0 tt 64 x40 (enumF 0 args) H R) : ACalls Try.prog w0 40 args H Q :=
  ACalls.enterK (c := c40) ttOk Try.func40 (by kernel_rfl) (by kernel_rfl) xc40 (by kernel_rfl) rfl hn h

def l41_0 : XCode := .seq (.seq (
      .region [⟨some 7, .move (.tmp 3), none⟩,
        ⟨some 8, .move (.tmp 0), none⟩,
        ⟨some 9, .len 28 (.tmp 8), none⟩,
        ⟨some 10, .bin .lss 3 (.tmp 7) (.tmp 9), none⟩]) (.cond (.tmp 10) (.skip) (.exit 0))) (.seq (
    .block 1 (.seq (.seq (
          .region [⟨some 13, .move (.tmp 3), none⟩,
            ⟨some 14, .bin .eql 3 (.tmp 13) (.const (.int .i64 0)), none⟩,
            ⟨some 15, .move (.tmp 14), none⟩,
            ⟨some 16, .move (.tmp 0), some (some 15, true)⟩,
            ⟨some 17, .move (.tmp 3), some (some 15, true)⟩,
            ⟨some 18, .indexAddr 28 (.tmp 16) (.tmp 17), some (some 15, true)⟩,
            ⟨some 19, .load 52 (.tmp 18), some (some 15, true)⟩,
            ⟨some 20, .call 42 [.tmp 19], some (some 15, true)⟩,
            ⟨some 21, .pick (.tmp 15) (.tmp 20) (.const (.bool false)), none⟩]) (.cond (.tmp 21) (.exit 1) (.skip))) (.seq (
        .region [⟨some 22, .move (.tmp 0), none⟩,
          ⟨some 23, .move (.tmp 3), none⟩,
          ⟨some 24, .indexAddr 28 (.tmp 22) (.tmp 23), none⟩,
          ⟨some 25, .fieldAddr 52 (.tmp 24) 0, none⟩,
          ⟨some 26, .load 3 (.tmp 25), none⟩,
          ⟨some 27, .bin .lss 3 (.tmp 26) (.const (.int .i64 1)), none⟩,
          ⟨some 28, .move (.tmp 27), none⟩,
          ⟨some 29, .move (.tmp 0), some (some 28, false)⟩,
          ⟨some 30, .move (.tmp 3), some (some 28, false)⟩,
          ⟨some 31, .indexAddr 28 (.tmp 29) (.tmp 30), some (some 28, false)⟩,
          ⟨some 32, .fieldAddr 52 (.tmp 31) 0, some (some 28, false)⟩,
          ⟨some 33, .load 3 (.tmp 32), some (some 28, false)⟩,
          ⟨some 34, .bin .gtr 3 (.tmp 33) (.const (.int .i64 7)), some (some 28, false)⟩,
          ⟨some 35, .pick (.tmp 28) (.const (.bool true)) (.tmp 34), none⟩,
          ⟨some 36, .move (.tmp 35), none⟩,
          ⟨some 37, .move (.tmp 0), some (some 36, false)⟩,
          ⟨some 38, .move (.tmp 3), some (some 36, false)⟩,
          ⟨some 39, .indexAddr 28 (.tmp 37) (.tmp 38), some (some 36, false)⟩,
          ⟨some 40, .fieldAddr 52 (.tmp 39) 1, some (some 36, false)⟩,
          ⟨some 41, .load 9 (.tmp 40), some (some 36, false)⟩,
          ⟨some 42, .call 59 [.tmp 41], some (some 36, false)⟩,
          ⟨some 43, .un .not (.tmp 42), some (some 36, false)⟩,
          ⟨some 44, .pick (.tmp 36) (.const (.bool true)) (.tmp 43), none⟩]) (.cond (.tmp 44) (.seq (
          .region [⟨some 2, .move (.const (.bool false)), none⟩]) (.ret)) (.skip))))) (
  .region [⟨some 11, .move (.tmp 3), none⟩,
    ⟨some 12, .bin .add 3 (.tmp 11) (.const (.int .i64 1)), none⟩,
    ⟨some 3, .move (.tmp 12), none⟩]))
-- pandect/pandectref07.May
noncomputable def c41 : Code := (Try.f41.body).getD .skip
def x41 : XCode := .seq (
    .region [⟨some 2, .move (.const (.bool false)), none⟩]) (.seq (.seq (
      .region [⟨some 4, .move (.tmp 0), none⟩,
        ⟨some 5, .len 28 (.tmp 4), none⟩,
        ⟨some 6, .bin .gtr 3 (.tmp 5) (.const (.int .i64 9)), none⟩]) (.cond (.tmp 6) (.seq (
        .region [⟨some 2, .move (.const (.bool false)), none⟩]) (.ret)) (.skip))) (.seq (.seq (
      .region [⟨some 3, .move (.const (.int .i64 0)), none⟩]) (
    .block 0 (.loop l41_0))) (.seq (
    .region [⟨some 2, .move (.const (.bool true)), none⟩]) (.ret))))
theorem xc41 : xc c41 = x41 := by kernel_rfl
theorem enter41 {w0 : World} {args : List AV} {H : AH} {Q : AV → AH → Prop} (hn : args.length ≤ 45) (h : H.WF → (∀ a ∈ args, a.Ok) → ∀ (R : APost), (∀ env' H' r, ares tt env' H' [.tmp 2] r → Leave H r H' Q → R .ret env' H') → (∀ env' H', R .ret env' H' → R .normal env' H') → awp Try.prog w0 tt 45 x41 (enumF 0 args) H R) : ACalls Try.prog w0 41 args H Q :=
  ACalls.enterK (c := c41) ttOk Try.func41 (by kernel_rfl) (by kernel_rfl) xc41 (by kernel_rfl) rfl hn h

-- pandect/pandectref07.book
noncomputable def c42 : Code := (Try.f42.body).getD .skip
def x42 : XCode := .seq (
    .region [⟨some 1, .box 52 (.tmp 0), none⟩,
      ⟨some 2, .move (.const (.bool false)), none⟩]) (.seq (
    .region [⟨some 3, .fieldAddr 52 (.tmp 1) 0, none⟩,
      ⟨some 4, .load 3 (.tmp 3), none⟩,
      ⟨some 5, .bin .eql 3 (.tmp 4) (.const (.int .i64 0)), none⟩,
      ⟨some 6, .move (.tmp 5), none⟩,
      ⟨some 7, .fieldAddr 52 (.tmp 1) 1, some (some 6, true)⟩,
      ⟨some 8, .load 9 (.tmp 7), some (some 6, true)⟩,
      ⟨some 9, .bin .eql 9 (.tmp 8) (.const (.string { data := #[] })), some (some 6, true)⟩,
      ⟨some 10, .pick (.tmp 6) (.tmp 9) (.const (.bool false)), none⟩,
      ⟨some 2, .move (.tmp 10), none⟩]) (.ret))
theorem xc42 : xc c42 = x42 := by kernel_rfl
theorem enter42 {w0 : World} {args : List AV} {H : AH} {Q : AV → AH → Prop} (hn : args.length ≤ 11) (h : H.WF → (∀ a ∈ args, a.Ok) → ∀ (R : APost), (∀ env' H' r, ares tt env' H' [.tmp 2] r → Leave H r H' Q → R .ret env' H') → (∀ env' H', R .ret env' H' → R .normal env' H') → awp Try.prog w0 tt 11 x42 (enumF 0 args) H R) : ACalls Try.prog w0 42 args H Q :=
  ACalls.enterK (c := c42) ttOk Try.func42 (by kernel_rfl) (by kernel_rfl) xc42 (by kernel_rfl) rfl hn h

def l43_0 : XCode := .seq (.seq (
      .region [⟨some 7, .move (.tmp 4), none⟩,
        ⟨some 8, .fieldAddr 27 (.tmp 1) 5, none⟩,
        ⟨some 9, .load 25 (.tmp 8), none⟩,
        ⟨some 10, .len 25 (.tmp 9), none⟩,
        ⟨some 11, .bin .lss 3 (.tmp 7) (.tmp 10), none⟩]) (.cond (.tmp 11) (.skip) (.exit 0))) (.seq (
    .block 1 (
      .region [⟨some 14, .move (.tmp 3), none⟩,
        ⟨some 15, .fieldAddr 27 (.tmp 1) 5, none⟩,
        ⟨some 16, .load 25 (.tmp 15), none⟩,
        ⟨some 17, .move (.tmp 4), none⟩,
        ⟨some 18, .indexAddr 25 (.tmp 16) (.tmp 17), none⟩,
        ⟨some 19, .load 27 (.tmp 18), none⟩,
        ⟨some 20, .call 43 [.tmp 19], none⟩,
        ⟨some 21, .append 25 (.tmp 14) (.tmp 20), none⟩,
        ⟨some 3, .move (.tmp 21), none⟩])) (
  .region [⟨some 12, .move (.tmp 4), none⟩,
    ⟨some 13, .bin .add 3 (.tmp 12) (.const (.int .i64 1)), none⟩,
    ⟨some 4, .move (.tmp 13), none⟩]))
-- pandect/pandectref07.Every
noncomputable def c43 : Code := (Try.f43.body).getD .skip
def x43 : XCode := .seq (
    .region [⟨some 1, .box 27 (.tmp 0), none⟩,
      ⟨some 2, .move (.const (.slice none 0 0)), none⟩]) (.seq (
    .region [⟨some 5, .load 27 (.tmp 1), none⟩,
      ⟨some 6, .buildSlice 25 1 [(0, .tmp 5)], none⟩,
      ⟨some 3, .move (.tmp 6), none⟩]) (.seq (.seq (
      .region [⟨some 4, .move (.const (.int .i64 0)), none⟩]) (
    .block 0 (.loop l43_0))) (.seq (
    .region [⟨some 22, .move (.tmp 3), none⟩,
      ⟨some 2, .move (.tmp 22), none⟩]) (.ret))))
theorem xc43 : xc c43 = x43 := by kernel_rfl
theorem enter43 {w0 : World} {args : List AV} {H : AH} {Q : AV → AH → Prop} (hn : args.length ≤ 23) (h : H.WF → (∀ a ∈ args, a.Ok) → ∀ (R : APost), (∀ env' H' r, ares tt env' H' [.tmp 2] r → Leave H r H' Q → R .ret env' H') → (∀ env' H', R .ret env' H' → R .normal env' H') → awp Try.prog w0 tt 23 x43 (enumF 0 args) H R) : ACalls Try.prog w0 43 args H Q :=
  ACalls.enterK (c := c43) ttOk Try.func43 (by kernel_rfl) (by kernel_rfl) xc43 (by kernel_rfl) rfl hn h

-- pandect/pandectref07.at
noncomputable def c44 : Code := (Try.f44.body).getD .skip
def x44 : XCode := .seq (
    .region [⟨some 2, .box 27 (.tmp 0), none⟩,
      ⟨some 3, .box 52 (.tmp 1), none⟩,
      ⟨some 4, .move (.const (.bool false)), none⟩]) (.seq (
    .region [⟨some 5, .fieldAddr 27 (.tmp 2) 1, none⟩,
      ⟨some 6, .load 3 (.tmp 5), none⟩,
      ⟨some 7, .fieldAddr 52 (.tmp 3) 0, none⟩,
      ⟨some 8, .load 3 (.tmp 7), none⟩,
      ⟨some 9, .bin .eql 3 (.tmp 6) (.tmp 8), none⟩,
      ⟨some 10, .move (.tmp 9), none⟩,
      ⟨some 11, .fieldAddr 27 (.tmp 2) 2, some (some 10, true)⟩,
      ⟨some 12, .load 9 (.tmp 11), some (some 10, true)⟩,
      ⟨some 13, .fieldAddr 52 (.tmp 3) 1, some (some 10, true)⟩,
      ⟨some 14, .load 9 (.tmp 13), some (some 10, true)⟩,
      ⟨some 15, .bin .eql 9 (.tmp 12) (.tmp 14), some (some 10, true)⟩,
      ⟨some 16, .pick (.tmp 10) (.tmp 15) (.const (.bool false)), none⟩,
      ⟨some 4, .move (.tmp 16), none⟩]) (.ret))
theorem xc44 : xc c44 = x44 := by kernel_rfl
theorem enter44 {w0 : World} {args : List AV} {H : AH} {Q : AV → AH → Prop} (hn : args.length ≤ 17) (h : H.WF → (∀ a ∈ args, a.Ok) → ∀ (R : APost), (∀ env' H' r, ares tt env' H' [.tmp 4] r → Leave H r H' Q → R .ret env' H') → (∀ env' H', R .ret env' H' → R .normal env' H') → awp Try.prog w0 tt 17 x44 (enumF 0 args) H R) : ACalls Try.prog w0 44 args H Q :=
  ACalls.enterK (c := c44) ttOk Try.func44 (by kernel_rfl) (by kernel_rfl) xc44 (by kernel_rfl) rfl hn h

-- pandect/unit.Parent
noncomputable def c45 : Code := (Try.f45.body).getD .skip
def x45 : XCode := .seq (
    .region [⟨some 2, .box 27 (.tmp 0), none⟩,
      ⟨some 3, .box 23 (.tmp 1), none⟩,
      ⟨some 4, .alloc 23, none⟩,
      ⟨some 5, .move (.const (.int .i64 0)), none⟩,
      ⟨some 6, .move (.const (.bool false)), none⟩]) (.seq (
    .region [⟨some 10, .load 27 (.tmp 2), none⟩,
      ⟨some 11, .load 23 (.tmp 3), none⟩,
      ⟨some 12, .call 60 [.tmp 10, .tmp 11], none⟩,
      ⟨some 7, .move (.tmp 12), none⟩]) (.seq (.seq (
      .region [⟨some 13, .move (.tmp 7), none⟩,
        ⟨some 14, .len 25 (.tmp 13), none⟩,
        ⟨some 15, .bin .lss 3 (.tmp 14) (.const (.int .i64 2)), none⟩]) (.cond (.tmp 15) (.seq (
        .region [⟨some 16, .build 23 [], none⟩,
          ⟨none, .store 23 (.tmp 4) (.tmp 16), none⟩,
          ⟨some 5, .move (.const (.int .i64 (-1))), none⟩,
          ⟨some 6, .move (.const (.bool false)), none⟩]) (.ret)) (.skip))) (.seq (
    .region [⟨some 17, .move (.tmp 7), none⟩,
      ⟨some 18, .move (.tmp 7), none⟩,
      ⟨some 19, .len 25 (.tmp 18), none⟩,
      ⟨some 20, .bin .sub 3 (.tmp 19) (.const (.int .i64 2)), none⟩,
      ⟨some 21, .indexAddr 25 (.tmp 17) (.tmp 20), none⟩,
      ⟨some 22, .load 27 (.tmp 21), none⟩,
      ⟨some 8, .alloc 27, none⟩,
      ⟨none, .store 27 (.tmp 8) (.tmp 22), none⟩]) (.seq (
    .region [⟨some 23, .fieldAddr 27 (.tmp 8) 5, none⟩,
      ⟨some 24, .load 25 (.tmp 23), none⟩,
      ⟨some 25, .mkfn 62 [.tmp 3], none⟩,
      ⟨some 26, .call 61 [.tmp 24, .tmp 25], none⟩,
      ⟨some 9, .move (.tmp 26), none⟩]) (.seq (
    .region [⟨some 27, .fieldAddr 27 (.tmp 8) 0, none⟩,
      ⟨some 28, .load 23 (.tmp 27), none⟩,
      ⟨some 29, .move (.tmp 9), none⟩,
      ⟨none, .store 23 (.tmp 4) (.tmp 28), none⟩,
      ⟨some 5, .move (.tmp 29), none⟩,
      ⟨some 6, .move (.const (.bool true)), none⟩]) (.ret))))))
theorem xc45 : xc c45 = x45 := by kernel_rfl
theorem enter45 {w0 : World} {args : List AV} {H : AH} {Q : AV → AH → Prop} (hn : args.length ≤ 30) (h : H.WF → (∀ a ∈ args, a.Ok) → ∀ (R : APost), (∀ env' H' r, ares tt env' H' [.cell 4 23, .tmp 5, .tmp 6] r → Leave H r H' Q → R .ret env' H') → (∀ env' H', R .ret env' H' → R .normal env' H') → awp Try.prog w0 tt 30 x45 (enumF 0 args) H R) : ACalls Try.prog w0 45 args H Q :=
  ACalls.enterK (c := c45) ttOk Try.func45 (by kernel_rfl) (by kernel_rfl) xc45 (by kernel_rfl) rfl hn h

-- slices.Contains[[]pandect/api.Id,pandect/api.Id]
noncomputable def c46 : Code := (Try.f46.body).getD .skip
def x46 : XCode := .seq (
    .region [⟨some 3, .box 23 (.tmp 1), none⟩,
      ⟨some 4, .move (.const (.bool false)), none⟩]) (.seq (
    .region [⟨some 5, .move (.tmp 0), none⟩,
      ⟨some 6, .load 23 (.tmp 3), none⟩,
      ⟨some 7, .call 63 [.tmp 5, .tmp 6], none⟩,
      ⟨some 8, .bin .geq 3 (.tmp 7) (.const (.int .i64 0)), none⟩,
      ⟨some 4, .move (.tmp 8), none⟩]) (.ret))
theorem xc46 : xc c46 = x46 := by kernel_rfl
theorem enter46 {w0 : World} {args : List AV} {H : AH} {Q : AV → AH → Prop} (hn : args.length ≤ 9) (h : H.WF → (∀ a ∈ args, a.Ok) → ∀ (R : APost), (∀ env' H' r, ares tt env' H' [.tmp 4] r → Leave H r H' Q → R .ret env' H') → (∀ env' H', R .ret env' H' → R .normal env' H') → awp Try.prog w0 tt 9 x46 (enumF 0 args) H R) : ACalls Try.prog w0 46 args H Q :=
  ACalls.enterK (c := c46) ttOk Try.func46 (by kernel_rfl) (by kernel_rfl) xc46 (by kernel_rfl) rfl hn h

def l47_0 : XCode := .seq (.seq (
      .region [⟨some 14, .move (.tmp 7), none⟩,
        ⟨some 15, .bin .geq 3 (.tmp 14) (.const (.int .i64 0)), none⟩]) (.cond (.tmp 15) (.skip) (.exit 0))) (.seq (
    .block 1 (
      .region [⟨some 18, .move (.tmp 5), none⟩,
        ⟨some 19, .move (.tmp 6), none⟩,
        ⟨some 20, .move (.tmp 7), none⟩,
        ⟨some 21, .indexAddr 25 (.tmp 19) (.tmp 20), none⟩,
        ⟨some 22, .fieldAddr 27 (.tmp 21) 0, none⟩,
        ⟨some 23, .load 23 (.tmp 22), none⟩,
        ⟨some 24, .buildSlice 46 1 [(0, .tmp 23)], none⟩,
        ⟨some 25, .append 46 (.tmp 18) (.tmp 24), none⟩,
        ⟨some 5, .move (.tmp 25), none⟩])) (
  .region [⟨some 16, .move (.tmp 7), none⟩,
    ⟨some 17, .bin .sub 3 (.tmp 16) (.const (.int .i64 1)), none⟩,
    ⟨some 7, .move (.tmp 17), none⟩]))
-- pandect/unit.Ancestors
noncomputable def c47 : Code := (Try.f47.body).getD .skip
def x47 : XCode := .seq (
    .region [⟨some 2, .box 27 (.tmp 0), none⟩,
      ⟨some 3, .box 23 (.tmp 1), none⟩,
      ⟨some 4, .move (.const (.slice none 0 0)), none⟩]) (.seq (
    .region [⟨some 5, .move (.const (.slice none 0 0)), none⟩]) (.seq (
    .region [⟨some 8, .load 27 (.tmp 2), none⟩,
      ⟨some 9, .load 23 (.tmp 3), none⟩,
      ⟨some 10, .call 60 [.tmp 8, .tmp 9], none⟩,
      ⟨some 6, .move (.tmp 10), none⟩]) (.seq (.seq (
      .region [⟨some 11, .move (.tmp 6), none⟩,
        ⟨some 12, .len 25 (.tmp 11), none⟩,
        ⟨some 13, .bin .sub 3 (.tmp 12) (.const (.int .i64 2)), none⟩,
        ⟨some 7, .move (.tmp 13), none⟩]) (
    .block 0 (.loop l47_0))) (.seq (
    .region [⟨some 26, .move (.tmp 5), none⟩,
      ⟨some 4, .move (.tmp 26), none⟩]) (.ret)))))
theorem xc47 : xc c47 = x47 := by kernel_rfl
theorem enter47 {w0 : World} {args : List AV} {H : AH} {Q : AV → AH → Prop} (hn : args.length ≤ 27) (h : H.WF → (∀ a ∈ args, a.Ok) → ∀ (R : APost), (∀ env' H' r, ares tt env' H' [.tmp 4] r → Leave H r H' Q → R .ret env' H') → (∀ env' H', R .ret env' H' → R .normal env' H') → awp Try.prog w0 tt 27 x47 (enumF 0 args) H R) : ACalls Try.prog w0 47 args H Q :=
  ACalls.enterK (c := c47) ttOk Try.func47 (by kernel_rfl) (by kernel_rfl) xc47 (by kernel_rfl) rfl hn h

def l48_0 : XCode := .seq (.seq (
      .region [⟨some 4, .move (.tmp 3), none⟩,
        ⟨some 5, .move (.tmp 0), none⟩,
        ⟨some 6, .len 24 (.tmp 5), none⟩,
        ⟨some 7, .bin .lss 3 (.tmp 4) (.tmp 6), none⟩]) (.cond (.tmp 7) (.skip) (.exit 0))) (.seq (
    .block 1 (.seq (
        .region [⟨some 10, .move (.tmp 0), none⟩,
          ⟨some 11, .move (.tmp 3), none⟩,
          ⟨some 12, .indexAddr 24 (.tmp 10) (.tmp 11), none⟩,
          ⟨some 13, .fieldAddr 90 (.tmp 12) 0, none⟩,
          ⟨some 14, .load 9 (.tmp 13), none⟩,
          ⟨some 15, .len 9 (.tmp 14), none⟩,
          ⟨some 16, .bin .gtr 3 (.tmp 15) (.const (.int .i64 100)), none⟩]) (.cond (.tmp 16) (.seq (
          .region [⟨some 2, .move (.const (.bool false)), none⟩]) (.ret)) (.skip)))) (
  .region [⟨some 8, .move (.tmp 3), none⟩,
    ⟨some 9, .bin .add 3 (.tmp 8) (.const (.int .i64 1)), none⟩,
    ⟨some 3, .move (.tmp 9), none⟩]))
-- pandect/pandectref06.short
noncomputable def c48 : Code := (Try.f48.body).getD .skip
def x48 : XCode := .seq (
    .region [⟨some 2, .move (.const (.bool false)), none⟩]) (.seq (.seq (
      .region [⟨some 3, .move (.const (.int .i64 0)), none⟩]) (
    .block 0 (.loop l48_0))) (.seq (
    .region [⟨some 17, .move (.tmp 0), none⟩,
      ⟨some 18, .len 24 (.tmp 17), none⟩,
      ⟨some 19, .bin .leq 3 (.tmp 18) (.const (.int .i64 300)), none⟩,
      ⟨some 2, .move (.tmp 19), none⟩]) (.ret)))
theorem xc48 : xc c48 = x48 := by kernel_rfl
theorem enter48 {w0 : World} {args : List AV} {H : AH} {Q : AV → AH → Prop} (hn : args.length ≤ 20) (h : H.WF → (∀ a ∈ args, a.Ok) → ∀ (R : APost), (∀ env' H' r, ares tt env' H' [.tmp 2] r → Leave H r H' Q → R .ret env' H') → (∀ env' H', R .ret env' H' → R .normal env' H') → awp Try.prog w0 tt 20 x48 (enumF 0 args) H R) : ACalls Try.prog w0 48 args H Q :=
  ACalls.enterK (c := c48) ttOk Try.func48 (by kernel_rfl) (by kernel_rfl) xc48 (by kernel_rfl) rfl hn h

def r49_0 : List XOp := [⟨some 15, .fieldAddr 27 (.tmp 1) 1, none⟩,
  ⟨some 16, .load 3 (.tmp 15), none⟩,
  ⟨some 17, .fieldAddr 27 (.tmp 1) 5, none⟩,
  ⟨some 18, .load 25 (.tmp 17), none⟩,
  ⟨some 19, .move (.tmp 3), none⟩,
  ⟨some 20, .indexAddr 25 (.tmp 18) (.tmp 19), none⟩,
  ⟨some 21, .fieldAddr 27 (.tmp 20) 1, none⟩,
  ⟨some 22, .load 3 (.tmp 21), none⟩,
  ⟨some 23, .call 65 [.tmp 16, .tmp 22], none⟩,
  ⟨some 24, .un .not (.tmp 23), none⟩,
  ⟨some 25, .move (.tmp 24), none⟩,
  ⟨some 26, .fieldAddr 27 (.tmp 1) 5, some (some 25, false)⟩,
  ⟨some 27, .load 25 (.tmp 26), some (some 25, false)⟩,
  ⟨some 28, .move (.tmp 3), some (some 25, false)⟩,
  ⟨some 29, .indexAddr 25 (.tmp 27) (.tmp 28), some (some 25, false)⟩,
  ⟨some 30, .load 27 (.tmp 29), some (some 25, false)⟩,
  ⟨some 31, .call 49 [.tmp 30], some (some 25, false)⟩,
  ⟨some 32, .un .not (.tmp 31), some (some 25, false)⟩,
  ⟨some 33, .pick (.tmp 25) (.const (.bool true)) (.tmp 32), none⟩]
def q49_0 : List (List Nat) := [[], [0], [], [2], [], [3, 4], [5], [6], [1, 7], [8], [9, 8], [10], [11, 10], [10], [12, 13, 10], [14, 10], [15, 10, 10], [16, 10], [10, 17]]
theorem dr49_0 {w0 : World} {N : Nat} (env : Env) (H : AH) (Q : APost) : awpC Try.prog w0 tt N (.draw r49_0 q49_0) Q env H = drunC Try.prog w0 tt 0 [⟨some 15, .fieldAddr 27 (.tmp 1) 1, none⟩,
  ⟨some 16, .load 3 (.tmp 15), none⟩,
  ⟨some 17, .fieldAddr 27 (.tmp 1) 5, none⟩,
  ⟨some 18, .load 25 (.tmp 17), none⟩,
  ⟨some 19, .move (.tmp 3), none⟩,
  ⟨some 20, .indexAddr 25 (.tmp 18) (.tmp 19), none⟩,
  ⟨some 21, .fieldAddr 27 (.tmp 20) 1, none⟩,
  ⟨some 22, .load 3 (.tmp 21), none⟩,
  ⟨some 23, .call 65 [.tmp 16, .tmp 22], none⟩,
  ⟨some 24, .un .not (.tmp 23), none⟩,
  ⟨some 25, .move (.tmp 24), none⟩,
  ⟨some 26, .fieldAddr 27 (.tmp 1) 5, some (some 25, false)⟩,
  ⟨some 27, .load 25 (.tmp 26), some (some 25, false)⟩,
  ⟨some 28, .move (.tmp 3), some (some 25, false)⟩,
  ⟨some 29, .indexAddr 25 (.tmp 27) (.tmp 28), some (some 25, false)⟩,
  ⟨some 30, .load 27 (.tmp 29), some (some 25, false)⟩,
  ⟨some 31, .call 49 [.tmp 30], some (some 25, false)⟩,
  ⟨some 32, .un .not (.tmp 31), some (some 25, false)⟩,
  ⟨some 33, .pick (.tmp 25) (.const (.bool true)) (.tmp 32), none⟩] (dendC [] (Q .normal)) [] env H := awp_draw Try.prog w0 tt N (l := r49_0) (by kernel_rfl) (by kernel_rfl) (by kernel_rfl) mixed env H Q
def r49_1 : List XOp := [⟨some 39, .fieldAddr 27 (.tmp 1) 5, none⟩,
  ⟨some 40, .load 25 (.tmp 39), none⟩,
  ⟨some 41, .move (.tmp 4), none⟩,
  ⟨some 42, .indexAddr 25 (.tmp 40) (.tmp 41), none⟩,
  ⟨some 43, .fieldAddr 27 (.tmp 42) 1, none⟩,
  ⟨some 44, .load 3 (.tmp 43), none⟩,
  ⟨some 45, .fieldAddr 27 (.tmp 1) 5, none⟩,
  ⟨some 46, .load 25 (.tmp 45), none⟩,
  ⟨some 47, .move (.tmp 3), none⟩,
  ⟨some 48, .indexAddr 25 (.tmp 46) (.tmp 47), none⟩,
  ⟨some 49, .fieldAddr 27 (.tmp 48) 1, none⟩,
  ⟨some 50, .load 3 (.tmp 49), none⟩,
  ⟨some 51, .bin .eql 3 (.tmp 44) (.tmp 50), none⟩,
  ⟨some 52, .move (.tmp 51), none⟩,
  ⟨some 53, .fieldAddr 27 (.tmp 1) 5, some (some 52, true)⟩,
  ⟨some 54, .load 25 (.tmp 53), some (some 52, true)⟩,
  ⟨some 55, .move (.tmp 4), some (some 52, true)⟩,
  ⟨some 56, .indexAddr 25 (.tmp 54) (.tmp 55), some (some 52, true)⟩,
  ⟨some 57, .fieldAddr 27 (.tmp 56) 2, some (some 52, true)⟩,
  ⟨some 58, .load 9 (.tmp 57), some (some 52, true)⟩,
  ⟨some 59, .fieldAddr 27 (.tmp 1) 5, some (some 52, true)⟩,
  ⟨some 60, .load 25 (.tmp 59), some (some 52, true)⟩,
  ⟨some 61, .move (.tmp 3), some (some 52, true)⟩,
  ⟨some 62, .indexAddr 25 (.tmp 60) (.tmp 61), some (some 52, true)⟩,
  ⟨some 63, .fieldAddr 27 (.tmp 62) 2, some (some 52, true)⟩,
  ⟨some 64, .load 9 (.tmp 63), some (some 52, true)⟩,
  ⟨some 65, .bin .eql 9 (.tmp 58) (.tmp 64), some (some 52, true)⟩,
  ⟨some 66, .pick (.tmp 52) (.tmp 65) (.const (.bool false)), none⟩]
def q49_1 : List (List Nat) := [[], [0], [], [1, 2], [3], [4], [], [6], [], [7, 8], [9], [10], [5, 11], [12], [13], [14, 13], [13], [15, 16, 13], [17, 13], [18, 13], [13], [20, 13], [13], [21, 22, 13], [23, 13], [24, 13], [19, 25, 13], [13, 26]]
theorem dr49_1 {w0 : World} {N : Nat} (env : Env) (H : AH) (Q : APost) : awpC Try.prog w0 tt N (.draw r49_1 q49_1) Q env H = drunC Try.prog w0 tt 0 [⟨some 39, .fieldAddr 27 (.tmp 1) 5, none⟩,
  ⟨some 40, .load 25 (.tmp 39), none⟩,
  ⟨some 41, .move (.tmp 4), none⟩,
  ⟨some 42, .indexAddr 25 (.tmp 40) (.tmp 41), none⟩,
  ⟨some 43, .fieldAddr 27 (.tmp 42) 1, none⟩,
  ⟨some 44, .load 3 (.tmp 43), none⟩,
  ⟨some 45, .fieldAddr 27 (.tmp 1) 5, none⟩,
  ⟨some 46, .load 25 (.tmp 45), none⟩,
  ⟨some 47, .move (.tmp 3), none⟩,
  ⟨some 48, .indexAddr 25 (.tmp 46) (.tmp 47), none⟩,
  ⟨some 49, .fieldAddr 27 (.tmp 48) 1, none⟩,
  ⟨some 50, .load 3 (.tmp 49), none⟩,
  ⟨some 51, .bin .eql 3 (.tmp 44) (.tmp 50), none⟩,
  ⟨some 52, .move (.tmp 51), none⟩,
  ⟨some 53, .fieldAddr 27 (.tmp 1) 5, some (some 52, true)⟩,
  ⟨some 54, .load 25 (.tmp 53), some (some 52, true)⟩,
  ⟨some 55, .move (.tmp 4), some (some 52, true)⟩,
  ⟨some 56, .indexAddr 25 (.tmp 54) (.tmp 55), some (some 52, true)⟩,
  ⟨some 57, .fieldAddr 27 (.tmp 56) 2, some (some 52, true)⟩,
  ⟨some 58, .load 9 (.tmp 57), some (some 52, true)⟩,
  ⟨some 59, .fieldAddr 27 (.tmp 1) 5, some (some 52, true)⟩,
  ⟨some 60, .load 25 (.tmp 59), some (some 52, true)⟩,
  ⟨some 61, .move (.tmp 3), some (some 52, true)⟩,
  ⟨some 62, .indexAddr 25 (.tmp 60) (.tmp 61), some (some 52, true)⟩,
  ⟨some 63, .fieldAddr 27 (.tmp 62) 2, some (some 52, true)⟩,
  ⟨some 64, .load 9 (.tmp 63), some (some 52, true)⟩,
  ⟨some 65, .bin .eql 9 (.tmp 58) (.tmp 64), some (some 52, true)⟩,
  ⟨some 66, .pick (.tmp 52) (.tmp 65) (.const (.bool false)), none⟩] (dendC [] (Q .normal)) [] env H := awp_draw Try.prog w0 tt N (l := r49_1) (by kernel_rfl) (by kernel_rfl) (by kernel_rfl) mixed env H Q
def l49_0 : XCode := .seq (.seq (
      .region [⟨some 34, .move (.tmp 4), none⟩,
        ⟨some 35, .move (.tmp 3), none⟩,
        ⟨some 36, .bin .lss 3 (.tmp 34) (.tmp 35), none⟩]) (.cond (.tmp 36) (.skip) (.exit 2))) (.seq (
    .block 3 (.seq (
        .draw r49_1 q49_1) (.cond (.tmp 66) (.seq (
          .region [⟨some 2, .move (.const (.bool false)), none⟩]) (.ret)) (.skip)))) (
  .region [⟨some 37, .move (.tmp 4), none⟩,
    ⟨some 38, .bin .add 3 (.tmp 37) (.const (.int .i64 1)), none⟩,
    ⟨some 4, .move (.tmp 38), none⟩]))
def l49_1 : XCode := .seq (.seq (
      .region [⟨some 8, .move (.tmp 3), none⟩,
        ⟨some 9, .fieldAddr 27 (.tmp 1) 5, none⟩,
        ⟨some 10, .load 25 (.tmp 9), none⟩,
        ⟨some 11, .len 25 (.tmp 10), none⟩,
        ⟨some 12, .bin .lss 3 (.tmp 8) (.tmp 11), none⟩]) (.cond (.tmp 12) (.skip) (.exit 0))) (.seq (
    .block 1 (.seq (.seq (
          .draw r49_0 q49_0) (.cond (.tmp 33) (.seq (
            .region [⟨some 2, .move (.const (.bool false)), none⟩]) (.ret)) (.skip))) (.seq (
        .region [⟨some 4, .move (.const (.int .i64 0)), none⟩]) (
      .block 2 (.loop l49_0))))) (
  .region [⟨some 13, .move (.tmp 3), none⟩,
    ⟨some 14, .bin .add 3 (.tmp 13) (.const (.int .i64 1)), none⟩,
    ⟨some 3, .move (.tmp 14), none⟩]))
-- pandect/pandectref06.Right
noncomputable def c49 : Code := (Try.f49.body).getD .skip
def x49 : XCode := .seq (
    .region [⟨some 1, .box 27 (.tmp 0), none⟩,
      ⟨some 2, .move (.const (.bool false)), none⟩]) (.seq (.seq (
      .region [⟨some 5, .load 27 (.tmp 1), none⟩,
        ⟨some 6, .call 64 [.tmp 5], none⟩,
        ⟨some 7, .un .not (.tmp 6), none⟩]) (.cond (.tmp 7) (.seq (
        .region [⟨some 2, .move (.const (.bool false)), none⟩]) (.ret)) (.skip))) (.seq (.seq (
      .region [⟨some 3, .move (.const (.int .i64 0)), none⟩]) (
    .block 0 (.loop l49_1))) (.seq (
    .region [⟨some 2, .move (.const (.bool true)), none⟩]) (.ret))))
theorem xc49 : xc c49 = x49 := by kernel_rfl
theorem enter49 {w0 : World} {args : List AV} {H : AH} {Q : AV → AH → Prop} (hn : args.length ≤ 67) (h : H.WF → (∀ a ∈ args, a.Ok) → ∀ (R : APost), (∀ env' H' r, ares tt env' H' [.tmp 2] r → Leave H r H' Q → R .ret env' H') → (∀ env' H', R .ret env' H' → R .normal env' H') → awp Try.prog w0 tt 67 x49 (enumF 0 args) H R) : ACalls Try.prog w0 49 args H Q :=
  ACalls.enterK (c := c49) ttOk Try.func49 (by kernel_rfl) (by kernel_rfl) xc49 (by kernel_rfl) rfl hn h

def l50_0 : XCode := .seq (.seq (
      .region [⟨some 5, .move (.tmp 4), none⟩,
        ⟨some 6, .fieldAddr 27 (.tmp 1) 5, none⟩,
        ⟨some 7, .load 25 (.tmp 6), none⟩,
        ⟨some 8, .len 25 (.tmp 7), none⟩,
        ⟨some 9, .bin .lss 3 (.tmp 5) (.tmp 8), none⟩]) (.cond (.tmp 9) (.skip) (.exit 0))) (.seq (
    .block 1 (
      .region [⟨some 12, .move (.tmp 3), none⟩,
        ⟨some 13, .fieldAddr 27 (.tmp 1) 5, none⟩,
        ⟨some 14, .load 25 (.tmp 13), none⟩,
        ⟨some 15, .move (.tmp 4), none⟩,
        ⟨some 16, .indexAddr 25 (.tmp 14) (.tmp 15), none⟩,
        ⟨some 17, .load 27 (.tmp 16), none⟩,
        ⟨some 18, .call 50 [.tmp 17], none⟩,
        ⟨some 19, .bin .add 3 (.const (.int .i64 1)) (.tmp 18), none⟩,
        ⟨some 20, .max (.tmp 12) (.tmp 19), none⟩,
        ⟨some 3, .move (.tmp 20), none⟩])) (
  .region [⟨some 10, .move (.tmp 4), none⟩,
    ⟨some 11, .bin .add 3 (.tmp 10) (.const (.int .i64 1)), none⟩,
    ⟨some 4, .move (.tmp 11), none⟩]))
-- pandect/pandectref06.Depth
noncomputable def c50 : Code := (Try.f50.body).getD .skip
def x50 : XCode := .seq (
    .region [⟨some 1, .box 27 (.tmp 0), none⟩,
      ⟨some 2, .move (.const (.int .i64 0)), none⟩]) (.seq (
    .region [⟨some 3, .move (.const (.int .i64 0)), none⟩]) (.seq (.seq (
      .region [⟨some 4, .move (.const (.int .i64 0)), none⟩]) (
    .block 0 (.loop l50_0))) (.seq (
    .region [⟨some 21, .move (.tmp 3), none⟩,
      ⟨some 2, .move (.tmp 21), none⟩]) (.ret))))
theorem xc50 : xc c50 = x50 := by kernel_rfl
theorem enter50 {w0 : World} {args : List AV} {H : AH} {Q : AV → AH → Prop} (hn : args.length ≤ 22) (h : H.WF → (∀ a ∈ args, a.Ok) → ∀ (R : APost), (∀ env' H' r, ares tt env' H' [.tmp 2] r → Leave H r H' Q → R .ret env' H') → (∀ env' H', R .ret env' H' → R .normal env' H') → awp Try.prog w0 tt 22 x50 (enumF 0 args) H R) : ACalls Try.prog w0 50 args H Q :=
  ACalls.enterK (c := c50) ttOk Try.func50 (by kernel_rfl) (by kernel_rfl) xc50 (by kernel_rfl) rfl hn h

def l51_0 : XCode := .seq (.seq (
      .region [⟨some 5, .move (.tmp 4), none⟩,
        ⟨some 6, .fieldAddr 27 (.tmp 1) 5, none⟩,
        ⟨some 7, .load 25 (.tmp 6), none⟩,
        ⟨some 8, .len 25 (.tmp 7), none⟩,
        ⟨some 9, .bin .lss 3 (.tmp 5) (.tmp 8), none⟩]) (.cond (.tmp 9) (.skip) (.exit 0))) (.seq (
    .block 1 (
      .region [⟨some 12, .move (.tmp 3), none⟩,
        ⟨some 13, .fieldAddr 27 (.tmp 1) 5, none⟩,
        ⟨some 14, .load 25 (.tmp 13), none⟩,
        ⟨some 15, .move (.tmp 4), none⟩,
        ⟨some 16, .indexAddr 25 (.tmp 14) (.tmp 15), none⟩,
        ⟨some 17, .load 27 (.tmp 16), none⟩,
        ⟨some 18, .call 51 [.tmp 17], none⟩,
        ⟨some 19, .bin .add 3 (.tmp 12) (.tmp 18), none⟩,
        ⟨some 3, .move (.tmp 19), none⟩])) (
  .region [⟨some 10, .move (.tmp 4), none⟩,
    ⟨some 11, .bin .add 3 (.tmp 10) (.const (.int .i64 1)), none⟩,
    ⟨some 4, .move (.tmp 11), none⟩]))
-- pandect/pandectref06.Count
noncomputable def c51 : Code := (Try.f51.body).getD .skip
def x51 : XCode := .seq (
    .region [⟨some 1, .box 27 (.tmp 0), none⟩,
      ⟨some 2, .move (.const (.int .i64 0)), none⟩]) (.seq (
    .region [⟨some 3, .move (.const (.int .i64 1)), none⟩]) (.seq (.seq (
      .region [⟨some 4, .move (.const (.int .i64 0)), none⟩]) (
    .block 0 (.loop l51_0))) (.seq (
    .region [⟨some 20, .move (.tmp 3), none⟩,
      ⟨some 2, .move (.tmp 20), none⟩]) (.ret))))
theorem xc51 : xc c51 = x51 := by kernel_rfl
theorem enter51 {w0 : World} {args : List AV} {H : AH} {Q : AV → AH → Prop} (hn : args.length ≤ 21) (h : H.WF → (∀ a ∈ args, a.Ok) → ∀ (R : APost), (∀ env' H' r, ares tt env' H' [.tmp 2] r → Leave H r H' Q → R .ret env' H') → (∀ env' H', R .ret env' H' → R .normal env' H') → awp Try.prog w0 tt 21 x51 (enumF 0 args) H R) : ACalls Try.prog w0 51 args H Q :=
  ACalls.enterK (c := c51) ttOk Try.func51 (by kernel_rfl) (by kernel_rfl) xc51 (by kernel_rfl) rfl hn h

def r52_0 : List XOp := [⟨some 26, .move (.tmp 3), none⟩,
  ⟨some 27, .indexAddr 46 (.tmp 26) (.const (.int .i64 0)), none⟩,
  ⟨some 28, .load 23 (.tmp 27), none⟩,
  ⟨some 29, .build 23 [], none⟩,
  ⟨some 30, .bin .eql 23 (.tmp 28) (.tmp 29), none⟩,
  ⟨some 31, .fieldAddr 27 (.tmp 1) 1, none⟩,
  ⟨some 32, .load 3 (.tmp 31), none⟩,
  ⟨some 33, .bin .eql 3 (.tmp 32) (.const (.int .i64 0)), none⟩,
  ⟨some 34, .bin .neq 4 (.tmp 30) (.tmp 33), none⟩]
def q52_0 : List (List Nat) := [[], [0], [1], [], [2, 3], [], [5], [6], [4, 7]]
theorem dr52_0 {w0 : World} {N : Nat} (env : Env) (H : AH) (Q : APost) : awpC Try.prog w0 tt N (.draw r52_0 q52_0) Q env H = drunC Try.prog w0 tt 0 [⟨some 26, .move (.tmp 3), none⟩,
  ⟨some 27, .indexAddr 46 (.tmp 26) (.const (.int .i64 0)), none⟩,
  ⟨some 28, .load 23 (.tmp 27), none⟩,
  ⟨some 29, .build 23 [], none⟩,
  ⟨some 30, .bin .eql 23 (.tmp 28) (.tmp 29), none⟩,
  ⟨some 31, .fieldAddr 27 (.tmp 1) 1, none⟩,
  ⟨some 32, .load 3 (.tmp 31), none⟩,
  ⟨some 33, .bin .eql 3 (.tmp 32) (.const (.int .i64 0)), none⟩,
  ⟨some 34, .bin .neq 4 (.tmp 30) (.tmp 33), none⟩] (dendC [] (Q .normal)) [] env H := awp_draw Try.prog w0 tt N (l := r52_0) (by kernel_rfl) (by kernel_rfl) (by kernel_rfl) mixed env H Q
def r52_1 : List XOp := [⟨some 46, .move (.tmp 3), none⟩,
  ⟨some 47, .move (.tmp 7), none⟩,
  ⟨some 48, .indexAddr 46 (.tmp 46) (.tmp 47), none⟩,
  ⟨some 49, .load 23 (.tmp 48), none⟩,
  ⟨some 50, .move (.tmp 3), none⟩,
  ⟨some 51, .move (.tmp 6), none⟩,
  ⟨some 52, .indexAddr 46 (.tmp 50) (.tmp 51), none⟩,
  ⟨some 53, .load 23 (.tmp 52), none⟩,
  ⟨some 54, .bin .eql 23 (.tmp 49) (.tmp 53), none⟩]
def q52_1 : List (List Nat) := [[], [], [0, 1], [2], [], [], [4, 5], [6], [3, 7]]
theorem dr52_1 {w0 : World} {N : Nat} (env : Env) (H : AH) (Q : APost) : awpC Try.prog w0 tt N (.draw r52_1 q52_1) Q env H = drunC Try.prog w0 tt 0 [⟨some 46, .move (.tmp 3), none⟩,
  ⟨some 47, .move (.tmp 7), none⟩,
  ⟨some 48, .indexAddr 46 (.tmp 46) (.tmp 47), none⟩,
  ⟨some 49, .load 23 (.tmp 48), none⟩,
  ⟨some 50, .move (.tmp 3), none⟩,
  ⟨some 51, .move (.tmp 6), none⟩,
  ⟨some 52, .indexAddr 46 (.tmp 50) (.tmp 51), none⟩,
  ⟨some 53, .load 23 (.tmp 52), none⟩,
  ⟨some 54, .bin .eql 23 (.tmp 49) (.tmp 53), none⟩] (dendC [] (Q .normal)) [] env H := awp_draw Try.prog w0 tt N (l := r52_1) (by kernel_rfl) (by kernel_rfl) (by kernel_rfl) mixed env H Q
def l52_0 : XCode := .seq (.seq (
      .region [⟨some 10, .move (.tmp 5), none⟩,
        ⟨some 11, .move (.tmp 3), none⟩,
        ⟨some 12, .len 46 (.tmp 11), none⟩,
        ⟨some 13, .bin .lss 3 (.tmp 10) (.tmp 12), none⟩]) (.cond (.tmp 13) (.skip) (.exit 0))) (.seq (
    .block 1 (
      .region [⟨some 16, .move (.tmp 4), none⟩,
        ⟨some 17, .move (.tmp 16), none⟩,
        ⟨some 18, .move (.tmp 3), some (some 17, true)⟩,
        ⟨some 19, .move (.tmp 5), some (some 17, true)⟩,
        ⟨some 20, .indexAddr 46 (.tmp 18) (.tmp 19), some (some 17, true)⟩,
        ⟨some 21, .load 23 (.tmp 20), some (some 17, true)⟩,
        ⟨some 22, .build 23 [], some (some 17, true)⟩,
        ⟨some 23, .bin .eql 23 (.tmp 21) (.tmp 22), some (some 17, true)⟩,
        ⟨some 24, .pick (.tmp 17) (.tmp 23) (.const (.bool false)), none⟩,
        ⟨some 4, .move (.tmp 24), none⟩])) (
  .region [⟨some 14, .move (.tmp 5), none⟩,
    ⟨some 15, .bin .add 3 (.tmp 14) (.const (.int .i64 1)), none⟩,
    ⟨some 5, .move (.tmp 15), none⟩]))
def l52_1 : XCode := .seq (.seq (
      .region [⟨some 41, .move (.tmp 7), none⟩,
        ⟨some 42, .move (.tmp 6), none⟩,
        ⟨some 43, .bin .lss 3 (.tmp 41) (.tmp 42), none⟩]) (.cond (.tmp 43) (.skip) (.exit 4))) (.seq (
    .block 5 (.seq (
        .draw r52_1 q52_1) (.cond (.tmp 54) (.seq (
          .region [⟨some 2, .move (.const (.bool false)), none⟩]) (.ret)) (.skip)))) (
  .region [⟨some 44, .move (.tmp 7), none⟩,
    ⟨some 45, .bin .add 3 (.tmp 44) (.const (.int .i64 1)), none⟩,
    ⟨some 7, .move (.tmp 45), none⟩]))
def l52_2 : XCode := .seq (.seq (
      .region [⟨some 35, .move (.tmp 6), none⟩,
        ⟨some 36, .move (.tmp 3), none⟩,
        ⟨some 37, .len 46 (.tmp 36), none⟩,
        ⟨some 38, .bin .lss 3 (.tmp 35) (.tmp 37), none⟩]) (.cond (.tmp 38) (.skip) (.exit 2))) (.seq (
    .block 3 (.seq (
        .region [⟨some 7, .move (.const (.int .i64 0)), none⟩]) (
      .block 4 (.loop l52_1)))) (
  .region [⟨some 39, .move (.tmp 6), none⟩,
    ⟨some 40, .bin .add 3 (.tmp 39) (.const (.int .i64 1)), none⟩,
    ⟨some 6, .move (.tmp 40), none⟩]))
-- pandect/pandectref06.Ids
noncomputable def c52 : Code := (Try.f52.body).getD .skip
def x52 : XCode := .seq (
    .region [⟨some 1, .box 27 (.tmp 0), none⟩,
      ⟨some 2, .move (.const (.bool false)), none⟩]) (.seq (
    .region [⟨some 8, .load 27 (.tmp 1), none⟩,
      ⟨some 9, .call 66 [.tmp 8], none⟩,
      ⟨some 3, .move (.tmp 9), none⟩]) (.seq (
    .region [⟨some 4, .move (.const (.bool true)), none⟩]) (.seq (.seq (
      .region [⟨some 5, .move (.const (.int .i64 0)), none⟩]) (
    .block 0 (.loop l52_0))) (.seq (.seq (
      .region [⟨some 25, .move (.tmp 4), none⟩]) (.cond (.tmp 25) (.seq (
        .region [⟨some 2, .move (.const (.bool true)), none⟩]) (.ret)) (.skip))) (.seq (.seq (
      .draw r52_0 q52_0) (.cond (.tmp 34) (.seq (
        .region [⟨some 2, .move (.const (.bool false)), none⟩]) (.ret)) (.skip))) (.seq (.seq (
      .region [⟨some 6, .move (.const (.int .i64 0)), none⟩]) (
    .block 2 (.loop l52_2))) (.seq (
    .region [⟨some 2, .move (.const (.bool true)), none⟩]) (.ret))))))))
theorem xc52 : xc c52 = x52 := by kernel_rfl
theorem enter52 {w0 : World} {args : List AV} {H : AH} {Q : AV → AH → Prop} (hn : args.length ≤ 55) (h : H.WF → (∀ a ∈ args, a.Ok) → ∀ (R : APost), (∀ env' H' r, ares tt env' H' [.tmp 2] r → Leave H r H' Q → R .ret env' H') → (∀ env' H', R .ret env' H' → R .normal env' H') → awp Try.prog w0 tt 55 x52 (enumF 0 args) H R) : ACalls Try.prog w0 52 args H Q :=
  ACalls.enterK (c := c52) ttOk Try.func52 (by kernel_rfl) (by kernel_rfl) xc52 (by kernel_rfl) rfl hn h

-- pandect/unit.Find
noncomputable def c53 : Code := (Try.f53.body).getD .skip
def x53 : XCode := .seq (
    .region [⟨some 2, .box 27 (.tmp 0), none⟩,
      ⟨some 3, .box 23 (.tmp 1), none⟩,
      ⟨some 4, .alloc 27, none⟩,
      ⟨some 5, .move (.const (.bool false)), none⟩]) (.seq (
    .region [⟨some 7, .load 27 (.tmp 2), none⟩,
      ⟨some 8, .load 23 (.tmp 3), none⟩,
      ⟨some 9, .call 60 [.tmp 7, .tmp 8], none⟩,
      ⟨some 6, .move (.tmp 9), none⟩]) (.seq (.seq (
      .region [⟨some 10, .move (.tmp 6), none⟩,
        ⟨some 11, .len 25 (.tmp 10), none⟩,
        ⟨some 12, .bin .eql 3 (.tmp 11) (.const (.int .i64 0)), none⟩]) (.cond (.tmp 12) (.seq (
        .region [⟨some 13, .build 27 [], none⟩,
          ⟨none, .store 27 (.tmp 4) (.tmp 13), none⟩,
          ⟨some 5, .move (.const (.bool false)), none⟩]) (.ret)) (.skip))) (.seq (
    .region [⟨some 14, .move (.tmp 6), none⟩,
      ⟨some 15, .move (.tmp 6), none⟩,
      ⟨some 16, .len 25 (.tmp 15), none⟩,
      ⟨some 17, .bin .sub 3 (.tmp 16) (.const (.int .i64 1)), none⟩,
      ⟨some 18, .indexAddr 25 (.tmp 14) (.tmp 17), none⟩,
      ⟨some 19, .load 27 (.tmp 18), none⟩,
      ⟨some 20, .call 67 [.tmp 19], none⟩,
      ⟨none, .store 27 (.tmp 4) (.tmp 20), none⟩,
      ⟨some 5, .move (.const (.bool true)), none⟩]) (.ret))))
theorem xc53 : xc c53 = x53 := by kernel_rfl
theorem enter53 {w0 : World} {args : List AV} {H : AH} {Q : AV → AH → Prop} (hn : args.length ≤ 21) (h : H.WF → (∀ a ∈ args, a.Ok) → ∀ (R : APost), (∀ env' H' r, ares tt env' H' [.cell 4 27, .tmp 5] r → Leave H r H' Q → R .ret env' H') → (∀ env' H', R .ret env' H' → R .normal env' H') → awp Try.prog w0 tt 21 x53 (enumF 0 args) H R) : ACalls Try.prog w0 53 args H Q :=
  ACalls.enterK (c := c53) ttOk Try.func53 (by kernel_rfl) (by kernel_rfl) xc53 (by kernel_rfl) rfl hn h

def l54_0 : XCode := .seq (
    .region [⟨some 8, .bin .lss 3 (.tmp 7) (.tmp 6), none⟩]) (.seq (.cond (.tmp 8) (.skip) (.exit 0)) (.seq (
    .block 1 (.seq (
        .region [⟨some 9, .move (.tmp 7), none⟩,
          ⟨some 10, .indexAddr 28 (.tmp 5) (.tmp 7), none⟩,
          ⟨some 11, .load 52 (.tmp 10), none⟩,
          ⟨some 4, .alloc 52, none⟩,
          ⟨some 3, .move (.tmp 9), none⟩,
          ⟨none, .store 52 (.tmp 4) (.tmp 11), none⟩]) (.seq (.seq (
          .region [⟨some 12, .move (.tmp 3), none⟩,
            ⟨some 13, .bin .eql 3 (.tmp 12) (.const (.int .i64 0)), none⟩,
            ⟨some 14, .move (.tmp 13), none⟩,
            ⟨some 15, .load 52 (.tmp 4), some (some 14, true)⟩,
            ⟨some 16, .call 55 [.tmp 15], some (some 14, true)⟩,
            ⟨some 17, .pick (.tmp 14) (.tmp 16) (.const (.bool false)), none⟩]) (.cond (.tmp 17) (.exit 1) (.skip))) (.seq (
        .region [⟨some 18, .fieldAddr 52 (.tmp 4) 0, none⟩,
          ⟨some 19, .load 3 (.tmp 18), none⟩,
          ⟨some 20, .bin .leq 3 (.tmp 19) (.const (.int .i64 0)), none⟩,
          ⟨some 21, .move (.tmp 20), none⟩,
          ⟨some 22, .fieldAddr 52 (.tmp 4) 0, some (some 21, false)⟩,
          ⟨some 23, .load 3 (.tmp 22), some (some 21, false)⟩,
          ⟨some 24, .bin .gtr 3 (.tmp 23) (.const (.int .i64 7)), some (some 21, false)⟩,
          ⟨some 25, .pick (.tmp 21) (.const (.bool true)) (.tmp 24), none⟩,
          ⟨some 26, .move (.tmp 25), none⟩,
          ⟨some 27, .fieldAddr 52 (.tmp 4) 1, some (some 26, false)⟩,
          ⟨some 28, .load 9 (.tmp 27), some (some 26, false)⟩,
          ⟨some 29, .call 68 [.tmp 28], some (some 26, false)⟩,
          ⟨some 30, .un .not (.tmp 29), some (some 26, false)⟩,
          ⟨some 31, .pick (.tmp 26) (.const (.bool true)) (.tmp 30), none⟩]) (.cond (.tmp 31) (.seq (
          .region [⟨some 2, .move (.const (.bool false)), none⟩]) (.ret)) (.skip)))))) (
  .region [⟨some 32, .bin .add 3 (.tmp 7) (.const (.int .i64 1)), none⟩,
    ⟨some 7, .move (.tmp 32), none⟩])))
-- pandect/address.Valid
noncomputable def c54 : Code := (Try.f54.body).getD .skip
def x54 : XCode := .seq (
    .region [⟨some 2, .move (.const (.bool false)), none⟩]) (.seq (.seq (
      .region [⟨some 5, .move (.tmp 0), none⟩,
        ⟨some 6, .len 28 (.tmp 5), none⟩,
        ⟨some 7, .move (.const (.int .i64 0)), none⟩]) (
    .block 0 (.loop l54_0))) (.seq (
    .region [⟨some 33, .move (.tmp 0), none⟩,
      ⟨some 34, .len 28 (.tmp 33), none⟩,
      ⟨some 35, .bin .leq 3 (.tmp 34) (.const (.int .i64 9)), none⟩,
      ⟨some 2, .move (.tmp 35), none⟩]) (.ret)))
theorem xc54 : xc c54 = x54 := by kernel_rfl
theorem enter54 {w0 : World} {args : List AV} {H : AH} {Q : AV → AH → Prop} (hn : args.length ≤ 36) (h : H.WF → (∀ a ∈ args, a.Ok) → ∀ (R : APost), (∀ env' H' r, ares tt env' H' [.tmp 2] r → Leave H r H' Q → R .ret env' H') → (∀ env' H', R .ret env' H' → R .normal env' H') → awp Try.prog w0 tt 36 x54 (enumF 0 args) H R) : ACalls Try.prog w0 54 args H Q :=
  ACalls.enterK (c := c54) ttOk Try.func54 (by kernel_rfl) (by kernel_rfl) xc54 (by kernel_rfl) rfl hn h

-- pandect/address.book
noncomputable def c55 : Code := (Try.f55.body).getD .skip
def x55 : XCode := .seq (
    .region [⟨some 1, .box 52 (.tmp 0), none⟩,
      ⟨some 2, .move (.const (.bool false)), none⟩]) (.seq (
    .region [⟨some 3, .fieldAddr 52 (.tmp 1) 0, none⟩,
      ⟨some 4, .load 3 (.tmp 3), none⟩,
      ⟨some 5, .bin .eql 3 (.tmp 4) (.const (.int .i64 0)), none⟩,
      ⟨some 6, .move (.tmp 5), none⟩,
      ⟨some 7, .fieldAddr 52 (.tmp 1) 1, some (some 6, true)⟩,
      ⟨some 8, .load 9 (.tmp 7), some (some 6, true)⟩,
      ⟨some 9, .bin .eql 9 (.tmp 8) (.const (.string { data := #[] })), some (some 6, true)⟩,
      ⟨some 10, .pick (.tmp 6) (.tmp 9) (.const (.bool false)), none⟩,
      ⟨some 2, .move (.tmp 10), none⟩]) (.ret))
theorem xc55 : xc c55 = x55 := by kernel_rfl
theorem enter55 {w0 : World} {args : List AV} {H : AH} {Q : AV → AH → Prop} (hn : args.length ≤ 11) (h : H.WF → (∀ a ∈ args, a.Ok) → ∀ (R : APost), (∀ env' H' r, ares tt env' H' [.tmp 2] r → Leave H r H' Q → R .ret env' H') → (∀ env' H', R .ret env' H' → R .normal env' H') → awp Try.prog w0 tt 11 x55 (enumF 0 args) H R) : ACalls Try.prog w0 55 args H Q :=
  ACalls.enterK (c := c55) ttOk Try.func55 (by kernel_rfl) (by kernel_rfl) xc55 (by kernel_rfl) rfl hn h

def l56_0 : XCode := .seq (
    .region [⟨some 13, .bin .lss 3 (.tmp 12) (.tmp 11), none⟩]) (.seq (.cond (.tmp 13) (.skip) (.exit 0)) (.seq (
    .block 1 (.seq (
        .region [⟨some 14, .indexAddr 25 (.tmp 10) (.tmp 12), none⟩,
          ⟨some 15, .load 27 (.tmp 14), none⟩,
          ⟨some 5, .alloc 27, none⟩,
          ⟨none, .store 27 (.tmp 5) (.tmp 15), none⟩]) (
      .region [⟨some 16, .load 27 (.tmp 5), none⟩,
        ⟨some 17, .move (.tmp 1), none⟩,
        ⟨some 18, .call 56 [.tmp 16, .tmp 17], none⟩]))) (
  .region [⟨some 19, .bin .add 3 (.tmp 12) (.const (.int .i64 1)), none⟩,
    ⟨some 12, .move (.tmp 19), none⟩])))
-- pandect/address.each
noncomputable def c56 : Code := (Try.f56.body).getD .skip
def x56 : XCode := .seq (
    .region [⟨some 2, .box 27 (.tmp 0), none⟩]) (.seq (
    .region [⟨some 6, .move (.tmp 1), none⟩,
      ⟨some 7, .load 27 (.tmp 2), none⟩,
      ⟨some 8, .callv (.tmp 6) [.tmp 7], none⟩]) (.seq (
    .region [⟨some 9, .fieldAddr 27 (.tmp 2) 5, none⟩,
      ⟨some 10, .load 25 (.tmp 9), none⟩,
      ⟨some 11, .len 25 (.tmp 10), none⟩,
      ⟨some 12, .move (.const (.int .i64 0)), none⟩]) (
  .block 0 (.loop l56_0))))
theorem xc56 : xc c56 = x56 := by kernel_rfl
theorem enter56 {w0 : World} {args : List AV} {H : AH} {Q : AV → AH → Prop} (hn : args.length ≤ 20) (h : H.WF → (∀ a ∈ args, a.Ok) → ∀ (R : APost), (∀ env' H' r, ares tt env' H' [] r → Leave H r H' Q → R .ret env' H') → (∀ env' H', R .ret env' H' → R .normal env' H') → awp Try.prog w0 tt 20 x56 (enumF 0 args) H R) : ACalls Try.prog w0 56 args H Q :=
  ACalls.enterK (c := c56) ttOk Try.func56 (by kernel_rfl) (by kernel_rfl) xc56 (by kernel_rfl) rfl hn h

def r57_0 : List XOp := [⟨some 4, .load 27 (.tmp 3), none⟩,
  ⟨some 5, .load 28 (.tmp 1), none⟩,
  ⟨some 6, .indexAddr 28 (.tmp 5) (.const (.int .i64 0)), none⟩,
  ⟨some 7, .load 52 (.tmp 6), none⟩,
  ⟨some 8, .call 58 [.tmp 4, .tmp 7], none⟩]
def q57_0 : List (List Nat) := [[], [], [1], [2], [0, 3]]
theorem dr57_0 {w0 : World} {N : Nat} (env : Env) (H : AH) (Q : APost) : awpC Try.prog w0 tt N (.draw r57_0 q57_0) Q env H = drunC Try.prog w0 tt 0 [⟨some 4, .load 27 (.tmp 3), none⟩,
  ⟨some 5, .load 28 (.tmp 1), none⟩,
  ⟨some 6, .indexAddr 28 (.tmp 5) (.const (.int .i64 0)), none⟩,
  ⟨some 7, .load 52 (.tmp 6), none⟩,
  ⟨some 8, .call 58 [.tmp 4, .tmp 7], none⟩] (dendC [] (Q .normal)) [] env H := awp_draw Try.prog w0 tt N (l := r57_0) (by kernel_rfl) (by kernel_rfl) (by kernel_rfl) mixed env H Q
def r57_1 : List XOp := [⟨some 9, .load 25 (.tmp 2), none⟩,
  ⟨some 10, .load 27 (.tmp 3), none⟩,
  ⟨some 11, .len 25 (.tmp 9), none⟩,
  ⟨some 12, .buildSlice 25 1 [(0, .const (.agg #[.int .i64 0, .int .i64 0, .int .i64 0, .int .i64 0, .string { data := #[] }, .slice none 0 0, .slice none 0 0, .slice none 0 0]))], none⟩,
  ⟨some 13, .append 25 (.tmp 9) (.tmp 12), none⟩,
  ⟨some 14, .indexAddr 25 (.tmp 13) (.tmp 11), none⟩,
  ⟨none, .store 27 (.tmp 14) (.tmp 10), none⟩,
  ⟨none, .store 25 (.tmp 2) (.tmp 13), none⟩]
def q57_1 : List (List Nat) := [[], [], [0], [], [0, 3, 0, 1, 2, 3], [4, 2, 0, 1, 2, 3, 4], [5, 1, 4, 0, 1, 2, 3, 4], [4, 4, 0, 1, 2, 3, 4]]
theorem dr57_1 {w0 : World} {N : Nat} (env : Env) (H : AH) (Q : APost) (h : drunC Try.prog w0 tt 0 [⟨some 9, .load 25 (.tmp 2), none⟩,
  ⟨some 10, .load 27 (.tmp 3), none⟩,
  ⟨some 11, .len 25 (.tmp 9), none⟩,
  ⟨some 12, .buildSlice 25 1 [(0, .const (.agg #[.int .i64 0, .int .i64 0, .int .i64 0, .int .i64 0, .string { data := #[] }, .slice none 0 0, .slice none 0 0, .slice none 0 0]))], none⟩] (dtailC [] 13 14 9 12 11 10 2 27 ty27 (Q .normal)) [] env H) : awpC Try.prog w0 tt N (.draw r57_1 q57_1) Q env H := awp_drawE Try.prog w0 tt N ttOk mixed (l := r57_1) (lp := [⟨some 9, .load 25 (.tmp 2), none⟩,
  ⟨some 10, .load 27 (.tmp 3), none⟩,
  ⟨some 11, .len 25 (.tmp 9), none⟩,
  ⟨some 12, .buildSlice 25 1 [(0, .const (.agg #[.int .i64 0, .int .i64 0, .int .i64 0, .int .i64 0, .string { data := #[] }, .slice none 0 0, .slice none 0 0, .slice none 0 0]))], none⟩]) (t := 25) rfl (by kernel_rfl) (by kernel_rfl) (by kernel_rfl) (by kernel_rfl) (by kernel_rfl) rfl rfl rfl rfl (by decide) env H Q h
-- pandect/address.found$1
noncomputable def c57 : Code := (Try.f57.body).getD .skip
def x57 : XCode := .seq (
    .region [⟨some 3, .box 27 (.tmp 0), none⟩]) (.seq (
    .draw r57_0 q57_0) (.cond (.tmp 8) (
    .draw r57_1 q57_1) (.skip)))
theorem xc57 : xc c57 = x57 := by kernel_rfl
theorem enter57 {w0 : World} {args : List AV} {H : AH} {Q : AV → AH → Prop} (hn : args.length ≤ 15) (h : H.WF → (∀ a ∈ args, a.Ok) → ∀ (R : APost), (∀ env' H' r, ares tt env' H' [] r → Leave H r H' Q → R .ret env' H') → (∀ env' H', R .ret env' H' → R .normal env' H') → awp Try.prog w0 tt 15 x57 (enumF 0 args) H R) : ACalls Try.prog w0 57 args H Q :=
  ACalls.enterK (c := c57) ttOk Try.func57 (by kernel_rfl) (by kernel_rfl) xc57 (by kernel_rfl) rfl hn h

-- pandect/address.called
noncomputable def c58 : Code := (Try.f58.body).getD .skip
def x58 : XCode := .seq (
    .region [⟨some 2, .box 27 (.tmp 0), none⟩,
      ⟨some 3, .box 52 (.tmp 1), none⟩,
      ⟨some 4, .move (.const (.bool false)), none⟩]) (.seq (
    .region [⟨some 5, .fieldAddr 27 (.tmp 2) 1, none⟩,
      ⟨some 6, .load 3 (.tmp 5), none⟩,
      ⟨some 7, .fieldAddr 52 (.tmp 3) 0, none⟩,
      ⟨some 8, .load 3 (.tmp 7), none⟩,
      ⟨some 9, .bin .eql 3 (.tmp 6) (.tmp 8), none⟩,
      ⟨some 10, .move (.tmp 9), none⟩,
      ⟨some 11, .fieldAddr 27 (.tmp 2) 2, some (some 10, true)⟩,
      ⟨some 12, .load 9 (.tmp 11), some (some 10, true)⟩,
      ⟨some 13, .fieldAddr 52 (.tmp 3) 1, some (some 10, true)⟩,
      ⟨some 14, .load 9 (.tmp 13), some (some 10, true)⟩,
      ⟨some 15, .bin .eql 9 (.tmp 12) (.tmp 14), some (some 10, true)⟩,
      ⟨some 16, .pick (.tmp 10) (.tmp 15) (.const (.bool false)), none⟩,
      ⟨some 4, .move (.tmp 16), none⟩]) (.ret))
theorem xc58 : xc c58 = x58 := by kernel_rfl
theorem enter58 {w0 : World} {args : List AV} {H : AH} {Q : AV → AH → Prop} (hn : args.length ≤ 17) (h : H.WF → (∀ a ∈ args, a.Ok) → ∀ (R : APost), (∀ env' H' r, ares tt env' H' [.tmp 4] r → Leave H r H' Q → R .ret env' H') → (∀ env' H', R .ret env' H' → R .normal env' H') → awp Try.prog w0 tt 17 x58 (enumF 0 args) H R) : ACalls Try.prog w0 58 args H Q :=
  ACalls.enterK (c := c58) ttOk Try.func58 (by kernel_rfl) (by kernel_rfl) xc58 (by kernel_rfl) rfl hn h

def l59_0 : XCode := .seq (.seq (
      .region [⟨some 26, .move (.tmp 4), none⟩,
        ⟨some 27, .move (.tmp 0), none⟩,
        ⟨some 28, .len 9 (.tmp 27), none⟩,
        ⟨some 29, .bin .lss 3 (.tmp 26) (.tmp 28), none⟩]) (.cond (.tmp 29) (.skip) (.exit 0))) (.seq (
    .block 1 (.seq (
        .region [⟨some 32, .move (.tmp 0), none⟩,
          ⟨some 33, .move (.tmp 4), none⟩,
          ⟨some 34, .index 9 (.tmp 32) (.tmp 33), none⟩,
          ⟨some 35, .bin .lss 5 (.tmp 34) (.const (.int .u8 65)), none⟩,
          ⟨some 36, .move (.tmp 35), none⟩,
          ⟨some 37, .move (.tmp 0), some (some 36, false)⟩,
          ⟨some 38, .move (.tmp 4), some (some 36, false)⟩,
          ⟨some 39, .index 9 (.tmp 37) (.tmp 38), some (some 36, false)⟩,
          ⟨some 40, .bin .gtr 5 (.tmp 39) (.const (.int .u8 90)), some (some 36, false)⟩,
          ⟨some 41, .pick (.tmp 36) (.const (.bool true)) (.tmp 40), none⟩]) (.cond (.tmp 41) (.seq (
          .region [⟨some 2, .move (.const (.bool false)), none⟩]) (.ret)) (.skip)))) (
  .region [⟨some 30, .move (.tmp 4), none⟩,
    ⟨some 31, .bin .add 3 (.tmp 30) (.const (.int .i64 1)), none⟩,
    ⟨some 4, .move (.tmp 31), none⟩]))
-- pandect/pandectref03.May
noncomputable def c59 : Code := (Try.f59.body).getD .skip
def x59 : XCode := .seq (
    .region [⟨some 2, .move (.const (.bool false)), none⟩]) (.seq (
    .region [⟨some 5, .move (.tmp 0), none⟩,
      ⟨some 6, .call 69 [.tmp 5], none⟩,
      ⟨some 3, .move (.tmp 6), none⟩]) (.seq (.seq (
      .region [⟨some 7, .move (.tmp 3), none⟩,
        ⟨some 8, .bin .lss 3 (.tmp 7) (.const (.int .i64 1)), none⟩,
        ⟨some 9, .move (.tmp 8), none⟩,
        ⟨some 10, .move (.tmp 3), some (some 9, false)⟩,
        ⟨some 11, .bin .gtr 3 (.tmp 10) (.const (.int .i64 4)), some (some 9, false)⟩,
        ⟨some 12, .pick (.tmp 9) (.const (.bool true)) (.tmp 11), none⟩,
        ⟨some 13, .move (.tmp 12), none⟩,
        ⟨some 14, .move (.tmp 0), some (some 13, false)⟩,
        ⟨some 15, .index 9 (.tmp 14) (.const (.int .i64 0)), some (some 13, false)⟩,
        ⟨some 16, .bin .eql 5 (.tmp 15) (.const (.int .u8 48)), some (some 13, false)⟩,
        ⟨some 17, .pick (.tmp 13) (.const (.bool true)) (.tmp 16), none⟩,
        ⟨some 18, .move (.tmp 17), none⟩,
        ⟨some 19, .move (.tmp 0), some (some 18, false)⟩,
        ⟨some 20, .len 9 (.tmp 19), some (some 18, false)⟩,
        ⟨some 21, .move (.tmp 3), some (some 18, false)⟩,
        ⟨some 22, .bin .sub 3 (.tmp 20) (.tmp 21), some (some 18, false)⟩,
        ⟨some 23, .bin .gtr 3 (.tmp 22) (.const (.int .i64 3)), some (some 18, false)⟩,
        ⟨some 24, .pick (.tmp 18) (.const (.bool true)) (.tmp 23), none⟩]) (.cond (.tmp 24) (.seq (
        .region [⟨some 2, .move (.const (.bool false)), none⟩]) (.ret)) (.skip))) (.seq (.seq (
      .region [⟨some 25, .move (.tmp 3), none⟩,
        ⟨some 4, .move (.tmp 25), none⟩]) (
    .block 0 (.loop l59_0))) (.seq (
    .region [⟨some 2, .move (.const (.bool true)), none⟩]) (.ret)))))
theorem xc59 : xc c59 = x59 := by kernel_rfl
theorem enter59 {w0 : World} {args : List AV} {H : AH} {Q : AV → AH → Prop} (hn : args.length ≤ 42) (h : H.WF → (∀ a ∈ args, a.Ok) → ∀ (R : APost), (∀ env' H' r, ares tt env' H' [.tmp 2] r → Leave H r H' Q → R .ret env' H') → (∀ env' H', R .ret env' H' → R .normal env' H') → awp Try.prog w0 tt 42 x59 (enumF 0 args) H R) : ACalls Try.prog w0 59 args H Q :=
  ACalls.enterK (c := c59) ttOk Try.func59 (by kernel_rfl) (by kernel_rfl) xc59 (by kernel_rfl) rfl hn h

def l60_0 : XCode := .seq (
    .region [⟨some 18, .bin .lss 3 (.tmp 17) (.tmp 16), none⟩]) (.seq (.cond (.tmp 18) (.skip) (.exit 0)) (.seq (
    .block 1 (.seq (
        .region [⟨some 19, .indexAddr 25 (.tmp 15) (.tmp 17), none⟩,
          ⟨some 20, .load 27 (.tmp 19), none⟩,
          ⟨some 6, .alloc 27, none⟩,
          ⟨none, .store 27 (.tmp 6) (.tmp 20), none⟩]) (.seq (
        .region [⟨some 21, .load 27 (.tmp 6), none⟩,
          ⟨some 22, .load 23 (.tmp 3), none⟩,
          ⟨some 23, .call 60 [.tmp 21, .tmp 22], none⟩,
          ⟨some 7, .move (.tmp 23), none⟩]) (.seq (
        .region [⟨some 24, .move (.tmp 7), none⟩,
          ⟨some 25, .bin .neq 25 (.tmp 24) (.const (.slice none 0 0)), none⟩]) (.cond (.tmp 25) (.seq (
          .region [⟨some 26, .load 27 (.tmp 2), none⟩,
            ⟨some 27, .buildSlice 25 1 [(0, .tmp 26)], none⟩,
            ⟨some 28, .move (.tmp 7), none⟩,
            ⟨some 29, .append 25 (.tmp 27) (.tmp 28), none⟩,
            ⟨some 4, .move (.tmp 29), none⟩]) (.ret)) (.skip)))))) (
  .region [⟨some 30, .bin .add 3 (.tmp 17) (.const (.int .i64 1)), none⟩,
    ⟨some 17, .move (.tmp 30), none⟩])))
-- pandect/unit.way
noncomputable def c60 : Code := (Try.f60.body).getD .skip
def x60 : XCode := .seq (
    .region [⟨some 2, .box 27 (.tmp 0), none⟩,
      ⟨some 3, .box 23 (.tmp 1), none⟩,
      ⟨some 4, .move (.const (.slice none 0 0)), none⟩]) (.seq (.seq (
      .region [⟨some 8, .fieldAddr 27 (.tmp 2) 0, none⟩,
        ⟨some 9, .load 23 (.tmp 8), none⟩,
        ⟨some 10, .load 23 (.tmp 3), none⟩,
        ⟨some 11, .bin .eql 23 (.tmp 9) (.tmp 10), none⟩]) (.cond (.tmp 11) (.seq (
        .region [⟨some 12, .load 27 (.tmp 2), none⟩,
          ⟨some 13, .buildSlice 25 1 [(0, .tmp 12)], none⟩,
          ⟨some 4, .move (.tmp 13), none⟩]) (.ret)) (.skip))) (.seq (.seq (
      .region [⟨some 14, .fieldAddr 27 (.tmp 2) 5, none⟩,
        ⟨some 15, .load 25 (.tmp 14), none⟩,
        ⟨some 16, .len 25 (.tmp 15), none⟩,
        ⟨some 17, .move (.const (.int .i64 0)), none⟩]) (
    .block 0 (.loop l60_0))) (.seq (
    .region [⟨some 4, .move (.const (.slice none 0 0)), none⟩]) (.ret))))
theorem xc60 : xc c60 = x60 := by kernel_rfl
theorem enter60 {w0 : World} {args : List AV} {H : AH} {Q : AV → AH → Prop} (hn : args.length ≤ 31) (h : H.WF → (∀ a ∈ args, a.Ok) → ∀ (R : APost), (∀ env' H' r, ares tt env' H' [.tmp 4] r → Leave H r H' Q → R .ret env' H') → (∀ env' H', R .ret env' H' → R .normal env' H') → awp Try.prog w0 tt 31 x60 (enumF 0 args) H R) : ACalls Try.prog w0 60 args H Q :=
  ACalls.enterK (c := c60) ttOk Try.func60 (by kernel_rfl) (by kernel_rfl) xc60 (by kernel_rfl) rfl hn h

def l61_0 : XCode := .seq (
    .region [⟨some 9, .bin .lss 3 (.tmp 8) (.tmp 7), none⟩]) (.seq (.cond (.tmp 9) (.skip) (.exit 0)) (.seq (
    .block 1 (.seq (
        .region [⟨some 10, .move (.tmp 8), none⟩,
          ⟨some 5, .move (.tmp 10), none⟩]) (.seq (
        .region [⟨some 11, .move (.tmp 1), none⟩,
          ⟨some 12, .move (.tmp 0), none⟩,
          ⟨some 13, .move (.tmp 5), none⟩,
          ⟨some 14, .indexAddr 25 (.tmp 12) (.tmp 13), none⟩,
          ⟨some 15, .load 27 (.tmp 14), none⟩,
          ⟨some 16, .callv (.tmp 11) [.tmp 15], none⟩]) (.cond (.tmp 16) (.seq (
          .region [⟨some 17, .move (.tmp 5), none⟩,
            ⟨some 4, .move (.tmp 17), none⟩]) (.ret)) (.skip))))) (
  .region [⟨some 18, .bin .add 3 (.tmp 8) (.const (.int .i64 1)), none⟩,
    ⟨some 8, .move (.tmp 18), none⟩])))
-- slices.IndexFunc[[]pandect/api.Unit,pandect/api.Unit]
noncomputable def c61 : Code := (Try.f61.body).getD .skip
def x61 : XCode := .seq (
    .region [⟨some 4, .move (.const (.int .i64 0)), none⟩]) (.seq (.seq (
      .region [⟨some 6, .move (.tmp 0), none⟩,
        ⟨some 7, .len 25 (.tmp 6), none⟩,
        ⟨some 8, .move (.const (.int .i64 0)), none⟩]) (
    .block 0 (.loop l61_0))) (.seq (
    .region [⟨some 4, .move (.const (.int .i64 (-1))), none⟩]) (.ret)))
theorem xc61 : xc c61 = x61 := by kernel_rfl
theorem enter61 {w0 : World} {args : List AV} {H : AH} {Q : AV → AH → Prop} (hn : args.length ≤ 19) (h : H.WF → (∀ a ∈ args, a.Ok) → ∀ (R : APost), (∀ env' H' r, ares tt env' H' [.tmp 4] r → Leave H r H' Q → R .ret env' H') → (∀ env' H', R .ret env' H' → R .normal env' H') → awp Try.prog w0 tt 19 x61 (enumF 0 args) H R) : ACalls Try.prog w0 61 args H Q :=
  ACalls.enterK (c := c61) ttOk Try.func61 (by kernel_rfl) (by kernel_rfl) xc61 (by kernel_rfl) rfl hn h

-- pandect/unit.Parent$1
noncomputable def c62 : Code := (Try.f62.body).getD .skip
def x62 : XCode := .seq (
    .region [⟨some 2, .box 27 (.tmp 0), none⟩,
      ⟨some 3, .move (.const (.bool false)), none⟩]) (.seq (
    .region [⟨some 4, .load 27 (.tmp 2), none⟩,
      ⟨some 5, .load 23 (.tmp 1), none⟩,
      ⟨some 6, .call 60 [.tmp 4, .tmp 5], none⟩,
      ⟨some 7, .bin .neq 25 (.tmp 6) (.const (.slice none 0 0)), none⟩,
      ⟨some 3, .move (.tmp 7), none⟩]) (.ret))
theorem xc62 : xc c62 = x62 := by kernel_rfl
theorem enter62 {w0 : World} {args : List AV} {H : AH} {Q : AV → AH → Prop} (hn : args.length ≤ 8) (h : H.WF → (∀ a ∈ args, a.Ok) → ∀ (R : APost), (∀ env' H' r, ares tt env' H' [.tmp 3] r → Leave H r H' Q → R .ret env' H') → (∀ env' H', R .ret env' H' → R .normal env' H') → awp Try.prog w0 tt 8 x62 (enumF 0 args) H R) : ACalls Try.prog w0 62 args H Q :=
  ACalls.enterK (c := c62) ttOk Try.func62 (by kernel_rfl) (by kernel_rfl) xc62 (by kernel_rfl) rfl hn h

def r63_0 : List XOp := [⟨some 11, .load 23 (.tmp 3), none⟩,
  ⟨some 12, .move (.tmp 0), none⟩,
  ⟨some 13, .move (.tmp 5), none⟩,
  ⟨some 14, .indexAddr 46 (.tmp 12) (.tmp 13), none⟩,
  ⟨some 15, .load 23 (.tmp 14), none⟩,
  ⟨some 16, .bin .eql 23 (.tmp 11) (.tmp 15), none⟩]
def q63_0 : List (List Nat) := [[], [], [], [1, 2], [3], [0, 4]]
theorem dr63_0 {w0 : World} {N : Nat} (env : Env) (H : AH) (Q : APost) : awpC Try.prog w0 tt N (.draw r63_0 q63_0) Q env H = drunC Try.prog w0 tt 0 [⟨some 11, .load 23 (.tmp 3), none⟩,
  ⟨some 12, .move (.tmp 0), none⟩,
  ⟨some 13, .move (.tmp 5), none⟩,
  ⟨some 14, .indexAddr 46 (.tmp 12) (.tmp 13), none⟩,
  ⟨some 15, .load 23 (.tmp 14), none⟩,
  ⟨some 16, .bin .eql 23 (.tmp 11) (.tmp 15), none⟩] (dendC [] (Q .normal)) [] env H := awp_draw Try.prog w0 tt N (l := r63_0) (by kernel_rfl) (by kernel_rfl) (by kernel_rfl) mixed env H Q
def l63_0 : XCode := .seq (
    .region [⟨some 9, .bin .lss 3 (.tmp 8) (.tmp 7), none⟩]) (.seq (.cond (.tmp 9) (.skip) (.exit 0)) (.seq (
    .block 1 (.seq (
        .region [⟨some 10, .move (.tmp 8), none⟩,
          ⟨some 5, .move (.tmp 10), none⟩]) (.seq (
        .draw r63_0 q63_0) (.cond (.tmp 16) (.seq (
          .region [⟨some 17, .move (.tmp 5), none⟩,
            ⟨some 4, .move (.tmp 17), none⟩]) (.ret)) (.skip))))) (
  .region [⟨some 18, .bin .add 3 (.tmp 8) (.const (.int .i64 1)), none⟩,
    ⟨some 8, .move (.tmp 18), none⟩])))
-- slices.Index[[]pandect/api.Id,pandect/api.Id]
noncomputable def c63 : Code := (Try.f63.body).getD .skip
def x63 : XCode := .seq (
    .region [⟨some 3, .box 23 (.tmp 1), none⟩,
      ⟨some 4, .move (.const (.int .i64 0)), none⟩]) (.seq (.seq (
      .region [⟨some 6, .move (.tmp 0), none⟩,
        ⟨some 7, .len 46 (.tmp 6), none⟩,
        ⟨some 8, .move (.const (.int .i64 0)), none⟩]) (
    .block 0 (.loop l63_0))) (.seq (
    .region [⟨some 4, .move (.const (.int .i64 (-1))), none⟩]) (.ret)))
theorem xc63 : xc c63 = x63 := by kernel_rfl
theorem enter63 {w0 : World} {args : List AV} {H : AH} {Q : AV → AH → Prop} (hn : args.length ≤ 19) (h : H.WF → (∀ a ∈ args, a.Ok) → ∀ (R : APost), (∀ env' H' r, ares tt env' H' [.tmp 4] r → Leave H r H' Q → R .ret env' H') → (∀ env' H', R .ret env' H' → R .normal env' H') → awp Try.prog w0 tt 19 x63 (enumF 0 args) H R) : ACalls Try.prog w0 63 args H Q :=
  ACalls.enterK (c := c63) ttOk Try.func63 (by kernel_rfl) (by kernel_rfl) xc63 (by kernel_rfl) rfl hn h

-- pandect/pandectref06.alone
noncomputable def c64 : Code := (Try.f64.body).getD .skip
def x64 : XCode := .seq (
    .region [⟨some 1, .box 27 (.tmp 0), none⟩,
      ⟨some 2, .move (.const (.bool false)), none⟩]) (.seq (.seq (
      .region [⟨some 3, .fieldAddr 27 (.tmp 1) 1, none⟩,
        ⟨some 4, .load 3 (.tmp 3), none⟩,
        ⟨some 5, .bin .lss 3 (.tmp 4) (.const (.int .i64 0)), none⟩,
        ⟨some 6, .move (.tmp 5), none⟩,
        ⟨some 7, .fieldAddr 27 (.tmp 1) 1, some (some 6, false)⟩,
        ⟨some 8, .load 3 (.tmp 7), some (some 6, false)⟩,
        ⟨some 9, .bin .gtr 3 (.tmp 8) (.const (.int .i64 7)), some (some 6, false)⟩,
        ⟨some 10, .pick (.tmp 6) (.const (.bool true)) (.tmp 9), none⟩,
        ⟨some 11, .move (.tmp 10), none⟩,
        ⟨some 12, .fieldAddr 27 (.tmp 1) 5, some (some 11, false)⟩,
        ⟨some 13, .load 25 (.tmp 12), some (some 11, false)⟩,
        ⟨some 14, .len 25 (.tmp 13), some (some 11, false)⟩,
        ⟨some 15, .bin .gtr 3 (.tmp 14) (.const (.int .i64 64)), some (some 11, false)⟩,
        ⟨some 16, .pick (.tmp 11) (.const (.bool true)) (.tmp 15), none⟩,
        ⟨some 17, .move (.tmp 16), none⟩,
        ⟨some 18, .fieldAddr 27 (.tmp 1) 3, some (some 17, false)⟩,
        ⟨some 19, .load 24 (.tmp 18), some (some 17, false)⟩,
        ⟨some 20, .call 70 [.tmp 19], some (some 17, false)⟩,
        ⟨some 21, .un .not (.tmp 20), some (some 17, false)⟩,
        ⟨some 22, .pick (.tmp 17) (.const (.bool true)) (.tmp 21), none⟩,
        ⟨some 23, .move (.tmp 22), none⟩,
        ⟨some 24, .fieldAddr 27 (.tmp 1) 4, some (some 23, false)⟩,
        ⟨some 25, .load 24 (.tmp 24), some (some 23, false)⟩,
        ⟨some 26, .call 70 [.tmp 25], some (some 23, false)⟩,
        ⟨some 27, .un .not (.tmp 26), some (some 23, false)⟩,
        ⟨some 28, .pick (.tmp 23) (.const (.bool true)) (.tmp 27), none⟩]) (.cond (.tmp 28) (.seq (
        .region [⟨some 2, .move (.const (.bool false)), none⟩]) (.ret)) (.skip))) (.seq (.seq (
      .region [⟨some 29, .fieldAddr 27 (.tmp 1) 1, none⟩,
        ⟨some 30, .load 3 (.tmp 29), none⟩,
        ⟨some 31, .bin .eql 3 (.tmp 30) (.const (.int .i64 0)), none⟩]) (.cond (.tmp 31) (.seq (
        .region [⟨some 32, .fieldAddr 27 (.tmp 1) 2, none⟩,
          ⟨some 33, .load 9 (.tmp 32), none⟩,
          ⟨some 34, .bin .eql 9 (.tmp 33) (.const (.string { data := #[] })), none⟩,
          ⟨some 35, .move (.tmp 34), none⟩,
          ⟨some 36, .fieldAddr 27 (.tmp 1) 3, some (some 35, true)⟩,
          ⟨some 37, .load 24 (.tmp 36), some (some 35, true)⟩,
          ⟨some 38, .len 24 (.tmp 37), some (some 35, true)⟩,
          ⟨some 39, .bin .eql 3 (.tmp 38) (.const (.int .i64 0)), some (some 35, true)⟩,
          ⟨some 40, .pick (.tmp 35) (.tmp 39) (.const (.bool false)), none⟩,
          ⟨some 41, .move (.tmp 40), none⟩,
          ⟨some 42, .fieldAddr 27 (.tmp 1) 4, some (some 41, true)⟩,
          ⟨some 43, .load 24 (.tmp 42), some (some 41, true)⟩,
          ⟨some 44, .len 24 (.tmp 43), some (some 41, true)⟩,
          ⟨some 45, .bin .eql 3 (.tmp 44) (.const (.int .i64 0)), some (some 41, true)⟩,
          ⟨some 46, .pick (.tmp 41) (.tmp 45) (.const (.bool false)), none⟩,
          ⟨some 2, .move (.tmp 46), none⟩]) (.ret)) (.skip))) (.seq (
    .region [⟨some 47, .fieldAddr 27 (.tmp 1) 2, none⟩,
      ⟨some 48, .load 9 (.tmp 47), none⟩,
      ⟨some 49, .call 59 [.tmp 48], none⟩,
      ⟨some 2, .move (.tmp 49), none⟩]) (.ret))))
theorem xc64 : xc c64 = x64 := by kernel_rfl
theorem enter64 {w0 : World} {args : List AV} {H : AH} {Q : AV → AH → Prop} (hn : args.length ≤ 50) (h : H.WF → (∀ a ∈ args, a.Ok) → ∀ (R : APost), (∀ env' H' r, ares tt env' H' [.tmp 2] r → Leave H r H' Q → R .ret env' H') → (∀ env' H', R .ret env' H' → R .normal env' H') → awp Try.prog w0 tt 50 x64 (enumF 0 args) H R) : ACalls Try.prog w0 64 args H Q :=
  ACalls.enterK (c := c64) ttOk Try.func64 (by kernel_rfl) (by kernel_rfl) xc64 (by kernel_rfl) rfl hn h

-- pandect/pandectref06.Nests
noncomputable def c65 : Code := (Try.f65.body).getD .skip
def x65 : XCode := .seq (
    .region [⟨some 4, .move (.const (.bool false)), none⟩]) (.seq (.seq (
      .region [⟨some 5, .move (.tmp 0), none⟩]) (
    .block 0 (.seq (
        .region [⟨some 7, .bin .eql 3 (.tmp 5) (.const (.int .i64 0)), none⟩,
          ⟨some 6, .move (.tmp 7), none⟩]) (.cond (.tmp 6) (.seq (
          .region [⟨some 8, .move (.tmp 1), none⟩,
            ⟨some 9, .bin .eql 3 (.tmp 8) (.const (.int .i64 1)), none⟩,
            ⟨some 10, .move (.tmp 9), none⟩,
            ⟨some 11, .move (.tmp 1), some (some 10, false)⟩,
            ⟨some 12, .bin .eql 3 (.tmp 11) (.const (.int .i64 2)), some (some 10, false)⟩,
            ⟨some 13, .pick (.tmp 10) (.const (.bool true)) (.tmp 12), none⟩,
            ⟨some 4, .move (.tmp 13), none⟩]) (.ret)) (.seq (
          .region [⟨some 15, .bin .eql 3 (.tmp 5) (.const (.int .i64 1)), none⟩,
            ⟨some 14, .move (.tmp 15), none⟩]) (.cond (.tmp 14) (.seq (
            .region [⟨some 16, .move (.tmp 1), none⟩,
              ⟨some 17, .bin .eql 3 (.tmp 16) (.const (.int .i64 2)), none⟩,
              ⟨some 4, .move (.tmp 17), none⟩]) (.ret)) (.seq (.seq (
              .region [⟨some 19, .bin .eql 3 (.tmp 5) (.const (.int .i64 2)), none⟩,
                ⟨some 18, .move (.tmp 19), none⟩]) (.cond (.tmp 18) (.skip) (
              .region [⟨some 20, .bin .eql 3 (.tmp 5) (.const (.int .i64 3)), none⟩,
                ⟨some 18, .move (.tmp 20), none⟩]))) (.cond (.tmp 18) (.seq (
              .region [⟨some 21, .move (.tmp 1), none⟩,
                ⟨some 22, .bin .eql 3 (.tmp 21) (.const (.int .i64 3)), none⟩,
                ⟨some 23, .move (.tmp 22), none⟩,
                ⟨some 24, .move (.tmp 1), some (some 23, false)⟩,
                ⟨some 25, .bin .eql 3 (.tmp 24) (.const (.int .i64 4)), some (some 23, false)⟩,
                ⟨some 26, .pick (.tmp 23) (.const (.bool true)) (.tmp 25), none⟩,
                ⟨some 27, .move (.tmp 26), none⟩,
                ⟨some 28, .move (.tmp 1), some (some 27, false)⟩,
                ⟨some 29, .bin .eql 3 (.tmp 28) (.const (.int .i64 7)), some (some 27, false)⟩,
                ⟨some 30, .pick (.tmp 27) (.const (.bool true)) (.tmp 29), none⟩,
                ⟨some 4, .move (.tmp 30), none⟩]) (.ret)) (.seq (
              .region [⟨some 32, .bin .eql 3 (.tmp 5) (.const (.int .i64 4)), none⟩,
                ⟨some 31, .move (.tmp 32), none⟩]) (.cond (.tmp 31) (.seq (
                .region [⟨some 33, .move (.tmp 1), none⟩,
                  ⟨some 34, .bin .eql 3 (.tmp 33) (.const (.int .i64 5)), none⟩,
                  ⟨some 4, .move (.tmp 34), none⟩]) (.ret)) (.seq (
                .region [⟨some 36, .bin .eql 3 (.tmp 5) (.const (.int .i64 5)), none⟩,
                  ⟨some 35, .move (.tmp 36), none⟩]) (.cond (.tmp 35) (.seq (
                  .region [⟨some 37, .move (.tmp 1), none⟩,
                    ⟨some 38, .bin .eql 3 (.tmp 37) (.const (.int .i64 6)), none⟩,
                    ⟨some 4, .move (.tmp 38), none⟩]) (.ret)) (.skip))))))))))))) (.seq (
    .region [⟨some 4, .move (.const (.bool false)), none⟩]) (.ret)))
theorem xc65 : xc c65 = x65 := by kernel_rfl
theorem enter65 {w0 : World} {args : List AV} {H : AH} {Q : AV → AH → Prop} (hn : args.length ≤ 39) (h : H.WF → (∀ a ∈ args, a.Ok) → ∀ (R : APost), (∀ env' H' r, ares tt env' H' [.tmp 4] r → Leave H r H' Q → R .ret env' H') → (∀ env' H', R .ret env' H' → R .normal env' H') → awp Try.prog w0 tt 39 x65 (enumF 0 args) H R) : ACalls Try.prog w0 65 args H Q :=
  ACalls.enterK (c := c65) ttOk Try.func65 (by kernel_rfl) (by kernel_rfl) xc65 (by kernel_rfl) rfl hn h

def l66_0 : XCode := .seq (.seq (
      .region [⟨some 8, .move (.tmp 4), none⟩,
        ⟨some 9, .fieldAddr 27 (.tmp 1) 5, none⟩,
        ⟨some 10, .load 25 (.tmp 9), none⟩,
        ⟨some 11, .len 25 (.tmp 10), none⟩,
        ⟨some 12, .bin .lss 3 (.tmp 8) (.tmp 11), none⟩]) (.cond (.tmp 12) (.skip) (.exit 0))) (.seq (
    .block 1 (
      .region [⟨some 15, .move (.tmp 3), none⟩,
        ⟨some 16, .fieldAddr 27 (.tmp 1) 5, none⟩,
        ⟨some 17, .load 25 (.tmp 16), none⟩,
        ⟨some 18, .move (.tmp 4), none⟩,
        ⟨some 19, .indexAddr 25 (.tmp 17) (.tmp 18), none⟩,
        ⟨some 20, .load 27 (.tmp 19), none⟩,
        ⟨some 21, .call 66 [.tmp 20], none⟩,
        ⟨some 22, .append 46 (.tmp 15) (.tmp 21), none⟩,
        ⟨some 3, .move (.tmp 22), none⟩])) (
  .region [⟨some 13, .move (.tmp 4), none⟩,
    ⟨some 14, .bin .add 3 (.tmp 13) (.const (.int .i64 1)), none⟩,
    ⟨some 4, .move (.tmp 14), none⟩]))
-- pandect/pandectref06.All
noncomputable def c66 : Code := (Try.f66.body).getD .skip
def x66 : XCode := .seq (
    .region [⟨some 1, .box 27 (.tmp 0), none⟩,
      ⟨some 2, .move (.const (.slice none 0 0)), none⟩]) (.seq (
    .region [⟨some 5, .fieldAddr 27 (.tmp 1) 0, none⟩,
      ⟨some 6, .load 23 (.tmp 5), none⟩,
      ⟨some 7, .buildSlice 46 1 [(0, .tmp 6)], none⟩,
      ⟨some 3, .move (.tmp 7), none⟩]) (.seq (.seq (
      .region [⟨some 4, .move (.const (.int .i64 0)), none⟩]) (
    .block 0 (.loop l66_0))) (.seq (
    .region [⟨some 23, .move (.tmp 3), none⟩,
      ⟨some 2, .move (.tmp 23), none⟩]) (.ret))))
theorem xc66 : xc c66 = x66 := by kernel_rfl
theorem enter66 {w0 : World} {args : List AV} {H : AH} {Q : AV → AH → Prop} (hn : args.length ≤ 24) (h : H.WF → (∀ a ∈ args, a.Ok) → ∀ (R : APost), (∀ env' H' r, ares tt env' H' [.tmp 2] r → Leave H r H' Q → R .ret env' H') → (∀ env' H', R .ret env' H' → R .normal env' H') → awp Try.prog w0 tt 24 x66 (enumF 0 args) H R) : ACalls Try.prog w0 66 args H Q :=
  ACalls.enterK (c := c66) ttOk Try.func66 (by kernel_rfl) (by kernel_rfl) xc66 (by kernel_rfl) rfl hn h

def r67_0 : List XOp := [⟨some 6, .fieldAddr 27 (.tmp 1) 3, none⟩,
  ⟨some 7, .load 24 (.tmp 6), none⟩,
  ⟨some 8, .call 71 [.tmp 7], none⟩,
  ⟨some 9, .fieldAddr 27 (.tmp 1) 4, none⟩,
  ⟨some 10, .load 24 (.tmp 9), none⟩,
  ⟨some 11, .call 71 [.tmp 10], none⟩,
  ⟨some 12, .fieldAddr 27 (.tmp 1) 3, none⟩,
  ⟨none, .store 24 (.tmp 12) (.tmp 8), none⟩,
  ⟨some 13, .fieldAddr 27 (.tmp 1) 4, none⟩,
  ⟨none, .store 24 (.tmp 13) (.tmp 11), none⟩]
def q67_0 : List (List Nat) := [[], [0], [1], [], [3], [4, 2], [0, 1, 2, 3, 4], [6, 2, 5, 0, 1, 2, 3, 4], [0, 1, 2, 3, 4, 5, 6, 7], [8, 5, 7, 0, 1, 2, 3, 4, 5, 6, 7]]
theorem dr67_0 {w0 : World} {N : Nat} (env : Env) (H : AH) (Q : APost) : awpC Try.prog w0 tt N (.draw r67_0 q67_0) Q env H = drunC Try.prog w0 tt 0 [⟨some 6, .fieldAddr 27 (.tmp 1) 3, none⟩,
  ⟨some 7, .load 24 (.tmp 6), none⟩,
  ⟨some 8, .call 71 [.tmp 7], none⟩,
  ⟨some 9, .fieldAddr 27 (.tmp 1) 4, none⟩,
  ⟨some 10, .load 24 (.tmp 9), none⟩,
  ⟨some 11, .call 71 [.tmp 10], none⟩,
  ⟨some 12, .fieldAddr 27 (.tmp 1) 3, none⟩,
  ⟨none, .store 24 (.tmp 12) (.tmp 8), none⟩,
  ⟨some 13, .fieldAddr 27 (.tmp 1) 4, none⟩,
  ⟨none, .store 24 (.tmp 13) (.tmp 11), none⟩] (dendC [] (Q .normal)) [] env H := awp_draw Try.prog w0 tt N (l := r67_0) (by kernel_rfl) (by kernel_rfl) (by kernel_rfl) mixed env H Q
def l67_0 : XCode := .seq (
    .region [⟨some 18, .bin .lss 3 (.tmp 17) (.tmp 16), none⟩]) (.seq (.cond (.tmp 18) (.skip) (.exit 0)) (.seq (
    .block 1 (.seq (
        .region [⟨some 19, .indexAddr 25 (.tmp 15) (.tmp 17), none⟩,
          ⟨some 20, .load 27 (.tmp 19), none⟩,
          ⟨some 5, .alloc 27, none⟩,
          ⟨none, .store 27 (.tmp 5) (.tmp 20), none⟩]) (
      .region [⟨some 21, .move (.tmp 3), none⟩,
        ⟨some 22, .load 27 (.tmp 5), none⟩,
        ⟨some 23, .call 67 [.tmp 22], none⟩,
        ⟨some 24, .buildSlice 25 1 [(0, .tmp 23)], none⟩,
        ⟨some 25, .append 25 (.tmp 21) (.tmp 24), none⟩,
        ⟨some 3, .move (.tmp 25), none⟩]))) (
  .region [⟨some 26, .bin .add 3 (.tmp 17) (.const (.int .i64 1)), none⟩,
    ⟨some 17, .move (.tmp 26), none⟩])))
-- pandect/unit.copied
noncomputable def c67 : Code := (Try.f67.body).getD .skip
def x67 : XCode := .seq (
    .region [⟨some 1, .box 27 (.tmp 0), none⟩,
      ⟨some 2, .alloc 27, none⟩]) (.seq (
    .draw r67_0 q67_0) (.seq (
    .region [⟨some 3, .move (.const (.slice none 0 0)), none⟩]) (.seq (.seq (
      .region [⟨some 14, .fieldAddr 27 (.tmp 1) 5, none⟩,
        ⟨some 15, .load 25 (.tmp 14), none⟩,
        ⟨some 16, .len 25 (.tmp 15), none⟩,
        ⟨some 17, .move (.const (.int .i64 0)), none⟩]) (
    .block 0 (.loop l67_0))) (.seq (
    .region [⟨some 27, .move (.tmp 3), none⟩,
      ⟨some 28, .fieldAddr 27 (.tmp 1) 5, none⟩,
      ⟨none, .store 25 (.tmp 28) (.tmp 27), none⟩]) (.seq (
    .region [⟨some 29, .load 27 (.tmp 1), none⟩,
      ⟨none, .store 27 (.tmp 2) (.tmp 29), none⟩]) (.ret))))))
theorem xc67 : xc c67 = x67 := by kernel_rfl
theorem enter67 {w0 : World} {args : List AV} {H : AH} {Q : AV → AH → Prop} (hn : args.length ≤ 30) (h : H.WF → (∀ a ∈ args, a.Ok) → ∀ (R : APost), (∀ env' H' r, ares tt env' H' [.cell 2 27] r → Leave H r H' Q → R .ret env' H') → (∀ env' H', R .ret env' H' → R .normal env' H') → awp Try.prog w0 tt 30 x67 (enumF 0 args) H R) : ACalls Try.prog w0 67 args H Q :=
  ACalls.enterK (c := c67) ttOk Try.func67 (by kernel_rfl) (by kernel_rfl) xc67 (by kernel_rfl) rfl hn h

-- pandect/label.Valid
noncomputable def c68 : Code := (Try.f68.body).getD .skip
def x68 : XCode := .seq (
    .region [⟨some 2, .move (.const (.bool false)), none⟩]) (.seq (
    .region [⟨some 7, .move (.tmp 0), none⟩,
      ⟨some 8, .call 72 [.tmp 7], none⟩,
      ⟨some 6, .move (.tmp 8), none⟩,
      ⟨some 9, .extract (.tmp 6) 0, none⟩,
      ⟨some 10, .extract (.tmp 6) 1, none⟩,
      ⟨some 3, .move (.tmp 9), none⟩,
      ⟨some 4, .move (.tmp 10), none⟩]) (.seq (
    .region [⟨some 5, .move (.func 73), none⟩]) (.seq (
    .region [⟨some 11, .move (.tmp 3), none⟩,
      ⟨some 12, .len 9 (.tmp 11), none⟩,
      ⟨some 13, .bin .geq 3 (.tmp 12) (.const (.int .i64 1)), none⟩,
      ⟨some 14, .move (.tmp 13), none⟩,
      ⟨some 15, .move (.tmp 3), some (some 14, true)⟩,
      ⟨some 16, .len 9 (.tmp 15), some (some 14, true)⟩,
      ⟨some 17, .bin .leq 3 (.tmp 16) (.const (.int .i64 4)), some (some 14, true)⟩,
      ⟨some 18, .pick (.tmp 14) (.tmp 17) (.const (.bool false)), none⟩,
      ⟨some 19, .move (.tmp 18), none⟩,
      ⟨some 20, .move (.tmp 3), some (some 19, true)⟩,
      ⟨some 21, .index 9 (.tmp 20) (.const (.int .i64 0)), some (some 19, true)⟩,
      ⟨some 22, .bin .neq 5 (.tmp 21) (.const (.int .u8 48)), some (some 19, true)⟩,
      ⟨some 23, .pick (.tmp 19) (.tmp 22) (.const (.bool false)), none⟩,
      ⟨some 24, .move (.tmp 23), none⟩,
      ⟨some 25, .move (.tmp 4), some (some 24, true)⟩,
      ⟨some 26, .len 9 (.tmp 25), some (some 24, true)⟩,
      ⟨some 27, .bin .leq 3 (.tmp 26) (.const (.int .i64 3)), some (some 24, true)⟩,
      ⟨some 28, .pick (.tmp 24) (.tmp 27) (.const (.bool false)), none⟩,
      ⟨some 29, .move (.tmp 28), none⟩,
      ⟨some 30, .move (.tmp 4), some (some 29, true)⟩,
      ⟨some 31, .move (.tmp 5), some (some 29, true)⟩,
      ⟨some 32, .call 74 [.tmp 30, .tmp 31], some (some 29, true)⟩,
      ⟨some 33, .un .not (.tmp 32), some (some 29, true)⟩,
      ⟨some 34, .pick (.tmp 29) (.tmp 33) (.const (.bool false)), none⟩,
      ⟨some 2, .move (.tmp 34), none⟩]) (.ret))))
theorem xc68 : xc c68 = x68 := by kernel_rfl
theorem enter68 {w0 : World} {args : List AV} {H : AH} {Q : AV → AH → Prop} (hn : args.length ≤ 35) (h : H.WF → (∀ a ∈ args, a.Ok) → ∀ (R : APost), (∀ env' H' r, ares tt env' H' [.tmp 2] r → Leave H r H' Q → R .ret env' H') → (∀ env' H', R .ret env' H' → R .normal env' H') → awp Try.prog w0 tt 35 x68 (enumF 0 args) H R) : ACalls Try.prog w0 68 args H Q :=
  ACalls.enterK (c := c68) ttOk Try.func68 (by kernel_rfl) (by kernel_rfl) xc68 (by kernel_rfl) rfl hn h

def l69_0 : XCode := .seq (.seq (
      .region [⟨some 4, .move (.tmp 3), none⟩,
        ⟨some 5, .move (.tmp 0), none⟩,
        ⟨some 6, .len 9 (.tmp 5), none⟩,
        ⟨some 7, .bin .lss 3 (.tmp 4) (.tmp 6), none⟩,
        ⟨some 8, .move (.tmp 7), none⟩,
        ⟨some 9, .move (.tmp 0), some (some 8, true)⟩,
        ⟨some 10, .move (.tmp 3), some (some 8, true)⟩,
        ⟨some 11, .index 9 (.tmp 9) (.tmp 10), some (some 8, true)⟩,
        ⟨some 12, .bin .geq 5 (.tmp 11) (.const (.int .u8 48)), some (some 8, true)⟩,
        ⟨some 13, .pick (.tmp 8) (.tmp 12) (.const (.bool false)), none⟩,
        ⟨some 14, .move (.tmp 13), none⟩,
        ⟨some 15, .move (.tmp 0), some (some 14, true)⟩,
        ⟨some 16, .move (.tmp 3), some (some 14, true)⟩,
        ⟨some 17, .index 9 (.tmp 15) (.tmp 16), some (some 14, true)⟩,
        ⟨some 18, .bin .leq 5 (.tmp 17) (.const (.int .u8 57)), some (some 14, true)⟩,
        ⟨some 19, .pick (.tmp 14) (.tmp 18) (.const (.bool false)), none⟩]) (.cond (.tmp 19) (.skip) (.exit 0))) (
  .block 1 (
    .region [⟨some 20, .move (.tmp 3), none⟩,
      ⟨some 21, .bin .add 3 (.tmp 20) (.const (.int .i64 1)), none⟩,
      ⟨some 3, .move (.tmp 21), none⟩]))
-- pandect/pandectref03.digits
noncomputable def c69 : Code := (Try.f69.body).getD .skip
def x69 : XCode := .seq (
    .region [⟨some 2, .move (.const (.int .i64 0)), none⟩]) (.seq (
    .region [⟨some 3, .move (.const (.int .i64 0)), none⟩]) (.seq (
    .block 0 (.loop l69_0)) (.seq (
    .region [⟨some 22, .move (.tmp 3), none⟩,
      ⟨some 2, .move (.tmp 22), none⟩]) (.ret))))
theorem xc69 : xc c69 = x69 := by kernel_rfl
theorem enter69 {w0 : World} {args : List AV} {H : AH} {Q : AV → AH → Prop} (hn : args.length ≤ 23) (h : H.WF → (∀ a ∈ args, a.Ok) → ∀ (R : APost), (∀ env' H' r, ares tt env' H' [.tmp 2] r → Leave H r H' Q → R .ret env' H') → (∀ env' H', R .ret env' H' → R .normal env' H') → awp Try.prog w0 tt 23 x69 (enumF 0 args) H R) : ACalls Try.prog w0 69 args H Q :=
  ACalls.enterK (c := c69) ttOk Try.func69 (by kernel_rfl) (by kernel_rfl) xc69 (by kernel_rfl) rfl hn h

-- pandect/pandectref06.row
noncomputable def c70 : Code := (Try.f70.body).getD .skip
def x70 : XCode := .seq (
    .region [⟨some 2, .move (.const (.bool false)), none⟩]) (.seq (
    .region [⟨some 3, .move (.tmp 0), none⟩,
      ⟨some 4, .len 24 (.tmp 3), none⟩,
      ⟨some 5, .bin .leq 3 (.tmp 4) (.const (.int .i64 256)), none⟩,
      ⟨some 6, .move (.tmp 5), none⟩,
      ⟨some 7, .move (.tmp 0), some (some 6, true)⟩,
      ⟨some 8, .call 76 [.tmp 7], some (some 6, true)⟩,
      ⟨some 9, .call 75 [.tmp 8], some (some 6, true)⟩,
      ⟨some 10, .pick (.tmp 6) (.tmp 9) (.const (.bool false)), none⟩,
      ⟨some 2, .move (.tmp 10), none⟩]) (.ret))
theorem xc70 : xc c70 = x70 := by kernel_rfl
theorem enter70 {w0 : World} {args : List AV} {H : AH} {Q : AV → AH → Prop} (hn : args.length ≤ 11) (h : H.WF → (∀ a ∈ args, a.Ok) → ∀ (R : APost), (∀ env' H' r, ares tt env' H' [.tmp 2] r → Leave H r H' Q → R .ret env' H') → (∀ env' H', R .ret env' H' → R .normal env' H') → awp Try.prog w0 tt 11 x70 (enumF 0 args) H R) : ACalls Try.prog w0 70 args H Q :=
  ACalls.enterK (c := c70) ttOk Try.func70 (by kernel_rfl) (by kernel_rfl) xc70 (by kernel_rfl) rfl hn h

-- slices.Clone[[]pandect/api.Word,pandect/api.Word]
noncomputable def c71 : Code := (Try.f71.body).getD .skip
def x71 : XCode := .seq (
    .region [⟨some 2, .move (.const (.slice none 0 0)), none⟩]) (.seq (.seq (
      .region [⟨some 3, .move (.tmp 0), none⟩,
        ⟨some 4, .bin .eql 24 (.tmp 3) (.const (.slice none 0 0)), none⟩]) (.cond (.tmp 4) (.seq (
        .region [⟨some 2, .move (.const (.slice none 0 0)), none⟩]) (.ret)) (.skip))) (.seq (
    .region [⟨some 5, .buildSlice 24 0 [], none⟩,
      ⟨some 6, .move (.tmp 0), none⟩,
      ⟨some 7, .append 24 (.tmp 5) (.tmp 6), none⟩,
      ⟨some 2, .move (.tmp 7), none⟩]) (.ret)))
theorem xc71 : xc c71 = x71 := by kernel_rfl
theorem enter71 {w0 : World} {args : List AV} {H : AH} {Q : AV → AH → Prop} (hn : args.length ≤ 8) (h : H.WF → (∀ a ∈ args, a.Ok) → ∀ (R : APost), (∀ env' H' r, ares tt env' H' [.tmp 2] r → Leave H r H' Q → R .ret env' H') → (∀ env' H', R .ret env' H' → R .normal env' H') → awp Try.prog w0 tt 8 x71 (enumF 0 args) H R) : ACalls Try.prog w0 71 args H Q :=
  ACalls.enterK (c := c71) ttOk Try.func71 (by kernel_rfl) (by kernel_rfl) xc71 (by kernel_rfl) rfl hn h

def r72_0 : List XOp := [⟨some 10, .move (.tmp 0), none⟩,
  ⟨some 11, .move (.tmp 4), none⟩,
  ⟨some 12, .slice 9 (.tmp 10) none (some (.tmp 11)), none⟩,
  ⟨some 13, .move (.tmp 0), none⟩,
  ⟨some 14, .move (.tmp 4), none⟩,
  ⟨some 15, .slice 9 (.tmp 13) (some (.tmp 14)) none, none⟩,
  ⟨some 2, .move (.tmp 12), none⟩,
  ⟨some 3, .move (.tmp 15), none⟩]
def q72_0 : List (List Nat) := [[], [], [0, 1], [], [], [3, 4], [2, 0, 1, 2], [5, 6, 0, 1, 2, 3, 4, 5, 6]]
theorem dr72_0 {w0 : World} {N : Nat} (env : Env) (H : AH) (Q : APost) : awpC Try.prog w0 tt N (.draw r72_0 q72_0) Q env H = drunC Try.prog w0 tt 0 [⟨some 10, .move (.tmp 0), none⟩,
  ⟨some 11, .move (.tmp 4), none⟩,
  ⟨some 12, .slice 9 (.tmp 10) none (some (.tmp 11)), none⟩,
  ⟨some 13, .move (.tmp 0), none⟩,
  ⟨some 14, .move (.tmp 4), none⟩,
  ⟨some 15, .slice 9 (.tmp 13) (some (.tmp 14)) none, none⟩,
  ⟨some 2, .move (.tmp 12), none⟩,
  ⟨some 3, .move (.tmp 15), none⟩] (dendC [] (Q .normal)) [] env H := awp_draw Try.prog w0 tt N (l := r72_0) (by kernel_rfl) (by kernel_rfl) (by kernel_rfl) mixed env H Q
-- pandect/label.parted
noncomputable def c72 : Code := (Try.f72.body).getD .skip
def x72 : XCode := .seq (
    .region [⟨some 2, .move (.const (.string { data := #[] })), none⟩,
      ⟨some 3, .move (.const (.string { data := #[] })), none⟩]) (.seq (
    .region [⟨some 5, .move (.tmp 0), none⟩,
      ⟨some 6, .call 77 [.tmp 5, .func 78], none⟩,
      ⟨some 4, .move (.tmp 6), none⟩]) (.seq (.seq (
      .region [⟨some 7, .move (.tmp 4), none⟩,
        ⟨some 8, .bin .lss 3 (.tmp 7) (.const (.int .i64 0)), none⟩]) (.cond (.tmp 8) (.seq (
        .region [⟨some 9, .move (.tmp 0), none⟩,
          ⟨some 2, .move (.tmp 9), none⟩,
          ⟨some 3, .move (.const (.string { data := #[] })), none⟩]) (.ret)) (.skip))) (.seq (
    .draw r72_0 q72_0) (.ret))))
theorem xc72 : xc c72 = x72 := by kernel_rfl
theorem enter72 {w0 : World} {args : List AV} {H : AH} {Q : AV → AH → Prop} (hn : args.length ≤ 16) (h : H.WF → (∀ a ∈ args, a.Ok) → ∀ (R : APost), (∀ env' H' r, ares tt env' H' [.tmp 2, .tmp 3] r → Leave H r H' Q → R .ret env' H') → (∀ env' H', R .ret env' H' → R .normal env' H') → awp Try.prog w0 tt 16 x72 (enumF 0 args) H R) : ACalls Try.prog w0 72 args H Q :=
  ACalls.enterK (c := c72) ttOk Try.func72 (by kernel_rfl) (by kernel_rfl) xc72 (by kernel_rfl) rfl hn h

-- pandect/label.Valid$1
noncomputable def c73 : Code := (Try.f73.body).getD .skip
def x73 : XCode := .seq (
    .region [⟨some 2, .move (.const (.bool false)), none⟩]) (.seq (
    .region [⟨some 3, .move (.tmp 0), none⟩,
      ⟨some 4, .bin .lss 21 (.tmp 3) (.const (.int .i32 65)), none⟩,
      ⟨some 5, .move (.tmp 4), none⟩,
      ⟨some 6, .move (.tmp 0), some (some 5, false)⟩,
      ⟨some 7, .bin .gtr 21 (.tmp 6) (.const (.int .i32 90)), some (some 5, false)⟩,
      ⟨some 8, .pick (.tmp 5) (.const (.bool true)) (.tmp 7), none⟩,
      ⟨some 2, .move (.tmp 8), none⟩]) (.ret))
theorem xc73 : xc c73 = x73 := by kernel_rfl
theorem enter73 {w0 : World} {args : List AV} {H : AH} {Q : AV → AH → Prop} (hn : args.length ≤ 9) (h : H.WF → (∀ a ∈ args, a.Ok) → ∀ (R : APost), (∀ env' H' r, ares tt env' H' [.tmp 2] r → Leave H r H' Q → R .ret env' H') → (∀ env' H', R .ret env' H' → R .normal env' H') → awp Try.prog w0 tt 9 x73 (enumF 0 args) H R) : ACalls Try.prog w0 73 args H Q :=
  ACalls.enterK (c := c73) ttOk Try.func73 (by kernel_rfl) (by kernel_rfl) xc73 (by kernel_rfl) rfl hn h

-- strings.ContainsFunc
noncomputable def c74 : Code := (Try.f74.body).getD .skip
def x74 : XCode := .seq (
    .region [⟨some 4, .move (.const (.bool false)), none⟩]) (.seq (
    .region [⟨some 5, .move (.tmp 0), none⟩,
      ⟨some 6, .move (.tmp 1), none⟩,
      ⟨some 7, .call 77 [.tmp 5, .tmp 6], none⟩,
      ⟨some 8, .bin .geq 3 (.tmp 7) (.const (.int .i64 0)), none⟩,
      ⟨some 4, .move (.tmp 8), none⟩]) (.ret))
theorem xc74 : xc c74 = x74 := by kernel_rfl
theorem enter74 {w0 : World} {args : List AV} {H : AH} {Q : AV → AH → Prop} (hn : args.length ≤ 9) (h : H.WF → (∀ a ∈ args, a.Ok) → ∀ (R : APost), (∀ env' H' r, ares tt env' H' [.tmp 4] r → Leave H r H' Q → R .ret env' H') → (∀ env' H', R .ret env' H' → R .normal env' H') → awp Try.prog w0 tt 9 x74 (enumF 0 args) H R) : ACalls Try.prog w0 74 args H Q :=
  ACalls.enterK (c := c74) ttOk Try.func74 (by kernel_rfl) (by kernel_rfl) xc74 (by kernel_rfl) rfl hn h

def l75_0 : XCode := .seq (.seq (
      .region [⟨some 7, .move (.tmp 3), none⟩,
        ⟨some 8, .move (.tmp 0), none⟩,
        ⟨some 9, .len 32 (.tmp 8), none⟩,
        ⟨some 10, .bin .lss 3 (.tmp 7) (.tmp 9), none⟩]) (.cond (.tmp 10) (.skip) (.exit 0))) (.seq (
    .block 1 (.seq (
        .region [⟨some 13, .move (.tmp 0), none⟩,
          ⟨some 14, .move (.tmp 3), none⟩,
          ⟨some 15, .indexAddr 32 (.tmp 13) (.tmp 14), none⟩,
          ⟨some 16, .load 9 (.tmp 15), none⟩,
          ⟨some 17, .call 79 [.tmp 16], none⟩,
          ⟨some 18, .un .not (.tmp 17), none⟩]) (.cond (.tmp 18) (.seq (
          .region [⟨some 2, .move (.const (.bool false)), none⟩]) (.ret)) (.skip)))) (
  .region [⟨some 11, .move (.tmp 3), none⟩,
    ⟨some 12, .bin .add 3 (.tmp 11) (.const (.int .i64 1)), none⟩,
    ⟨some 3, .move (.tmp 12), none⟩]))
-- pandect/pandectref04.May
noncomputable def c75 : Code := (Try.f75.body).getD .skip
def x75 : XCode := .seq (
    .region [⟨some 2, .move (.const (.bool false)), none⟩]) (.seq (.seq (
      .region [⟨some 4, .move (.tmp 0), none⟩,
        ⟨some 5, .len 32 (.tmp 4), none⟩,
        ⟨some 6, .bin .gtr 3 (.tmp 5) (.const (.int .i64 256)), none⟩]) (.cond (.tmp 6) (.seq (
        .region [⟨some 2, .move (.const (.bool false)), none⟩]) (.ret)) (.skip))) (.seq (.seq (
      .region [⟨some 3, .move (.const (.int .i64 0)), none⟩]) (
    .block 0 (.loop l75_0))) (.seq (
    .region [⟨some 2, .move (.const (.bool true)), none⟩]) (.ret))))
theorem xc75 : xc c75 = x75 := by kernel_rfl
theorem enter75 {w0 : World} {args : List AV} {H : AH} {Q : AV → AH → Prop} (hn : args.length ≤ 19) (h : H.WF → (∀ a ∈ args, a.Ok) → ∀ (R : APost), (∀ env' H' r, ares tt env' H' [.tmp 2] r → Leave H r H' Q → R .ret env' H') → (∀ env' H', R .ret env' H' → R .normal env' H') → awp Try.prog w0 tt 19 x75 (enumF 0 args) H R) : ACalls Try.prog w0 75 args H Q :=
  ACalls.enterK (c := c75) ttOk Try.func75 (by kernel_rfl) (by kernel_rfl) xc75 (by kernel_rfl) rfl hn h

def l76_0 : XCode := .seq (.seq (
      .region [⟨some 6, .move (.tmp 4), none⟩,
        ⟨some 7, .move (.tmp 0), none⟩,
        ⟨some 8, .len 24 (.tmp 7), none⟩,
        ⟨some 9, .bin .lss 3 (.tmp 6) (.tmp 8), none⟩]) (.cond (.tmp 9) (.skip) (.exit 0))) (.seq (
    .block 1 (
      .region [⟨some 12, .move (.tmp 3), none⟩,
        ⟨some 13, .move (.tmp 0), none⟩,
        ⟨some 14, .move (.tmp 4), none⟩,
        ⟨some 15, .indexAddr 24 (.tmp 13) (.tmp 14), none⟩,
        ⟨some 16, .fieldAddr 90 (.tmp 15) 0, none⟩,
        ⟨some 17, .load 9 (.tmp 16), none⟩,
        ⟨some 18, .buildSlice 32 1 [(0, .tmp 17)], none⟩,
        ⟨some 19, .append 32 (.tmp 12) (.tmp 18), none⟩,
        ⟨some 3, .move (.tmp 19), none⟩])) (
  .region [⟨some 10, .move (.tmp 4), none⟩,
    ⟨some 11, .bin .add 3 (.tmp 10) (.const (.int .i64 1)), none⟩,
    ⟨some 4, .move (.tmp 11), none⟩]))
-- pandect/pandectref06.Texts
noncomputable def c76 : Code := (Try.f76.body).getD .skip
def x76 : XCode := .seq (
    .region [⟨some 2, .move (.const (.slice none 0 0)), none⟩]) (.seq (
    .region [⟨some 5, .buildSlice 32 0 [], none⟩,
      ⟨some 3, .move (.tmp 5), none⟩]) (.seq (.seq (
      .region [⟨some 4, .move (.const (.int .i64 0)), none⟩]) (
    .block 0 (.loop l76_0))) (.seq (
    .region [⟨some 20, .move (.tmp 3), none⟩,
      ⟨some 2, .move (.tmp 20), none⟩]) (.ret))))
theorem xc76 : xc c76 = x76 := by kernel_rfl
theorem enter76 {w0 : World} {args : List AV} {H : AH} {Q : AV → AH → Prop} (hn : args.length ≤ 21) (h : H.WF → (∀ a ∈ args, a.Ok) → ∀ (R : APost), (∀ env' H' r, ares tt env' H' [.tmp 2] r → Leave H r H' Q → R .ret env' H') → (∀ env' H', R .ret env' H' → R .normal env' H') → awp Try.prog w0 tt 21 x76 (enumF 0 args) H R) : ACalls Try.prog w0 76 args H Q :=
  ACalls.enterK (c := c76) ttOk Try.func76 (by kernel_rfl) (by kernel_rfl) xc76 (by kernel_rfl) rfl hn h

-- strings.IndexFunc
noncomputable def c77 : Code := (Try.f77.body).getD .skip
def x77 : XCode := .seq (
    .region [⟨some 4, .move (.const (.int .i64 0)), none⟩]) (.seq (
    .region [⟨some 5, .move (.tmp 0), none⟩,
      ⟨some 6, .move (.tmp 1), none⟩,
      ⟨some 7, .call 80 [.tmp 5, .tmp 6, .const (.bool true)], none⟩,
      ⟨some 4, .move (.tmp 7), none⟩]) (.ret))
theorem xc77 : xc c77 = x77 := by kernel_rfl
theorem enter77 {w0 : World} {args : List AV} {H : AH} {Q : AV → AH → Prop} (hn : args.length ≤ 8) (h : H.WF → (∀ a ∈ args, a.Ok) → ∀ (R : APost), (∀ env' H' r, ares tt env' H' [.tmp 4] r → Leave H r H' Q → R .ret env' H') → (∀ env' H', R .ret env' H' → R .normal env' H') → awp Try.prog w0 tt 8 x77 (enumF 0 args) H R) : ACalls Try.prog w0 77 args H Q :=
  ACalls.enterK (c := c77) ttOk Try.func77 (by kernel_rfl) (by kernel_rfl) xc77 (by kernel_rfl) rfl hn h

-- pandect/label.parted$1
noncomputable def c78 : Code := (Try.f78.body).getD .skip
def x78 : XCode := .seq (
    .region [⟨some 2, .move (.const (.bool false)), none⟩]) (.seq (
    .region [⟨some 3, .move (.tmp 0), none⟩,
      ⟨some 4, .bin .lss 21 (.tmp 3) (.const (.int .i32 48)), none⟩,
      ⟨some 5, .move (.tmp 4), none⟩,
      ⟨some 6, .move (.tmp 0), some (some 5, false)⟩,
      ⟨some 7, .bin .gtr 21 (.tmp 6) (.const (.int .i32 57)), some (some 5, false)⟩,
      ⟨some 8, .pick (.tmp 5) (.const (.bool true)) (.tmp 7), none⟩,
      ⟨some 2, .move (.tmp 8), none⟩]) (.ret))
theorem xc78 : xc c78 = x78 := by kernel_rfl
theorem enter78 {w0 : World} {args : List AV} {H : AH} {Q : AV → AH → Prop} (hn : args.length ≤ 9) (h : H.WF → (∀ a ∈ args, a.Ok) → ∀ (R : APost), (∀ env' H' r, ares tt env' H' [.tmp 2] r → Leave H r H' Q → R .ret env' H') → (∀ env' H', R .ret env' H' → R .normal env' H') → awp Try.prog w0 tt 9 x78 (enumF 0 args) H R) : ACalls Try.prog w0 78 args H Q :=
  ACalls.enterK (c := c78) ttOk Try.func78 (by kernel_rfl) (by kernel_rfl) xc78 (by kernel_rfl) rfl hn h

def l79_0 : XCode := .seq (.seq (
      .region [⟨some 12, .move (.tmp 3), none⟩,
        ⟨some 13, .move (.tmp 0), none⟩,
        ⟨some 14, .len 9 (.tmp 13), none⟩,
        ⟨some 15, .bin .lss 3 (.tmp 12) (.tmp 14), none⟩]) (.cond (.tmp 15) (.skip) (.exit 0))) (.seq (
    .block 1 (.seq (
        .region [⟨some 18, .move (.tmp 0), none⟩,
          ⟨some 19, .move (.tmp 3), none⟩,
          ⟨some 20, .index 9 (.tmp 18) (.tmp 19), none⟩,
          ⟨some 21, .bin .lss 5 (.tmp 20) (.const (.int .u8 33)), none⟩,
          ⟨some 22, .move (.tmp 21), none⟩,
          ⟨some 23, .move (.tmp 0), some (some 22, false)⟩,
          ⟨some 24, .move (.tmp 3), some (some 22, false)⟩,
          ⟨some 25, .index 9 (.tmp 23) (.tmp 24), some (some 22, false)⟩,
          ⟨some 26, .bin .gtr 5 (.tmp 25) (.const (.int .u8 126)), some (some 22, false)⟩,
          ⟨some 27, .pick (.tmp 22) (.const (.bool true)) (.tmp 26), none⟩]) (.cond (.tmp 27) (.seq (
          .region [⟨some 2, .move (.const (.bool false)), none⟩]) (.ret)) (.skip)))) (
  .region [⟨some 16, .move (.tmp 3), none⟩,
    ⟨some 17, .bin .add 3 (.tmp 16) (.const (.int .i64 1)), none⟩,
    ⟨some 3, .move (.tmp 17), none⟩]))
-- pandect/pandectref04.Word
noncomputable def c79 : Code := (Try.f79.body).getD .skip
def x79 : XCode := .seq (
    .region [⟨some 2, .move (.const (.bool false)), none⟩]) (.seq (.seq (
      .region [⟨some 4, .move (.tmp 0), none⟩,
        ⟨some 5, .len 9 (.tmp 4), none⟩,
        ⟨some 6, .bin .lss 3 (.tmp 5) (.const (.int .i64 1)), none⟩,
        ⟨some 7, .move (.tmp 6), none⟩,
        ⟨some 8, .move (.tmp 0), some (some 7, false)⟩,
        ⟨some 9, .len 9 (.tmp 8), some (some 7, false)⟩,
        ⟨some 10, .bin .gtr 3 (.tmp 9) (.const (.int .i64 24)), some (some 7, false)⟩,
        ⟨some 11, .pick (.tmp 7) (.const (.bool true)) (.tmp 10), none⟩]) (.cond (.tmp 11) (.seq (
        .region [⟨some 2, .move (.const (.bool false)), none⟩]) (.ret)) (.skip))) (.seq (.seq (
      .region [⟨some 3, .move (.const (.int .i64 0)), none⟩]) (
    .block 0 (.loop l79_0))) (.seq (
    .region [⟨some 2, .move (.const (.bool true)), none⟩]) (.ret))))
theorem xc79 : xc c79 = x79 := by kernel_rfl
theorem enter79 {w0 : World} {args : List AV} {H : AH} {Q : AV → AH → Prop} (hn : args.length ≤ 28) (h : H.WF → (∀ a ∈ args, a.Ok) → ∀ (R : APost), (∀ env' H' r, ares tt env' H' [.tmp 2] r → Leave H r H' Q → R .ret env' H') → (∀ env' H', R .ret env' H' → R .normal env' H') → awp Try.prog w0 tt 28 x79 (enumF 0 args) H R) : ACalls Try.prog w0 79 args H Q :=
  ACalls.enterK (c := c79) ttOk Try.func79 (by kernel_rfl) (by kernel_rfl) xc79 (by kernel_rfl) rfl hn h

def l80_0 : XCode := .seq (
    .region [⟨some 11, .next (.tmp 10), none⟩,
      ⟨some 12, .extract (.tmp 11) 0, none⟩]) (.seq (.cond (.tmp 12) (.skip) (.exit 0)) (
  .block 1 (.seq (
      .region [⟨some 13, .extract (.tmp 11) 1, none⟩,
        ⟨some 14, .extract (.tmp 11) 2, none⟩,
        ⟨some 7, .move (.tmp 13), none⟩,
        ⟨some 8, .move (.tmp 14), none⟩]) (.seq (
      .region [⟨some 15, .move (.tmp 1), none⟩,
        ⟨some 16, .move (.tmp 8), none⟩,
        ⟨some 17, .callv (.tmp 15) [.tmp 16], none⟩,
        ⟨some 18, .move (.tmp 2), none⟩,
        ⟨some 19, .bin .eql 4 (.tmp 17) (.tmp 18), none⟩]) (.cond (.tmp 19) (.seq (
        .region [⟨some 20, .move (.tmp 7), none⟩,
          ⟨some 6, .move (.tmp 20), none⟩]) (.ret)) (.skip))))))
-- strings.indexFunc
noncomputable def c80 : Code := (Try.f80.body).getD .skip
def x80 : XCode := .seq (
    .region [⟨some 6, .move (.const (.int .i64 0)), none⟩]) (.seq (.seq (
      .region [⟨some 9, .move (.tmp 0), none⟩,
        ⟨some 10, .range 9 (.tmp 9), none⟩]) (
    .block 0 (.loop l80_0))) (.seq (
    .region [⟨some 6, .move (.const (.int .i64 (-1))), none⟩]) (.ret)))
theorem xc80 : xc c80 = x80 := by kernel_rfl
theorem enter80 {w0 : World} {args : List AV} {H : AH} {Q : AV → AH → Prop} (hn : args.length ≤ 21) (h : H.WF → (∀ a ∈ args, a.Ok) → ∀ (R : APost), (∀ env' H' r, ares tt env' H' [.tmp 6] r → Leave H r H' Q → R .ret env' H') → (∀ env' H', R .ret env' H' → R .normal env' H') → awp Try.prog w0 tt 21 x80 (enumF 0 args) H R) : ACalls Try.prog w0 80 args H Q :=
  ACalls.enterK (c := c80) ttOk Try.func80 (by kernel_rfl) (by kernel_rfl) xc80 (by kernel_rfl) rfl hn h

end Go.Ai.Try
