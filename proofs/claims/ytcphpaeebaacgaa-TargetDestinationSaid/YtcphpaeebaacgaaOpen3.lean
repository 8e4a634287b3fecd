/- A part of the proof: no statement of the seat is proved in this text. -/
import Derived.Test.YtcphpaeebaacgaaOpen
import Derived.Test.YtcphpaeebaacgaaG9
set_option linter.unusedVariables false
set_option linter.unusedSimpArgs false
namespace Go.Ai.Try
open Go Go.Ai Go.Proofs Go.RowKit
theorem co32 : Try.prog.cellsOf 32 = 1 := by kernel_rfl
theorem co34 : Try.prog.cellsOf 34 = 3 := by kernel_rfl
theorem co35 : Try.prog.cellsOf 35 = 1 := by kernel_rfl
theorem co37 : Try.prog.cellsOf 37 = 25 := by kernel_rfl
theorem by9 : Try.prog.bytesOf 9 = 16 := by kernel_rfl
theorem by37 : Try.prog.bytesOf 37 = 368 := by kernel_rfl
section
variable {H : Type} {enc : TypeId × Value → H} {w : World} {sp : Nat → Bool} {held : Bool}
theorem opens_strs (fuel : Nat) : OpensAt enc Try.prog w sp held fuel 32 (fun l : List ByteArray => [.slice (l.map AV.str)]) := by
  cases fuel with
  | zero => intro cs x h; simp [DataW.trod] at h
  | succ n => exact opens_slice AV.str (e := fun s => [.str s]) (fun _ => rfl) (sz := 1) (fun _ => rfl) (by decide) Try.underlying32 co9 (by rw [by9]; decide) (opens_str Try.underlying9)
theorem opens_start (fuel : Nat) : OpensAt enc Try.prog w sp held fuel 34 (fun x : Int × Int × ByteArray => [.int .i64 x.1, .int .i64 x.2.1, .str x.2.2]) := by
  intro cs x h hw
  obtain ⟨n, rfl, hl, hf⟩ := open_struct Try.underlying34 h hw
  rw [co34] at hl
  obtain ⟨x0, h0, w0⟩ := open_field hf 0 3 0 1 rfl co3
  obtain ⟨x1, h1, w1⟩ := open_field hf 1 3 1 1 rfl co3
  obtain ⟨x2, h2, w2⟩ := open_field hf 2 9 2 1 rfl co9
  obtain ⟨a0, r0⟩ := opens_int (enc := enc) Try.underlying3 _ _ h0 w0
  obtain ⟨a1, r1⟩ := opens_int (enc := enc) Try.underlying3 _ _ h1 w1
  obtain ⟨a2, r2⟩ := opens_str (enc := enc) Try.underlying9 _ _ h2 w2
  refine ⟨⟨a0, a1, a2⟩, ?_⟩
  exact RepL.cat (o := 0) (s := 1) r0 (RepL.cat (s := 1) r1 (RepL.cat (s := 1) r2 (RepL.done hl)))
theorem opens_item : ∀ fuel, OpensAt enc Try.prog w sp held fuel 37 It.cs := by
  intro fuel
  induction fuel using Nat.strongRecOn with
  | _ fuel ih =>
    intro cs x h hw
    obtain ⟨n, rfl, hl, hf⟩ := open_struct Try.underlying37 h hw
    rw [co37] at hl
    obtain ⟨x0, h0, w0⟩ := open_field hf 0 3 0 1 rfl co3
    obtain ⟨x1, h1, w1⟩ := open_field hf 1 28 1 1 rfl co28
    obtain ⟨x2, h2, w2⟩ := open_field hf 2 28 2 1 rfl co28
    obtain ⟨x3, h3, w3⟩ := open_field hf 3 3 3 1 rfl co3
    obtain ⟨x4, h4, w4⟩ := open_field hf 4 3 4 1 rfl co3
    obtain ⟨x5, h5, w5⟩ := open_field hf 5 27 5 8 rfl co27
    obtain ⟨x6, h6, w6⟩ := open_field hf 6 32 13 1 rfl co32
    obtain ⟨x7, h7, w7⟩ := open_field hf 7 32 14 1 rfl co32
    obtain ⟨x8, h8, w8⟩ := open_field hf 8 9 15 1 rfl co9
    obtain ⟨x9, h9, w9⟩ := open_field hf 9 9 16 1 rfl co9
    obtain ⟨x10, h10, w10⟩ := open_field hf 10 34 17 3 rfl co34
    obtain ⟨x11, h11, w11⟩ := open_field hf 11 3 20 1 rfl co3
    obtain ⟨x12, h12, w12⟩ := open_field hf 12 3 21 1 rfl co3
    obtain ⟨x13, h13, w13⟩ := open_field hf 13 3 22 1 rfl co3
    obtain ⟨x14, h14, w14⟩ := open_field hf 14 9 23 1 rfl co9
    obtain ⟨x15, h15, w15⟩ := open_field hf 15 35 24 1 rfl co35
    obtain ⟨a0, r0⟩ := opens_int (enc := enc) Try.underlying3 _ _ h0 w0
    obtain ⟨a1, r1⟩ := opens_steps n _ _ h1 w1
    obtain ⟨a2, r2⟩ := opens_steps n _ _ h2 w2
    obtain ⟨a3, r3⟩ := opens_int (enc := enc) Try.underlying3 _ _ h3 w3
    obtain ⟨a4, r4⟩ := opens_int (enc := enc) Try.underlying3 _ _ h4 w4
    obtain ⟨a5, r5⟩ := opens_unit n _ _ h5 w5
    obtain ⟨a6, r6⟩ := opens_strs n _ _ h6 w6
    obtain ⟨a7, r7⟩ := opens_strs n _ _ h7 w7
    obtain ⟨a8, r8⟩ := opens_str (enc := enc) Try.underlying9 _ _ h8 w8
    obtain ⟨a9, r9⟩ := opens_str (enc := enc) Try.underlying9 _ _ h9 w9
    obtain ⟨a10, r10⟩ := opens_start n _ _ h10 w10
    obtain ⟨a11, r11⟩ := opens_int (enc := enc) Try.underlying3 _ _ h11 w11
    obtain ⟨a12, r12⟩ := opens_int (enc := enc) Try.underlying3 _ _ h12 w12
    obtain ⟨a13, r13⟩ := opens_int (enc := enc) Try.underlying3 _ _ h13 w13
    obtain ⟨a14, r14⟩ := opens_str (enc := enc) Try.underlying9 _ _ h14 w14
    have hk : OpensAt enc Try.prog w sp held n 35 (fun l : List It => [.slice (l.map eIt)]) := by
      cases n with
      | zero => intro cs x h; simp [DataW.trod] at h
      | succ m => exact opens_slice eIt (fun u => cells_eIt u) (sz := 25) (fun _ => rfl) (by decide) Try.underlying35 co37 (by rw [by37]; decide) (ih m (by omega))
    obtain ⟨a15, r15⟩ := hk _ _ h15 w15
    refine ⟨⟨a0, a1, a2, a3, a4, a5, a6, a7, a8, a9, a10.1, a10.2.1, a10.2.2, a11, a12, a13, a14, a15⟩, ?_⟩
    exact RepL.cat (o := 0) (s := 1) r0 (RepL.cat (s := 1) r1 (RepL.cat (s := 1) r2 (RepL.cat (s := 1) r3 (RepL.cat (s := 1) r4 (RepL.cat (s := 8) r5 (RepL.cat (s := 1) r6 (RepL.cat (s := 1) r7 (RepL.cat (s := 1) r8 (RepL.cat (s := 1) r9 (RepL.cat (s := 3) r10 (RepL.cat (s := 1) r11 (RepL.cat (s := 1) r12 (RepL.cat (s := 1) r13 (RepL.cat (s := 1) r14 (RepL.cat (s := 1) r15 (RepL.done hl))))))))))))))))
end
end Go.Ai.Try
