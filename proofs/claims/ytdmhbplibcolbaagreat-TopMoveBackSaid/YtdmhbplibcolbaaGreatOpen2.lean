/- A part of the proof: no statement of the seat is proved in this text. -/
import Derived.Test.YtdmhbplibcolbaaGreatData
import Derived.Test.YtdmhbplibcolbaaGreatTyA
import Derived.Test.YtdmhbplibcolbaaGreatAi19
import Derived.KernelRfl
set_option linter.unusedVariables false
set_option linter.unusedSimpArgs false
namespace Go.Ai.Tryz
open Go Go.Ai Go.Proofs Go.RowKit
theorem co3 : Tryz.prog.cellsOf 3 = 1 := by kernel_rfl
theorem co9 : Tryz.prog.cellsOf 9 = 1 := by kernel_rfl
theorem co23 : Tryz.prog.cellsOf 23 = 3 := by kernel_rfl
theorem co24 : Tryz.prog.cellsOf 24 = 1 := by kernel_rfl
theorem co25 : Tryz.prog.cellsOf 25 = 1 := by kernel_rfl
theorem co27 : Tryz.prog.cellsOf 27 = 8 := by kernel_rfl
theorem co28 : Tryz.prog.cellsOf 28 = 1 := by kernel_rfl
theorem co56 : Tryz.prog.cellsOf 56 = 2 := by kernel_rfl
theorem co105 : Tryz.prog.cellsOf 105 = 3 := by kernel_rfl
theorem by27 : Tryz.prog.bytesOf 27 = 120 := by kernel_rfl
theorem by56 : Tryz.prog.bytesOf 56 = 24 := by kernel_rfl
theorem by107 : Tryz.prog.bytesOf 107 = 40 := by kernel_rfl
theorem co107 : Tryz.prog.cellsOf 107 = 4 := by kernel_rfl
section
variable {H : Type} {enc : TypeId × Value → H} {w : World} {sp : Nat → Bool} {held : Bool}
theorem opens_id (fuel : Nat) : OpensAt enc Tryz.prog w sp held fuel 23 Id.cs := by
  intro cs x h hw
  obtain ⟨n, rfl, hl, hf⟩ := open_struct Tryz.underlying23 h hw
  rw [co23] at hl
  obtain ⟨x0, h0, w0⟩ := open_field hf 0 3 0 1 rfl co3
  obtain ⟨x1, h1, w1⟩ := open_field hf 1 3 1 1 rfl co3
  obtain ⟨x2, h2, w2⟩ := open_field hf 2 3 2 1 rfl co3
  obtain ⟨a0, r0⟩ := opens_int (enc := enc) Tryz.underlying3 _ _ h0 w0
  obtain ⟨a1, r1⟩ := opens_int (enc := enc) Tryz.underlying3 _ _ h1 w1
  obtain ⟨a2, r2⟩ := opens_int (enc := enc) Tryz.underlying3 _ _ h2 w2
  refine ⟨⟨a0, a1, a2⟩, ?_⟩
  exact RepL.cat (o := 0) (s := 1) r0 (RepL.cat (s := 1) r1 (RepL.cat (s := 1) r2 (RepL.done hl)))
theorem opens_mark (fuel : Nat) : OpensAt enc Tryz.prog w sp held fuel 105 Id.cs := by
  intro cs x h hw
  obtain ⟨n, rfl, hl, hf⟩ := open_struct Tryz.underlying105 h hw
  rw [co105] at hl
  obtain ⟨x0, h0, w0⟩ := open_field hf 0 3 0 1 rfl co3
  obtain ⟨x1, h1, w1⟩ := open_field hf 1 3 1 1 rfl co3
  obtain ⟨x2, h2, w2⟩ := open_field hf 2 3 2 1 rfl co3
  obtain ⟨a0, r0⟩ := opens_int (enc := enc) Tryz.underlying3 _ _ h0 w0
  obtain ⟨a1, r1⟩ := opens_int (enc := enc) Tryz.underlying3 _ _ h1 w1
  obtain ⟨a2, r2⟩ := opens_int (enc := enc) Tryz.underlying3 _ _ h2 w2
  refine ⟨⟨a0, a1, a2⟩, ?_⟩
  exact RepL.cat (o := 0) (s := 1) r0 (RepL.cat (s := 1) r1 (RepL.cat (s := 1) r2 (RepL.done hl)))
def wcs (x : Wd) : List AV := .str x.text :: x.origin.cs
theorem opens_word (fuel : Nat) : OpensAt enc Tryz.prog w sp held fuel 107 wcs := by
  intro cs x h hw
  obtain ⟨n, rfl, hl, hf⟩ := open_struct Tryz.underlying107 h hw
  rw [co107] at hl
  obtain ⟨x0, h0, w0⟩ := open_field hf 0 9 0 1 rfl co9
  obtain ⟨x1, h1, w1⟩ := open_field hf 1 105 1 3 rfl co105
  obtain ⟨a0, r0⟩ := opens_str (enc := enc) Tryz.underlying9 _ _ h0 w0
  obtain ⟨a1, r1⟩ := opens_mark n _ _ h1 w1
  refine ⟨⟨a0, a1⟩, ?_⟩
  exact RepL.cat (o := 0) (s := 1) r0 (RepL.cat (s := 3) r1 (RepL.done hl))
theorem opens_step (fuel : Nat) : OpensAt enc Tryz.prog w sp held fuel 56 (fun s : Step => [.int .i64 s.kind, .str s.label]) := by
  intro cs x h hw
  obtain ⟨n, rfl, hl, hf⟩ := open_struct Tryz.underlying56 h hw
  rw [co56] at hl
  obtain ⟨x0, h0, w0⟩ := open_field hf 0 3 0 1 rfl co3
  obtain ⟨x1, h1, w1⟩ := open_field hf 1 9 1 1 rfl co9
  obtain ⟨a0, r0⟩ := opens_int (enc := enc) Tryz.underlying3 _ _ h0 w0
  obtain ⟨a1, r1⟩ := opens_str (enc := enc) Tryz.underlying9 _ _ h1 w1
  refine ⟨⟨a0, a1⟩, ?_⟩
  exact RepL.cat (o := 0) (s := 1) r0 (RepL.cat (s := 1) r1 (RepL.done hl))
theorem opens_words (fuel : Nat) : OpensAt enc Tryz.prog w sp held fuel 24 (fun l : List Wd => [.slice (l.map eW)]) := by
  cases fuel with
  | zero => intro cs x h; simp [DataW.trod] at h
  | succ n => exact opens_slice eW (fun _ => rfl) (sz := 4) (fun _ => rfl) (by decide) Tryz.underlying24 co107 (by rw [by107]; decide) (opens_word n)
theorem opens_steps (fuel : Nat) : OpensAt enc Tryz.prog w sp held fuel 28 (fun l : List Step => [.slice (l.map eS)]) := by
  cases fuel with
  | zero => intro cs x h; simp [DataW.trod] at h
  | succ n => exact opens_slice eS (fun _ => rfl) (sz := 2) (fun _ => rfl) (by decide) Tryz.underlying28 co56 (by rw [by56]; decide) (opens_step n)
theorem opens_unit : ∀ fuel, OpensAt enc Tryz.prog w sp held fuel 27 U.cs := by
  intro fuel
  induction fuel using Nat.strongRecOn with
  | _ fuel ih =>
    intro cs x h hw
    obtain ⟨n, rfl, hl, hf⟩ := open_struct Tryz.underlying27 h hw
    rw [co27] at hl
    obtain ⟨x0, h0, w0⟩ := open_field hf 0 23 0 3 rfl co23
    obtain ⟨x1, h1, w1⟩ := open_field hf 1 3 3 1 rfl co3
    obtain ⟨x2, h2, w2⟩ := open_field hf 2 9 4 1 rfl co9
    obtain ⟨x3, h3, w3⟩ := open_field hf 3 24 5 1 rfl co24
    obtain ⟨x4, h4, w4⟩ := open_field hf 4 24 6 1 rfl co24
    obtain ⟨x5, h5, w5⟩ := open_field hf 5 25 7 1 rfl co25
    obtain ⟨a0, r0⟩ := opens_id n _ _ h0 w0
    obtain ⟨a1, r1⟩ := opens_int (enc := enc) Tryz.underlying3 _ _ h1 w1
    obtain ⟨a2, r2⟩ := opens_str (enc := enc) Tryz.underlying9 _ _ h2 w2
    obtain ⟨a3, r3⟩ := opens_words n _ _ h3 w3
    obtain ⟨a4, r4⟩ := opens_words n _ _ h4 w4
    have hk : OpensAt enc Tryz.prog w sp held n 25 (fun l : List U => [.slice (l.map eU)]) := by
      cases n with
      | zero => intro cs x h; simp [DataW.trod] at h
      | succ m => exact opens_slice eU (fun u => cells_eU u) (sz := 8) (fun _ => rfl) (by decide) Tryz.underlying25 co27 (by rw [by27]; decide) (ih m (by omega))
    obtain ⟨a5, r5⟩ := hk _ _ h5 w5
    refine ⟨⟨a0, a1, a2, a3, a4, a5⟩, ?_⟩
    exact RepL.cat (o := 0) (s := 3) r0 (RepL.cat (s := 1) r1 (RepL.cat (s := 1) r2 (RepL.cat (s := 1) r3 (RepL.cat (s := 1) r4 (RepL.cat (s := 1) r5 (RepL.done hl))))))
end
end Go.Ai.Tryz

set_option linter.unusedVariables false
set_option linter.unusedSimpArgs false
namespace Go.Ai
open Go Go.RowKit
def nL : Code → Nat
  | .seq a b => nL a + nL b
  | .cond _ a b => nL a + nL b
  | .block _ b => nL b
  | .loop b => nL b + 1
  | _ => 0
def nD : Code → Nat
  | .region _ _ d => if d then 1 else 0
  | .seq a b => nD a + nD b
  | .cond _ a b => nD a + nD b
  | .block _ b => nD b
  | .loop b => nD b
  | _ => 0
def xs (L : List XCode) (R : List (List XOp × List (List Nat))) : Code → Nat → Nat → XCode
  | .skip, _, _ => .skip
  | .ret, _, _ => .ret
  | .exit id, _, _ => .exit id
  | .region id ops draw, _, j => if draw then .draw (R.getD j ([], [])).1 (R.getD j ([], [])).2 else .region (ops.toList.map (xop ops))
  | .seq a b, i, j => .seq (xs L R a i j) (xs L R b (i + nL a) (j + nD a))
  | .cond c a b, i, j => .cond c (xs L R a i j) (xs L R b (i + nL a) (j + nD a))
  | .block id b, i, j => .block id (xs L R b i j)
  | .loop b, i, _ => .loop (L.getD (i + nL b) .skip)
  | c, _, _ => .other c
def lbody : Code → Nat → Nat → Nat → Option (Code × Nat × Nat)
  | .seq a b, k, i, j => if k < i + nL a then lbody a k i j else lbody b k (i + nL a) (j + nD a)
  | .cond _ a b, k, i, j => if k < i + nL a then lbody a k i j else lbody b k (i + nL a) (j + nD a)
  | .block _ b, k, i, j => lbody b k i j
  | .loop b, k, i, j => if k < i + nL b then lbody b k i j else some (b, i, j)
  | _, _, _, _ => none
def xl (c : Code) (k : Nat) (L : List XCode) (R : List (List XOp × List (List Nat))) : XCode := match lbody c k 0 0 with | some (b, i, j) => xs L R b i j | none => .skip
def dbody : Code → Nat → Array Oper
  | .region _ ops _, _ => ops
  | .seq a b, j => if j < nD a then dbody a j else dbody b (j - nD a)
  | .cond _ a b, j => if j < nD a then dbody a j else dbody b (j - nD a)
  | .block _ b, j => dbody b j
  | .loop b, j => dbody b j
  | _, _ => #[]
def xr (c : Code) (j : Nat) : List XOp := (dbody c j).toList.map (xop (dbody c j))
def xq (c : Code) (j : Nat) : List (List Nat) := (dbody c j).toList.map afters
abbrev EnterT (P : Program) (tt : TT) (N : Nat) (x : XCode) (rs : List ResultVar) (f : FuncId) : Prop :=
  ∀ {w0 : World} {args : List AV} {H : AH} {Q : AV → AH → Prop}, args.length ≤ N → (H.WF → (∀ a ∈ args, a.Ok) → ∀ (R : APost), (∀ env' H' r, ares tt env' H' rs r → Leave H r H' Q → R .ret env' H') → (∀ env' H', R .ret env' H' → R .normal env' H') → awp P w0 tt N x (enumF 0 args) H R) → ACalls P w0 f args H Q
theorem enterT {P : Program} {tt : TT} (htt : TtOk P tt) {f : FuncId} {fn : Func} (hf : P.funcs[f]? = some fn) (c : Code) {x : XCode} {rs : List ResultVar} {N : Nat} (hN : fn.ntmps = N) (hname0 : (fn.name == "runtime.NumGoroutine") = false) (hb : fn.body = some c) (hx : xc c = x)
    (hd : dstOk fn.ntmps c = true) (hrs : fn.results.toList = rs) : EnterT P tt N x rs f := by
  subst hN
  intro w0 args H Q hn h
  exact ACalls.enterK htt hf hname0 hb hx hd hrs hn h
end Go.Ai
