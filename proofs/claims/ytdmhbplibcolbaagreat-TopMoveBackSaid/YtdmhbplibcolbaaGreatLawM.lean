/- TopMoveBack returns true for every unit and every enacted item, and leaves its arguments as they were: no condition beyond the row's own. -/
import Derived.Test.YtdmhbplibcolbaaGreatOpen3
import Derived.Test.YtdmhbplibcolbaaGreatN15
import Derived.SizedLaws
set_option linter.unusedVariables false
set_option linter.unusedSimpArgs false
set_option maxRecDepth 20000
set_option maxHeartbeats 1000000
namespace Go.Ai.Tryz
open Go Go.Ai Go.Proofs Go.RowKit
theorem co36 : Tryz.prog.cellsOf 36 = 28 := by kernel_rfl
theorem opens_deed {H : Type} {enc : TypeId × Value → H} {w : World} {sp : Nat → Bool} {held : Bool} (fuel : Nat) : OpensAt enc Tryz.prog w sp held fuel 36 De.cs := by
  intro cs x h hw
  obtain ⟨n, rfl, hl, hf⟩ := open_struct Tryz.underlying36 h hw
  rw [co36] at hl
  obtain ⟨x0, h0, w0⟩ := open_field hf 0 3 0 1 rfl co3
  obtain ⟨x1, h1, w1⟩ := open_field hf 1 3 1 1 rfl co3
  obtain ⟨x2, h2, w2⟩ := open_field hf 2 3 2 1 rfl co3
  obtain ⟨x3, h3, w3⟩ := open_field hf 3 34 3 25 rfl co34
  obtain ⟨a0, r0⟩ := opens_int (enc := enc) Tryz.underlying3 _ _ h0 w0
  obtain ⟨a1, r1⟩ := opens_int (enc := enc) Tryz.underlying3 _ _ h1 w1
  obtain ⟨a2, r2⟩ := opens_int (enc := enc) Tryz.underlying3 _ _ h2 w2
  obtain ⟨a3, r3⟩ := opens_item n _ _ h3 w3
  refine ⟨⟨a0, a1, a2, a3⟩, ?_⟩
  have := RepL.cat (o := 0) (s := 1) r0 (RepL.cat (s := 1) r1 (RepL.cat (s := 1) r2 (RepL.cat (s := 25) r3 (RepL.done hl))))
  simpa [De.cs] using this
end Go.Ai.Tryz
namespace Go.Proofs.YtdmhbplibcolbaaGreat
open Go Go.Ai Go.ChangeShapes Go.WideShapes Go.ChangeAt Go.RowKit
theorem Tryz.own : ownKnob Tryz.prog.godebug = none := by kernel_rfl
theorem Tryz.laidOut : laidOutB Tryz.prog = true := by kernel_rfl
theorem rep_unit {H : Type} {W : World} {enc : TypeId × Value → H} {v : Value} {d : DataW H} {p : List MemPlace} {base : Nat} (hval : Value.okWide Tryz.prog W .any base 27 v) (h : DataW.Trod enc Tryz.prog W 0 (fun _ => true) true 27 v d p) (hw : ∀ n ∈ d.weights Tryz.prog 27, n ≤ reachBytes) :
    ∃ u : U, Rep (gh0 W) (eU u) v := by
  obtain ⟨fuel, hf⟩ := h
  simp only [Value.okWide, Tryz.underlying27] at hval
  obtain ⟨cs, rfl, _, _⟩ := hval
  obtain ⟨u, hu⟩ := Go.Ai.Tryz.opens_unit fuel _ _ hf hw
  refine ⟨u, ?_⟩
  rw [eU_eq]
  exact .agg u.cs cs.toList hu.1 hu.2
theorem rep_deed {H : Type} {W : World} {enc : TypeId × Value → H} {v : Value} {d : DataW H} {p : List MemPlace} {base : Nat} (hval : Value.okWide Tryz.prog W .any base 36 v) (h : DataW.Trod enc Tryz.prog W 0 (fun _ => true) true 36 v d p) (hw : ∀ n ∈ d.weights Tryz.prog 36, n ≤ reachBytes) :
    ∃ x : De, Rep (gh0 W) (eD x) v := by
  obtain ⟨fuel, hf⟩ := h
  simp only [Value.okWide, Tryz.underlying36] at hval
  obtain ⟨cs, rfl, _, _⟩ := hval
  obtain ⟨u, hu⟩ := Go.Ai.Tryz.opens_deed fuel _ _ hf hw
  exact ⟨u, .agg u.cs cs.toList hu.1 hu.2⟩
set_option maxHeartbeats 800000 in
set_option maxRecDepth 100000 in
theorem moveBack_lifted (os : Os) (started : os.Started) (H : Type) (enc : TypeId × Value → H) :
    ReturnsInHanded {} Tryz.checked os 3 .any (Rows.topMoveBackSpec.pre6 enc Tryz.prog Tryz.f3 Rows.topMoveBackRow.domain false) (Rows.topMoveBackSpec.post enc Tryz.prog Tryz.f3 false true false false) := by
  refine returnsInHanded_of_change_sized (C := Tryz.checked) Tryz.own started (by kernel_rfl) Tryz.func3
    (ChangeSpec.witness6 (enc := enc) (C := Tryz.checked) false ⟨#[], #[.agg #[.int .i64 0, .int .i64 0, .int .i64 0, .int .i64 0, .string ByteArray.empty, .slice none 0 0, .slice none 0 0, .slice none 0 0], .agg #[.int .i64 0, .int .i64 0, .int .i64 0, .int .i64 0, .slice none 0 0, .slice none 0 0, .int .i64 0, .int .i64 0, .int .i64 0, .int .i64 0, .int .i64 0, .int .i64 0, .string ByteArray.empty, .slice none 0 0, .slice none 0 0, .slice none 0 0, .slice none 0 0, .slice none 0 0, .string ByteArray.empty, .string ByteArray.empty, .int .i64 0, .int .i64 0, .string ByteArray.empty, .int .i64 0, .int .i64 0, .int .i64 0, .string ByteArray.empty, .slice none 0 0]], []⟩ 8 (by kernel_rfl) (by kernel_rfl) (by kernel_rfl) (by kernel_rfl)) ?_
  intro W base args ds gs before hval0 hW _ hwt0 _
  have hval : ∀ (j : Nat) t v, Tryz.f3.params[j]? = some t → args[j]? = some v → Value.okWide Tryz.prog W .any base t v := hval0
  have hwt : (DataW.weightsEach Tryz.prog (Tryz.f3.params.toList ++ Rows.topMoveBackSpec.plain.varTypes Tryz.prog) (ds ++ gs)).all (· ≤ reachBytes) = true := hwt0
  have hW' := hW
  obtain ⟨p, q, hA0, hV, rfl, _, _⟩ := hW
  have hA : DataW.TrodAll enc Tryz.prog W 0 (fun _ => true) true Tryz.f3.params.toList args.toList ds p := hA0
  rw [Tryz.params3] at hA hval hwt
  obtain ⟨v0, v1, d0, d1, p0, p1, rfl, rfl, rfl, h0, h1⟩ := trodAll_two hA
  obtain ⟨rfl, rfl⟩ := trodVars_none hV
  clear hA0 hval0 hwt0
  simp only [List.append_nil] at hW'
  have hwt' : ∀ n ∈ DataW.weightsEach Tryz.prog [27, 36] [d0, d1], n ≤ reachBytes := by
    intro n hn
    have := List.all_eq_true.1 hwt n (by simpa [DataW.weightsEach] using hn)
    simpa using this
  have hlt : ∀ x ∈ p0 ++ p1, x.block < W.heap.size := fun x hx => by simpa using hW'.lt x hx
  have hlt0 : ∀ x ∈ p0, x.block < W.heap.size := fun x hx => hlt x (by simp [hx])
  have hlt1 : ∀ x ∈ p1, x.block < W.heap.size := fun x hx => hlt x (by simp [hx])
  obtain ⟨u, ru⟩ := rep_unit (hval 0 27 v0 rfl rfl) h0 (weightsEach_get hwt' (i := 0) rfl rfl)
  obtain ⟨l, rl⟩ := rep_deed (hval 1 36 v1 rfl rfl) h1 (weightsEach_get hwt' (i := 1) rfl rfl)
  have hc := (Go.Ai.Tryz.spec3 (w0 := W) u l ah0 (fun r H' => r = .bool true) rfl).run (gh0 W) W [v0, v1] (sim0 W) (.cons ru (.cons rl (.nil _)))
  refine hc.mono fun e W' ⟨v, r, G', H', he, _, hS, hr, hrt⟩ => ?_
  subst hrt
  have hv := hr.bool_inv
  subst hv
  subst he
  have hbelow : Below W.heap.size W W' := hS.below
  refine ⟨_, rfl, _, _, _, [], _, [], hW', ?_, trodAll_mk2 (Below.trod Tryz.laidOut (by kernel_rfl) (of_decide_eq_true (by kernel_rfl)) h0 hbelow hlt0) (Below.trod Tryz.laidOut (by kernel_rfl) (of_decide_eq_true (by kernel_rfl)) h1 hbelow hlt1), rfl, hbelow.frame _, fun h => by cases h⟩
  exact trodAll_mk1 (shut_bool Tryz.underlying4 true)
theorem moveBack_holds : Rows.TopMoveBackSaid :=
  OpenClaim.holds_of_wide 3 Tryz.f3 rfl rfl rfl rfl rfl rfl rfl ⟨rfl, rfl, rfl, rfl, rfl⟩ rfl rfl rfl rfl rfl (by kernel_rfl) Tryz.func3 (by kernel_rfl)
    (of_decide_eq_true (by kernel_rfl)) (by unfold Func.isWrapper; first | (rw [if_pos (by decide +kernel)]; kernel_rfl) | (rw [if_neg (by decide +kernel)]; exact ⟨rfl, rfl⟩))
    (fun os started H enc _ => moveBack_lifted os started H enc)
#print axioms moveBack_holds
end Go.Proofs.YtdmhbplibcolbaaGreat
