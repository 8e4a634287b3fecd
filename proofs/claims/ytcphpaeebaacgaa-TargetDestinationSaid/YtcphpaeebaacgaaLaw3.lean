/- TargetInsertionPoint returns true for every unit, every address and every position, and leaves its arguments as they were: no condition beyond the row's own. -/
import Derived.Test.YtcphpaeebaacgaaOpen
import Derived.SizedLaws
import Derived.Test.YtcphpaeebaacgaaG7
set_option linter.unusedVariables false
set_option linter.unusedSimpArgs false
namespace Go.Proofs.Ytcphpaeebaacgaa
open Go Go.Ai Go.ChangeShapes Go.WideShapes Go.ChangeAt Go.RowKit

theorem Try.own : ownKnob Try.prog.godebug = none := by kernel_rfl
theorem Try.laidOut : laidOutB Try.prog = true := by kernel_rfl

theorem rep_unit {H : Type} {W : World} {enc : TypeId × Value → H} {v : Value} {d : DataW H} {p : List MemPlace} {base : Nat} (hval : Value.okWide Try.prog W .any base 27 v) (h : DataW.Trod enc Try.prog W 0 (fun _ => true) true 27 v d p) (hw : ∀ n ∈ d.weights Try.prog 27, n ≤ reachBytes) :
    ∃ u : U, Rep (gh0 W) (eU u) v := by
  obtain ⟨fuel, hf⟩ := h
  simp only [Value.okWide, Try.underlying27] at hval
  obtain ⟨cs, rfl, _, _⟩ := hval
  obtain ⟨u, hu⟩ := Go.Ai.Try.opens_unit fuel _ _ hf hw
  refine ⟨u, ?_⟩
  rw [eU_eq]
  exact .agg u.cs cs.toList hu.1 hu.2
set_option maxRecDepth 20000 in
theorem rep_steps {H : Type} {W : World} {enc : TypeId × Value → H} {v : Value} {d : DataW H} {p : List MemPlace} {base : Nat} (hval : Value.okWide Try.prog W .any base 28 v) (h : DataW.Trod enc Try.prog W 0 (fun _ => true) true 28 v d p) (hw : ∀ n ∈ d.weights Try.prog 28, n ≤ reachBytes) :
    ∃ l : List Step, Rep (gh0 W) (.slice (l.map eS)) v := by
  obtain ⟨fuel, hf⟩ := h
  obtain ⟨a0, len0, cap0, rfl⟩ := okWide_slice Try.underlying28 hval
  obtain ⟨l, hl⟩ := Go.Ai.Try.opens_steps fuel _ _ hf hw
  exact ⟨l, hl.2 0 _ _ rfl rfl⟩

set_option maxHeartbeats 800000 in
set_option maxRecDepth 100000 in
theorem insertionPoint_lifted (os : Os) (started : os.Started) (H : Type) (enc : TypeId × Value → H) :
    ReturnsInHanded {} Try.checked os 3 .any (Rows.targetInsertionPointSpec.pre6 enc Try.prog Try.f3 Rows.targetInsertionPointRow.domain false) (Rows.targetInsertionPointSpec.post enc Try.prog Try.f3 false true false false) := by
  refine returnsInHanded_of_change_sized (C := Try.checked) Try.own started (by kernel_rfl) Try.func3
    (ChangeSpec.witness6 (enc := enc) (C := Try.checked) false ⟨#[], #[.agg #[.int .i64 0, .int .i64 0, .int .i64 0, .int .i64 0, .string ByteArray.empty, .slice none 0 0, .slice none 0 0, .slice none 0 0], .slice none 0 0, .int .i64 0], []⟩ 8 (by kernel_rfl) (by kernel_rfl) (by kernel_rfl) (by kernel_rfl)) ?_
  intro W base args ds gs before hval0 hW _ hwt0 _
  have hval : ∀ (j : Nat) t v, Try.f3.params[j]? = some t → args[j]? = some v → Value.okWide Try.prog W .any base t v := hval0
  have hwt : (DataW.weightsEach Try.prog (Try.f3.params.toList ++ Rows.targetInsertionPointSpec.plain.varTypes Try.prog) (ds ++ gs)).all (· ≤ reachBytes) = true := hwt0
  have hW' := hW
  obtain ⟨p, q, hA0, hV, rfl, _, _⟩ := hW
  have hA : DataW.TrodAll enc Try.prog W 0 (fun _ => true) true Try.f3.params.toList args.toList ds p := hA0
  rw [Try.params3] at hA hval hwt
  obtain ⟨v0, v1, v2, d0, d1, d2, p0, p1, p2, rfl, rfl, rfl, h0, h1, h2⟩ := trodAll_three hA
  obtain ⟨rfl, rfl⟩ := trodVars_none hV
  clear hA0 hval0 hwt0
  simp only [List.append_nil] at hW'
  have hwt' : ∀ n ∈ DataW.weightsEach Try.prog [27, 28, 3] [d0, d1, d2], n ≤ reachBytes := by
    intro n hn
    have := List.all_eq_true.1 hwt n (by simpa [DataW.weightsEach] using hn)
    simpa using this
  have hlt : ∀ x ∈ p0 ++ p1 ++ p2, x.block < W.heap.size := fun x hx => by simpa using hW'.lt x hx
  have hlt0 : ∀ x ∈ p0, x.block < W.heap.size := fun x hx => hlt x (by simp [hx])
  have hlt1 : ∀ x ∈ p1, x.block < W.heap.size := fun x hx => hlt x (by simp [hx])
  have hlt2 : ∀ x ∈ p2, x.block < W.heap.size := fun x hx => hlt x (by simp [hx])
  obtain ⟨u, ru⟩ := rep_unit (hval 0 27 v0 rfl rfl) h0 (weightsEach_get hwt' (i := 0) rfl rfl)
  obtain ⟨l, rl⟩ := rep_steps (hval 1 28 v1 rfl rfl) h1 (weightsEach_get hwt' (i := 1) rfl rfl)
  obtain ⟨c, rfl, hd2, hp2, wc⟩ := open_int Try.underlying3 (hval 2 3 v2 rfl rfl) h2
  have rc : Rep (gh0 W) (.int .i64 c) (.int .i64 c) := by
    refine .int _ _ (wrap_i64.2 ?_)
    simp only [Lit.wf, Bool.and_eq_true, decide_eq_true_eq] at wc
    have e1 : IntKind.i64.min = -9223372036854775808 := by decide
    have e2 : IntKind.i64.max = 9223372036854775807 := by decide
    rw [e1, e2] at wc
    exact wc
  have hc := (Go.Ai.Try.spec3 (w0 := W) u l c ah0 (fun r H' => r = .bool true) rfl).run (gh0 W) W [v0, v1, .int .i64 c] (sim0 W) (.cons ru (.cons rl (.cons rc (.nil _))))
  refine hc.mono fun e W' ⟨v, r, G', H', he, _, hS, hr, hrt⟩ => ?_
  subst hrt
  have hv := hr.bool_inv
  subst hv
  subst he
  have hbelow : Below W.heap.size W W' := hS.below
  refine ⟨_, rfl, _, _, _, [], _, [], hW', ?_, trodAll_mk3 (Below.trod Try.laidOut (by kernel_rfl) (of_decide_eq_true (by kernel_rfl)) h0 hbelow hlt0) (Below.trod Try.laidOut (by kernel_rfl) (of_decide_eq_true (by kernel_rfl)) h1 hbelow hlt1) (Below.trod Try.laidOut (by kernel_rfl) (of_decide_eq_true (by kernel_rfl)) h2 hbelow hlt2), rfl, hbelow.frame _, fun h => by cases h⟩
  exact trodAll_mk1 (shut_bool Try.underlying4 true)

theorem insertionPoint_holds : Rows.TargetInsertionPointSaid :=
  OpenClaim.holds_of_wide 3 Try.f3 rfl rfl rfl rfl rfl rfl rfl ⟨rfl, rfl, rfl, rfl, rfl⟩ rfl rfl rfl rfl rfl (by kernel_rfl) Try.func3 (by kernel_rfl)
    (of_decide_eq_true (by kernel_rfl)) (by unfold Func.isWrapper; first | (rw [if_pos (by decide +kernel)]; kernel_rfl) | (rw [if_neg (by decide +kernel)]; exact ⟨rfl, rfl⟩))
    (fun os started H enc _ => insertionPoint_lifted os started H enc)
#print axioms insertionPoint_holds
end Go.Proofs.Ytcphpaeebaacgaa
