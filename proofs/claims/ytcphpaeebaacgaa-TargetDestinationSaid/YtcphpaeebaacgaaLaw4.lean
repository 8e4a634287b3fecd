/- TargetFind returns true for every unit and every instruction, and leaves its arguments as they were: no condition beyond the row's own. -/
import Derived.Test.YtcphpaeebaacgaaLaw3
import Derived.Test.YtcphpaeebaacgaaOpen3
import Derived.Test.YtcphpaeebaacgaaG9
set_option linter.unusedVariables false
set_option linter.unusedSimpArgs false
namespace Go.Proofs.Ytcphpaeebaacgaa
open Go Go.Ai Go.ChangeShapes Go.WideShapes Go.ChangeAt Go.RowKit

theorem rep_item {H : Type} {W : World} {enc : TypeId × Value → H} {v : Value} {d : DataW H} {p : List MemPlace} {base : Nat} (hval : Value.okWide Try.prog W .any base 37 v) (h : DataW.Trod enc Try.prog W 0 (fun _ => true) true 37 v d p) (hw : ∀ n ∈ d.weights Try.prog 37, n ≤ reachBytes) :
    ∃ x : It, Rep (gh0 W) (eIt x) v := by
  obtain ⟨fuel, hf⟩ := h
  simp only [Value.okWide, Try.underlying37] at hval
  obtain ⟨cs, rfl, _, _⟩ := hval
  obtain ⟨u, hu⟩ := Go.Ai.Try.opens_item fuel _ _ hf hw
  refine ⟨u, ?_⟩
  rw [eIt_eq]
  exact .agg u.cs cs.toList hu.1 hu.2

set_option maxHeartbeats 800000 in
set_option maxRecDepth 100000 in
theorem find_lifted (os : Os) (started : os.Started) (H : Type) (enc : TypeId × Value → H) :
    ReturnsInHanded {} Try.checked os 4 .any (Rows.targetFindSpec.pre6 enc Try.prog Try.f4 Rows.targetFindRow.domain false) (Rows.targetFindSpec.post enc Try.prog Try.f4 false true false false) := by
  refine returnsInHanded_of_change_sized (C := Try.checked) Try.own started (by kernel_rfl) Try.func4
    (ChangeSpec.witness6 (enc := enc) (C := Try.checked) false ⟨#[], #[.agg #[.int .i64 0, .int .i64 0, .int .i64 0, .int .i64 0, .string ByteArray.empty, .slice none 0 0, .slice none 0 0, .slice none 0 0], .agg #[.int .i64 0, .slice none 0 0, .slice none 0 0, .int .i64 0, .int .i64 0, .int .i64 0, .int .i64 0, .int .i64 0, .int .i64 0, .string ByteArray.empty, .slice none 0 0, .slice none 0 0, .slice none 0 0, .slice none 0 0, .slice none 0 0, .string ByteArray.empty, .string ByteArray.empty, .int .i64 0, .int .i64 0, .string ByteArray.empty, .int .i64 0, .int .i64 0, .int .i64 0, .string ByteArray.empty, .slice none 0 0]], []⟩ 8 (by kernel_rfl) (by kernel_rfl) (by kernel_rfl) (by kernel_rfl)) ?_
  intro W base args ds gs before hval0 hW _ hwt0 _
  have hval : ∀ (j : Nat) t v, Try.f4.params[j]? = some t → args[j]? = some v → Value.okWide Try.prog W .any base t v := hval0
  have hwt : (DataW.weightsEach Try.prog (Try.f4.params.toList ++ Rows.targetFindSpec.plain.varTypes Try.prog) (ds ++ gs)).all (· ≤ reachBytes) = true := hwt0
  have hW' := hW
  obtain ⟨p, q, hA0, hV, rfl, _, _⟩ := hW
  have hA : DataW.TrodAll enc Try.prog W 0 (fun _ => true) true Try.f4.params.toList args.toList ds p := hA0
  rw [Try.params4] at hA hval hwt
  obtain ⟨v0, v1, d0, d1, p0, p1, rfl, rfl, rfl, h0, h1⟩ := trodAll_two hA
  obtain ⟨rfl, rfl⟩ := trodVars_none hV
  clear hA0 hval0 hwt0
  simp only [List.append_nil] at hW'
  have hwt' : ∀ n ∈ DataW.weightsEach Try.prog [27, 37] [d0, d1], n ≤ reachBytes := by
    intro n hn
    have := List.all_eq_true.1 hwt n (by simpa [DataW.weightsEach] using hn)
    simpa using this
  have hlt : ∀ x ∈ p0 ++ p1, x.block < W.heap.size := fun x hx => by simpa using hW'.lt x hx
  have hlt0 : ∀ x ∈ p0, x.block < W.heap.size := fun x hx => hlt x (by simp [hx])
  have hlt1 : ∀ x ∈ p1, x.block < W.heap.size := fun x hx => hlt x (by simp [hx])
  obtain ⟨u, ru⟩ := rep_unit (hval 0 27 v0 rfl rfl) h0 (weightsEach_get hwt' (i := 0) rfl rfl)
  obtain ⟨l, rl⟩ := rep_item (hval 1 37 v1 rfl rfl) h1 (weightsEach_get hwt' (i := 1) rfl rfl)
  have hc := (Go.Ai.Try.spec4 (w0 := W) u l ah0 (fun r H' => r = .bool true) rfl).run (gh0 W) W [v0, v1] (sim0 W) (.cons ru (.cons rl (.nil _)))
  refine hc.mono fun e W' ⟨v, r, G', H', he, _, hS, hr, hrt⟩ => ?_
  subst hrt
  have hv := hr.bool_inv
  subst hv
  subst he
  have hbelow : Below W.heap.size W W' := hS.below
  refine ⟨_, rfl, _, _, _, [], _, [], hW', ?_, trodAll_mk2 (Below.trod Try.laidOut (by kernel_rfl) (of_decide_eq_true (by kernel_rfl)) h0 hbelow hlt0) (Below.trod Try.laidOut (by kernel_rfl) (of_decide_eq_true (by kernel_rfl)) h1 hbelow hlt1), rfl, hbelow.frame _, fun h => by cases h⟩
  exact trodAll_mk1 (shut_bool Try.underlying4 true)

theorem find_holds : Rows.TargetFindSaid :=
  OpenClaim.holds_of_wide 4 Try.f4 rfl rfl rfl rfl rfl rfl rfl ⟨rfl, rfl, rfl, rfl, rfl⟩ rfl rfl rfl rfl rfl (by kernel_rfl) Try.func4 (by kernel_rfl)
    (of_decide_eq_true (by kernel_rfl)) (by unfold Func.isWrapper; first | (rw [if_pos (by decide +kernel)]; kernel_rfl) | (rw [if_neg (by decide +kernel)]; exact ⟨rfl, rfl⟩))
    (fun os started H enc _ => find_lifted os started H enc)
#print axioms find_holds
end Go.Proofs.Ytcphpaeebaacgaa
