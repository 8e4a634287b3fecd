/- A part of the proof: no statement of the seat is proved in this text. -/
import Derived.Test.YtdmhbplibcolbaaGreatM9
set_option linter.unusedVariables false
set_option linter.unusedSimpArgs false
set_option maxRecDepth 20000
set_option maxHeartbeats 1000000
namespace Go.Ai.Tryz
open Go Go.Ai Go.Proofs
variable {w0 : World}
@[go_sem high] theorem abin_startNe (x y : It) : abin tt .neq 31 (.agg [.int .i64 x.skind, .int .i64 x.sday, .str x.sevent]) (.agg [.int .i64 y.skind, .int .i64 y.sday, .str y.sevent]) = some (.bool (!Start0 x y)) := by
  simp [abin, Start0, tt, ty31, anil, aeqs, aeq1, AV.cells, AV.kc, AV.isAgg]
set_option maxHeartbeats 2000000 in
theorem spec17 (x y : It) (hf : fewIt x) (H : AH) (Q : AV → AH → Prop) (h : Q (.bool (sameIt x y)) H) : ACalls Tryz.prog w0 17 [eIt x, eIt y] H Q := by
  refine enter17 (by simp) fun hwf hok R hR hR0 => ?_
  have fin : ∀ b env' H', look 4 env' = .bool b → H.Sub H' → sameIt x y = b → R .ret env' H' := fun b env' H' h2 h3 h4 => hR _ _ _ rfl (.same h3 (by rw [h2]; rfl) (by rw [h2, ← h4]; exact h))
  have he := sameIt_eq x y
  have hfx := hf
  rw [fewIt_eq] at hf
  obtain ⟨hfh, hfb⟩ := hf
  unfold x17
  cases c1 : decide (x.kind = y.kind) with
  | false =>
    have hh : sameH x y = false := by simp only [sameH, c1, Bool.false_and, Bool.and_false, Bool.true_and]
    simp only [go_sem, c1, Bool.not_true, Bool.not_false]
    exact fin false _ _ (by simp only [go_sem]) (.push (.push (.refl hwf) _) _) (by rw [he, hh]; rfl)
  | true =>
    cases c2 : decide (x.wh = y.wh) with
    | false =>
      have hh : sameH x y = false := by simp only [sameH, c1, c2, Bool.false_and, Bool.and_false, Bool.true_and]
      simp only [go_sem, c1, c2, Bool.not_true, Bool.not_false]
      exact fin false _ _ (by simp only [go_sem]) (.push (.push (.refl hwf) _) _) (by rw [he, hh]; rfl)
    | true =>
      cases c3 : decide (x.nth = y.nth) with
      | false =>
        have hh : sameH x y = false := by simp only [sameH, c1, c2, c3, Bool.false_and, Bool.and_false, Bool.true_and]
        simp only [go_sem, c1, c2, c3, Bool.not_true, Bool.not_false]
        exact fin false _ _ (by simp only [go_sem]) (.push (.push (.refl hwf) _) _) (by rw [he, hh]; rfl)
      | true =>
        cases c4 : decide (x.label = y.label) with
        | false =>
          have hh : sameH x y = false := by simp only [sameH, c1, c2, c3, c4, Bool.false_and, Bool.and_false, Bool.true_and]
          simp only [go_sem, c1, c2, c3, c4, Bool.not_true, Bool.not_false]
          exact fin false _ _ (by simp only [go_sem]) (.push (.push (.refl hwf) _) _) (by rw [he, hh]; rfl)
        | true =>
          cases c5 : decide (x.fr = y.fr) with
          | false =>
            have hh : sameH x y = false := by simp only [sameH, c1, c2, c3, c4, c5, Bool.false_and, Bool.and_false, Bool.true_and]
            simp only [go_sem, c1, c2, c3, c4, c5, Bool.not_true, Bool.not_false]
            exact fin false _ _ (by simp only [go_sem]) (.push (.push (.refl hwf) _) _) (by rw [he, hh]; rfl)
          | true =>
            cases c6 : Start0 x y with
            | false =>
              have hh : sameH x y = false := by simp only [sameH, c1, c2, c3, c4, c5, c6, Bool.false_and, Bool.and_false, Bool.true_and]
              simp only [go_sem, c1, c2, c3, c4, c5, c6, Bool.not_true, Bool.not_false]
              exact fin false _ _ (by simp only [go_sem]) (.push (.push (.refl hwf) _) _) (by rw [he, hh]; rfl)
            | true =>
              cases c7 : decide (x.act = y.act) with
              | false =>
                have hh : sameH x y = false := by simp only [sameH, c1, c2, c3, c4, c5, c6, c7, Bool.false_and, Bool.and_false, Bool.true_and]
                simp only [go_sem, c1, c2, c3, c4, c5, c6, c7, Bool.not_true, Bool.not_false]
                exact fin false _ _ (by simp only [go_sem]) (.push (.push (.refl hwf) _) _) (by rw [he, hh]; rfl)
              | true =>
                cases c8 : decide (x.item = y.item) with
                | false =>
                  have hh : sameH x y = false := by simp only [sameH, c1, c2, c3, c4, c5, c6, c7, c8, Bool.false_and, Bool.and_false, Bool.true_and]
                  simp only [go_sem, c1, c2, c3, c4, c5, c6, c7, c8, Bool.not_true, Bool.not_false]
                  exact fin false _ _ (by simp only [go_sem]) (.push (.push (.refl hwf) _) _) (by rw [he, hh]; rfl)
                | true =>
                  cases c9 : decide (x.day = y.day) with
                  | false =>
                    have hh : sameH x y = false := by simp only [sameH, c1, c2, c3, c4, c5, c6, c7, c8, c9, Bool.false_and, Bool.and_false, Bool.true_and]
                    simp only [go_sem, c1, c2, c3, c4, c5, c6, c7, c8, c9, Bool.not_true, Bool.not_false]
                    exact fin false _ _ (by simp only [go_sem]) (.push (.push (.refl hwf) _) _) (by rw [he, hh]; rfl)
                  | true =>
                    cases c10 : decide (x.event = y.event) with
                    | false =>
                      have hh : sameH x y = false := by simp only [sameH, c1, c2, c3, c4, c5, c6, c7, c8, c9, c10, Bool.false_and, Bool.and_false, Bool.true_and]
                      simp only [go_sem, c1, c2, c3, c4, c5, c6, c7, c8, c9, c10, Bool.not_true, Bool.not_false]
                      exact fin false _ _ (by simp only [go_sem]) (.push (.push (.refl hwf) _) _) (by rw [he, hh]; rfl)
                    | true =>
                      have hh : sameH x y = true := by simp only [sameH, c1, c2, c3, c4, c5, c6, c7, c8, c9, c10, Bool.and_true]
                      rw [hh, Bool.true_and] at he
                      simp only [go_sem, c1, c2, c3, c4, c5, c6, c7, c8, c9, c10, Bool.not_true, Bool.not_false]
                      refine spec49 x.at' y.at' (by have := hfh.at'; omega) _ _ ?_
                      cases r1 : sameQ x.at' y.at' with
                      | false =>
                        have hr : sameR x y = false := by simp only [sameR, r1, Bool.false_and, Bool.and_false, Bool.true_and]
                        simp only [go_sem, Bool.not_true, Bool.not_false]
                        exact fin false _ _ (by simp only [go_sem]) (.push (.push (.refl hwf) _) _) (by rw [he, hr]; rfl)
                      | true =>
                        simp only [go_sem, Bool.not_true, Bool.not_false]
                        refine spec49 x.to y.to (by have := hfh.to; omega) _ _ ?_
                        cases r2 : sameQ x.to y.to with
                        | false =>
                          have hr : sameR x y = false := by simp only [sameR, r1, r2, Bool.false_and, Bool.and_false, Bool.true_and]
                          simp only [go_sem, Bool.not_true, Bool.not_false]
                          exact fin false _ _ (by simp only [go_sem]) (.push (.push (.refl hwf) _) _) (by rw [he, hr]; rfl)
                        | true =>
                          simp only [go_sem, Bool.not_true, Bool.not_false]
                          refine spec50 x.old y.old (by have := hfh.old; omega) _ _ ?_
                          cases r3 : sameQ x.old y.old with
                          | false =>
                            have hr : sameR x y = false := by simp only [sameR, r1, r2, r3, Bool.false_and, Bool.and_false, Bool.true_and]
                            simp only [go_sem, Bool.not_true, Bool.not_false]
                            exact fin false _ _ (by simp only [go_sem]) (.push (.push (.refl hwf) _) _) (by rw [he, hr]; rfl)
                          | true =>
                            simp only [go_sem, Bool.not_true, Bool.not_false]
                            refine spec50 x.new y.new (by have := hfh.new; omega) _ _ ?_
                            cases r4 : sameQ x.new y.new with
                            | false =>
                              have hr : sameR x y = false := by simp only [sameR, r1, r2, r3, r4, Bool.false_and, Bool.and_false, Bool.true_and]
                              simp only [go_sem, Bool.not_true, Bool.not_false]
                              exact fin false _ _ (by simp only [go_sem]) (.push (.push (.refl hwf) _) _) (by rw [he, hr]; rfl)
                            | true =>
                              simp only [go_sem, Bool.not_true, Bool.not_false]
                              refine spec13 x.unit y.unit (by have := hfh.unit; omega) hfh.small _ _ ?_
                              cases r5 : sameU x.unit y.unit with
                              | false =>
                                have hr : sameR x y = false := by simp only [sameR, r1, r2, r3, r4, r5, Bool.false_and, Bool.and_false, Bool.true_and]
                                simp only [go_sem, Bool.not_true, Bool.not_false]
                                exact fin false _ _ (by simp only [go_sem]) (.push (.push (.refl hwf) _) _) (by rw [he, hr]; rfl)
                              | true =>
                                simp only [go_sem, Bool.not_true, Bool.not_false]
                                cases r6 : decide (x.by'.length = y.by'.length) with
                                | false =>
                                  have r6' : decide (((x.by'.map eIt).length : Int) = ((y.by'.map eIt).length : Int)) = false := by simp at r6 ⊢; omega
                                  have hr : sameR x y = false := by simp only [sameR, r1, r2, r3, r4, r5, r6, Bool.false_and, Bool.and_false, Bool.true_and]
                                  simp only [go_sem, r6', Bool.not_true, Bool.not_false]
                                  exact fin false _ _ (by simp only [go_sem]) (.push (.push (.refl hwf) _) _) (by rw [he, hr]; rfl)
                                | true =>
                                  have hlm : x.by'.length = y.by'.length := by simpa using r6
                                  have r6' : decide (((x.by'.map eIt).length : Int) = ((y.by'.map eIt).length : Int)) = true := by simp; omega
                                  have hr : sameR x y = true := by simp only [sameR, r1, r2, r3, r4, r5, r6, Bool.and_true]
                                  rw [hr, Bool.true_and] at he
                                  have hby := hfh.by'
                                  simp only [go_sem, r6', Bool.not_true, Bool.not_false]
                                  refine AX.iter (S := List It × List It × List It × List It) ttOk (fun a => [(2, .ptr H.n 0), (3, .ptr (H.n + 1) 0), (5, .int .i64 a.1.length)]) (fun _ => (H.push (.cells x.cs 34)).push (.cells y.cs 34)) (fun a => a.2.1.length) (fun a => a.1 ++ a.2.1 = x.by' ∧ a.2.2.1 ++ a.2.2.2 = y.by' ∧ a.1.length = a.2.2.1.length ∧ sameIts a.2.1 a.2.2.2 = sameIts x.by' y.by') ([], x.by', [], y.by') ?_ rfl ⟨rfl, rfl, rfl, rfl⟩ ?_
                                  · simp only [go_sem]
                                  rintro ⟨pre, post, pre', post'⟩ ⟨h2, h3, h4, h5⟩ hk2 hwf2 K2 R2 hK2 hQ2
                                  simp only at h2 h3 h4 h5 hK2
                                  unfold l17_0
                                  simp only [It.cs]
                                  rcases post with _ | ⟨k, ks⟩
                                  · have hb := ge_of h2 eIt
                                    simp only [go_sem, hb]
                                    refine hQ2 _ _ _ ?_
                                    simp only [go_sem]
                                    exact fin true _ _ (by simp only [go_sem]) (.push (.push (.refl hwf) _) _) (by rw [he, ← h5]; simp only [sameIts])
                                  · rcases post' with _ | ⟨k', ks'⟩
                                    · exfalso; rw [← h2, ← h3] at hlm; simp at hlm; omega
                                    have hb'' := lt_of h2 eIt
                                    have ha := at_of h2 eIt
                                    have ha' := at_of h3 eIt
                                    rw [← h4] at ha'
                                    have hl := len_of h2
                                    have hw : IntKind.i64.wrap ((pre.length : Int) + 1) = pre.length + 1 := wrap_i64.2 (by omega)
                                    have hst : sameIts (k :: ks) (k' :: ks') = (sameIt k k' && sameIts ks ks') := by simp only [sameIts]
                                    have hkm : k ∈ x.by' := by rw [← h2]; simp
                                    simp only [go_sem, hb'', dr17_0, ha, ha', hw]
                                    refine ⟨by omega, by omega, ?_⟩
                                    refine PCalls.of (r := .bool (sameIt k k')) (fun H' => spec17 k k' (fewIts_mem hfb k hkm) _ _ ⟨rfl, rfl⟩) ?_
                                    cases cc : sameIt k k' with
                                    | true =>
                                      simp only [go_sem, hw, Bool.not_true]
                                      refine hK2 _ _ (pre ++ [k], ks, pre' ++ [k'], ks') (by simp) ⟨snoc_of h2, snoc_of h3, by simp [h4], by rw [← h5, hst, cc]; rfl⟩ (.refl hwf2) (Nat.le_refl _) (Nat.le_refl _) ?_
                                      simp only [go_sem, len_snoc]
                                      try simp
                                      try omega
                                    | false =>
                                      simp only [go_sem, hw, Bool.not_false]
                                      refine hQ2 _ _ _ ?_
                                      simp only [go_sem]
                                      exact fin false _ _ (by simp only [go_sem]) (.push (.push (.refl hwf) _) _) (by rw [he, ← h5, hst, cc]; rfl)
termination_by SizeOf.sizeOf x
decreasing_by exact by_lt hkm
end Go.Ai.Tryz
