/- A part of the proof: no statement of the seat is proved in this text. -/
import Derived.Test.YtcphpaeebaacgaaG12
set_option linter.unusedVariables false
set_option linter.unusedSimpArgs false
set_option maxRecDepth 20000
namespace Go.Ai
open Go Go.Ai.Try
/-- Where the unit of an instruction will be. -/
def destM (u : U) (x : It) : Id × Int × Int :=
  if x.kind = 0 then insM u x.at' x.wh else if (!decide (x.kind = 6) || !(decide (0 ≤ x.wh) && decide (x.wh ≤ 3))) = true then (zeroId, 0, 1) else
  if (oneM (idsM u x.at')).2 = 0 then
    if (oneM (idsM u x.to)).2 = 0 then
      if (goesM u (oneM (idsM u x.at')).1 (oneM (idsM u x.to)).1 x.wh).2.2 = 0 then goesM u (oneM (idsM u x.at')).1 (oneM (idsM u x.to)).1 x.wh else (zeroId, 0, (goesM u (oneM (idsM u x.at')).1 (oneM (idsM u x.to)).1 x.wh).2.2)
    else (zeroId, 0, (oneM (idsM u x.to)).2)
  else (zeroId, 0, (oneM (idsM u x.at')).2)
theorem destM_eq (u : U) (x : It) : destM u x =
  if x.kind = 0 then insM u x.at' x.wh else if (!decide (x.kind = 6) || !(decide (0 ≤ x.wh) && decide (x.wh ≤ 3))) = true then (zeroId, 0, 1) else
  if (oneM (idsM u x.at')).2 = 0 then
    if (oneM (idsM u x.to)).2 = 0 then
      if (goesM u (oneM (idsM u x.at')).1 (oneM (idsM u x.to)).1 x.wh).2.2 = 0 then goesM u (oneM (idsM u x.at')).1 (oneM (idsM u x.to)).1 x.wh else (zeroId, 0, (goesM u (oneM (idsM u x.at')).1 (oneM (idsM u x.to)).1 x.wh).2.2)
    else (zeroId, 0, (oneM (idsM u x.to)).2)
  else (zeroId, 0, (oneM (idsM u x.at')).2) := rfl
end Go.Ai
namespace Go.Ai.Try
open Go Go.Ai Go.Proofs
variable {w0 : World}
theorem spec16 (u : U) (x : It) (hb : (every u).length ≤ 1000) (hs : small (every u)) (H : AH) (Q : AV → AH → Prop) (h : Q (.tup [eId (destM u x).1, .int .i64 (destM u x).2.1, .int .i64 (destM u x).2.2]) H) :
    ACalls Try.prog w0 16 [eU u, eIt x] H Q := by
  refine enter16 (by simp) fun hwf hok R hR hR0 => ?_
  have fin : ∀ (i : Id) (e b : Int) env' H', destM u x = (i, e, b) → look 4 env' = .ptr (H.n + 1 + 1) 0 → look 5 env' = .int .i64 e → look 6 env' = .int .i64 b → H.Sub H' → H'.obj (H.n + 1 + 1) = some (.cells [.int .i64 i.act, .int .i64 i.item, .int .i64 i.n] 23) → R .ret env' H' := fun i e b env' H' h1 h2 h3 h4 h5 h6 => by
    rw [h1] at h
    exact hR _ _ _ (ares_ctt (ares1_cell (v := eId i) (cs := [.int .i64 i.act, .int .i64 i.item, .int .i64 i.n]) (e := 23) tt_23 h2 h6 (by decide) (by simp only [go_sem, List.mem_singleton, forall_eq, List.not_mem_nil, false_imp_iff, implies_true, Int.reduceToNat, Int.reduceLT, decide_true, decide_false, Nat.reduceEqDiff, ↓reduceIte, Nat.reduceAdd, Int.reduceLE, Int.reduceNeg, Nat.reduceLeDiff, Nat.reduceLT, Int.reduceEq, Nat.reduceEqDiff, List.map_nil, List.length_nil, List.map_cons, List.length_cons]) rfl) h3 h4) (.same h5 rfl h)
  unfold x16
  cases k0 : decide (x.kind = 0) with
  | true =>
    simp only [go_sem, List.mem_singleton, forall_eq, List.not_mem_nil, false_imp_iff, implies_true, Int.reduceToNat, Int.reduceLT, decide_true, decide_false, Nat.reduceEqDiff, ↓reduceIte, Nat.reduceAdd, Int.reduceLE, Int.reduceNeg, Nat.reduceLeDiff, Nat.reduceLT, Int.reduceEq, Nat.reduceEqDiff, List.map_nil, List.length_nil, List.map_cons, List.length_cons, k0]
    refine spec9 u x.at' x.wh hb hs _ _ ?_
    simp only [go_sem, List.mem_singleton, forall_eq, List.not_mem_nil, false_imp_iff, implies_true, Int.reduceToNat, Int.reduceLT, decide_true, decide_false, Nat.reduceEqDiff, ↓reduceIte, Nat.reduceAdd, Int.reduceLE, Int.reduceNeg, Nat.reduceLeDiff, Nat.reduceLT, Int.reduceEq, Nat.reduceEqDiff, List.map_nil, List.length_nil, List.map_cons, List.length_cons]
    refine fin (insM u x.at' x.wh).1 (insM u x.at' x.wh).2.1 (insM u x.at' x.wh).2.2 _ _ (by rw [destM, if_pos (by simpa using k0)]) (by simp only [go_sem, List.mem_singleton, forall_eq, List.not_mem_nil, false_imp_iff, implies_true, Int.reduceToNat, Int.reduceLT, decide_true, decide_false, Nat.reduceEqDiff, ↓reduceIte, Nat.reduceAdd, Int.reduceLE, Int.reduceNeg, Nat.reduceLeDiff, Nat.reduceLT, Int.reduceEq, Nat.reduceEqDiff, List.map_nil, List.length_nil, List.map_cons, List.length_cons]) (by simp only [go_sem, List.mem_singleton, forall_eq, List.not_mem_nil, false_imp_iff, implies_true, Int.reduceToNat, Int.reduceLT, decide_true, decide_false, Nat.reduceEqDiff, ↓reduceIte, Nat.reduceAdd, Int.reduceLE, Int.reduceNeg, Nat.reduceLeDiff, Nat.reduceLT, Int.reduceEq, Nat.reduceEqDiff, List.map_nil, List.length_nil, List.map_cons, List.length_cons]) (by simp only [go_sem, List.mem_singleton, forall_eq, List.not_mem_nil, false_imp_iff, implies_true, Int.reduceToNat, Int.reduceLT, decide_true, decide_false, Nat.reduceEqDiff, ↓reduceIte, Nat.reduceAdd, Int.reduceLE, Int.reduceNeg, Nat.reduceLeDiff, Nat.reduceLT, Int.reduceEq, Nat.reduceEqDiff, List.map_nil, List.length_nil, List.map_cons, List.length_cons]) (.push (.push (.push (.refl hwf) _) _) _) (by simp only [go_sem, List.mem_singleton, forall_eq, List.not_mem_nil, false_imp_iff, implies_true, Int.reduceToNat, Int.reduceLT, decide_true, decide_false, Nat.reduceEqDiff, ↓reduceIte, Nat.reduceAdd, Int.reduceLE, Int.reduceNeg, Nat.reduceLeDiff, Nat.reduceLT, Int.reduceEq, Nat.reduceEqDiff, List.map_nil, List.length_nil, List.map_cons, List.length_cons])
  | false =>
    have hd0 := destM_eq u x
    rw [if_neg (by simpa using k0)] at hd0
    cases k6 : decide (x.kind = 6) with
    | false =>
      simp only [go_sem, List.mem_singleton, forall_eq, List.not_mem_nil, false_imp_iff, implies_true, Int.reduceToNat, Int.reduceLT, decide_true, decide_false, Nat.reduceEqDiff, ↓reduceIte, Nat.reduceAdd, Int.reduceLE, Int.reduceNeg, Nat.reduceLeDiff, Nat.reduceLT, Int.reduceEq, Nat.reduceEqDiff, List.map_nil, List.length_nil, List.map_cons, List.length_cons, k0, k6, Bool.not_false]
      exact fin zeroId 0 1 _ _ (by rw [hd0, k6]; rfl) (by simp only [go_sem, List.mem_singleton, forall_eq, List.not_mem_nil, false_imp_iff, implies_true, Int.reduceToNat, Int.reduceLT, decide_true, decide_false, Nat.reduceEqDiff, ↓reduceIte, Nat.reduceAdd, Int.reduceLE, Int.reduceNeg, Nat.reduceLeDiff, Nat.reduceLT, Int.reduceEq, Nat.reduceEqDiff, List.map_nil, List.length_nil, List.map_cons, List.length_cons]) (by simp only [go_sem, List.mem_singleton, forall_eq, List.not_mem_nil, false_imp_iff, implies_true, Int.reduceToNat, Int.reduceLT, decide_true, decide_false, Nat.reduceEqDiff, ↓reduceIte, Nat.reduceAdd, Int.reduceLE, Int.reduceNeg, Nat.reduceLeDiff, Nat.reduceLT, Int.reduceEq, Nat.reduceEqDiff, List.map_nil, List.length_nil, List.map_cons, List.length_cons]) (by simp only [go_sem, List.mem_singleton, forall_eq, List.not_mem_nil, false_imp_iff, implies_true, Int.reduceToNat, Int.reduceLT, decide_true, decide_false, Nat.reduceEqDiff, ↓reduceIte, Nat.reduceAdd, Int.reduceLE, Int.reduceNeg, Nat.reduceLeDiff, Nat.reduceLT, Int.reduceEq, Nat.reduceEqDiff, List.map_nil, List.length_nil, List.map_cons, List.length_cons]) (.push (.push (.push (.refl hwf) _) _) _) (by simp only [go_sem, List.mem_singleton, forall_eq, List.not_mem_nil, false_imp_iff, implies_true, Int.reduceToNat, Int.reduceLT, decide_true, decide_false, Nat.reduceEqDiff, ↓reduceIte, Nat.reduceAdd, Int.reduceLE, Int.reduceNeg, Nat.reduceLeDiff, Nat.reduceLT, Int.reduceEq, Nat.reduceEqDiff, List.map_nil, List.length_nil, List.map_cons, List.length_cons])
    | true =>
      simp only [go_sem, List.mem_singleton, forall_eq, List.not_mem_nil, false_imp_iff, implies_true, Int.reduceToNat, Int.reduceLT, decide_true, decide_false, Nat.reduceEqDiff, ↓reduceIte, Nat.reduceAdd, Int.reduceLE, Int.reduceNeg, Nat.reduceLeDiff, Nat.reduceLT, Int.reduceEq, Nat.reduceEqDiff, List.map_nil, List.length_nil, List.map_cons, List.length_cons, k0, k6, Bool.not_true]
      refine spec20 x.wh _ _ ?_
      cases hw : (decide (0 ≤ x.wh) && decide (x.wh ≤ 3)) with
      | false =>
        simp only [go_sem, List.mem_singleton, forall_eq, List.not_mem_nil, false_imp_iff, implies_true, Int.reduceToNat, Int.reduceLT, decide_true, decide_false, Nat.reduceEqDiff, ↓reduceIte, Nat.reduceAdd, Int.reduceLE, Int.reduceNeg, Nat.reduceLeDiff, Nat.reduceLT, Int.reduceEq, Nat.reduceEqDiff, List.map_nil, List.length_nil, List.map_cons, List.length_cons, hw, Bool.not_false]
        exact fin zeroId 0 1 _ _ (by rw [hd0, k6, hw]; rfl) (by simp only [go_sem, List.mem_singleton, forall_eq, List.not_mem_nil, false_imp_iff, implies_true, Int.reduceToNat, Int.reduceLT, decide_true, decide_false, Nat.reduceEqDiff, ↓reduceIte, Nat.reduceAdd, Int.reduceLE, Int.reduceNeg, Nat.reduceLeDiff, Nat.reduceLT, Int.reduceEq, Nat.reduceEqDiff, List.map_nil, List.length_nil, List.map_cons, List.length_cons]) (by simp only [go_sem, List.mem_singleton, forall_eq, List.not_mem_nil, false_imp_iff, implies_true, Int.reduceToNat, Int.reduceLT, decide_true, decide_false, Nat.reduceEqDiff, ↓reduceIte, Nat.reduceAdd, Int.reduceLE, Int.reduceNeg, Nat.reduceLeDiff, Nat.reduceLT, Int.reduceEq, Nat.reduceEqDiff, List.map_nil, List.length_nil, List.map_cons, List.length_cons]) (by simp only [go_sem, List.mem_singleton, forall_eq, List.not_mem_nil, false_imp_iff, implies_true, Int.reduceToNat, Int.reduceLT, decide_true, decide_false, Nat.reduceEqDiff, ↓reduceIte, Nat.reduceAdd, Int.reduceLE, Int.reduceNeg, Nat.reduceLeDiff, Nat.reduceLT, Int.reduceEq, Nat.reduceEqDiff, List.map_nil, List.length_nil, List.map_cons, List.length_cons]) (.push (.push (.push (.refl hwf) _) _) _) (by simp only [go_sem, List.mem_singleton, forall_eq, List.not_mem_nil, false_imp_iff, implies_true, Int.reduceToNat, Int.reduceLT, decide_true, decide_false, Nat.reduceEqDiff, ↓reduceIte, Nat.reduceAdd, Int.reduceLE, Int.reduceNeg, Nat.reduceLeDiff, Nat.reduceLT, Int.reduceEq, Nat.reduceEqDiff, List.map_nil, List.length_nil, List.map_cons, List.length_cons])
      | true =>
        rw [k6, hw, if_neg (by simp)] at hd0
        have hw' : 0 ≤ x.wh ∧ x.wh ≤ 3 := by simpa using hw
        simp only [go_sem, List.mem_singleton, forall_eq, List.not_mem_nil, false_imp_iff, implies_true, Int.reduceToNat, Int.reduceLT, decide_true, decide_false, Nat.reduceEqDiff, ↓reduceIte, Nat.reduceAdd, Int.reduceLE, Int.reduceNeg, Nat.reduceLeDiff, Nat.reduceLT, Int.reduceEq, Nat.reduceEqDiff, List.map_nil, List.length_nil, List.map_cons, List.length_cons, hw, Bool.not_true]
        refine spec21 u x.at' hb _ _ ?_
        simp only [go_sem, List.mem_singleton, forall_eq, List.not_mem_nil, false_imp_iff, implies_true, Int.reduceToNat, Int.reduceLT, decide_true, decide_false, Nat.reduceEqDiff, ↓reduceIte, Nat.reduceAdd, Int.reduceLE, Int.reduceNeg, Nat.reduceLeDiff, Nat.reduceLT, Int.reduceEq, Nat.reduceEqDiff, List.map_nil, List.length_nil, List.map_cons, List.length_cons]
        by_cases he : (oneM (idsM u x.at')).2 = 0
        · rw [if_pos he] at hd0
          simp only [go_sem, List.mem_singleton, forall_eq, List.not_mem_nil, false_imp_iff, implies_true, Int.reduceToNat, Int.reduceLT, decide_true, decide_false, Nat.reduceEqDiff, ↓reduceIte, Nat.reduceAdd, Int.reduceLE, Int.reduceNeg, Nat.reduceLeDiff, Nat.reduceLT, Int.reduceEq, Nat.reduceEqDiff, List.map_nil, List.length_nil, List.map_cons, List.length_cons, he, Bool.not_true]
          refine spec21 u x.to hb _ _ ?_
          simp only [go_sem, List.mem_singleton, forall_eq, List.not_mem_nil, false_imp_iff, implies_true, Int.reduceToNat, Int.reduceLT, decide_true, decide_false, Nat.reduceEqDiff, ↓reduceIte, Nat.reduceAdd, Int.reduceLE, Int.reduceNeg, Nat.reduceLeDiff, Nat.reduceLT, Int.reduceEq, Nat.reduceEqDiff, List.map_nil, List.length_nil, List.map_cons, List.length_cons]
          by_cases hf : (oneM (idsM u x.to)).2 = 0
          · rw [if_pos hf] at hd0
            simp only [go_sem, List.mem_singleton, forall_eq, List.not_mem_nil, false_imp_iff, implies_true, Int.reduceToNat, Int.reduceLT, decide_true, decide_false, Nat.reduceEqDiff, ↓reduceIte, Nat.reduceAdd, Int.reduceLE, Int.reduceNeg, Nat.reduceLeDiff, Nat.reduceLT, Int.reduceEq, Nat.reduceEqDiff, List.map_nil, List.length_nil, List.map_cons, List.length_cons, hf, Bool.not_true]
            refine spec27 u _ _ x.wh hb hs hw' _ _ ?_
            simp only [go_sem, List.mem_singleton, forall_eq, List.not_mem_nil, false_imp_iff, implies_true, Int.reduceToNat, Int.reduceLT, decide_true, decide_false, Nat.reduceEqDiff, ↓reduceIte, Nat.reduceAdd, Int.reduceLE, Int.reduceNeg, Nat.reduceLeDiff, Nat.reduceLT, Int.reduceEq, Nat.reduceEqDiff, List.map_nil, List.length_nil, List.map_cons, List.length_cons]
            generalize goesM u (oneM (idsM u x.at')).1 (oneM (idsM u x.to)).1 x.wh = g at hd0
            by_cases hg : g.2.2 = 0
            · rw [if_pos hg] at hd0
              simp only [go_sem, List.mem_singleton, forall_eq, List.not_mem_nil, false_imp_iff, implies_true, Int.reduceToNat, Int.reduceLT, decide_true, decide_false, Nat.reduceEqDiff, ↓reduceIte, Nat.reduceAdd, Int.reduceLE, Int.reduceNeg, Nat.reduceLeDiff, Nat.reduceLT, Int.reduceEq, Nat.reduceEqDiff, List.map_nil, List.length_nil, List.map_cons, List.length_cons, hg, Bool.not_true, dr16_0]
              exact fin g.1 g.2.1 0 _ _ (by rw [hd0]; exact Prod.ext rfl (Prod.ext rfl hg)) (by simp only [go_sem, List.mem_singleton, forall_eq, List.not_mem_nil, false_imp_iff, implies_true, Int.reduceToNat, Int.reduceLT, decide_true, decide_false, Nat.reduceEqDiff, ↓reduceIte, Nat.reduceAdd, Int.reduceLE, Int.reduceNeg, Nat.reduceLeDiff, Nat.reduceLT, Int.reduceEq, Nat.reduceEqDiff, List.map_nil, List.length_nil, List.map_cons, List.length_cons]) (by simp only [go_sem, List.mem_singleton, forall_eq, List.not_mem_nil, false_imp_iff, implies_true, Int.reduceToNat, Int.reduceLT, decide_true, decide_false, Nat.reduceEqDiff, ↓reduceIte, Nat.reduceAdd, Int.reduceLE, Int.reduceNeg, Nat.reduceLeDiff, Nat.reduceLT, Int.reduceEq, Nat.reduceEqDiff, List.map_nil, List.length_nil, List.map_cons, List.length_cons]) (by simp only [go_sem, List.mem_singleton, forall_eq, List.not_mem_nil, false_imp_iff, implies_true, Int.reduceToNat, Int.reduceLT, decide_true, decide_false, Nat.reduceEqDiff, ↓reduceIte, Nat.reduceAdd, Int.reduceLE, Int.reduceNeg, Nat.reduceLeDiff, Nat.reduceLT, Int.reduceEq, Nat.reduceEqDiff, List.map_nil, List.length_nil, List.map_cons, List.length_cons]) (.push (.push (.push (.push (.push (.push (.refl hwf) _) _) _) _) _) _) (by simp only [go_sem, List.mem_singleton, forall_eq, List.not_mem_nil, false_imp_iff, implies_true, Int.reduceToNat, Int.reduceLT, decide_true, decide_false, Nat.reduceEqDiff, ↓reduceIte, Nat.reduceAdd, Int.reduceLE, Int.reduceNeg, Nat.reduceLeDiff, Nat.reduceLT, Int.reduceEq, Nat.reduceEqDiff, List.map_nil, List.length_nil, List.map_cons, List.length_cons])
            · rw [if_neg hg] at hd0
              simp only [go_sem, List.mem_singleton, forall_eq, List.not_mem_nil, false_imp_iff, implies_true, Int.reduceToNat, Int.reduceLT, decide_true, decide_false, Nat.reduceEqDiff, ↓reduceIte, Nat.reduceAdd, Int.reduceLE, Int.reduceNeg, Nat.reduceLeDiff, Nat.reduceLT, Int.reduceEq, Nat.reduceEqDiff, List.map_nil, List.length_nil, List.map_cons, List.length_cons, hg, Bool.not_false]
              exact fin zeroId 0 g.2.2 _ _ hd0 (by simp only [go_sem, List.mem_singleton, forall_eq, List.not_mem_nil, false_imp_iff, implies_true, Int.reduceToNat, Int.reduceLT, decide_true, decide_false, Nat.reduceEqDiff, ↓reduceIte, Nat.reduceAdd, Int.reduceLE, Int.reduceNeg, Nat.reduceLeDiff, Nat.reduceLT, Int.reduceEq, Nat.reduceEqDiff, List.map_nil, List.length_nil, List.map_cons, List.length_cons]) (by simp only [go_sem, List.mem_singleton, forall_eq, List.not_mem_nil, false_imp_iff, implies_true, Int.reduceToNat, Int.reduceLT, decide_true, decide_false, Nat.reduceEqDiff, ↓reduceIte, Nat.reduceAdd, Int.reduceLE, Int.reduceNeg, Nat.reduceLeDiff, Nat.reduceLT, Int.reduceEq, Nat.reduceEqDiff, List.map_nil, List.length_nil, List.map_cons, List.length_cons]) (by simp only [go_sem, List.mem_singleton, forall_eq, List.not_mem_nil, false_imp_iff, implies_true, Int.reduceToNat, Int.reduceLT, decide_true, decide_false, Nat.reduceEqDiff, ↓reduceIte, Nat.reduceAdd, Int.reduceLE, Int.reduceNeg, Nat.reduceLeDiff, Nat.reduceLT, Int.reduceEq, Nat.reduceEqDiff, List.map_nil, List.length_nil, List.map_cons, List.length_cons]) (.push (.push (.push (.push (.push (.push (.refl hwf) _) _) _) _) _) _) (by simp only [go_sem, List.mem_singleton, forall_eq, List.not_mem_nil, false_imp_iff, implies_true, Int.reduceToNat, Int.reduceLT, decide_true, decide_false, Nat.reduceEqDiff, ↓reduceIte, Nat.reduceAdd, Int.reduceLE, Int.reduceNeg, Nat.reduceLeDiff, Nat.reduceLT, Int.reduceEq, Nat.reduceEqDiff, List.map_nil, List.length_nil, List.map_cons, List.length_cons])
          · rw [if_neg hf] at hd0
            simp only [go_sem, List.mem_singleton, forall_eq, List.not_mem_nil, false_imp_iff, implies_true, Int.reduceToNat, Int.reduceLT, decide_true, decide_false, Nat.reduceEqDiff, ↓reduceIte, Nat.reduceAdd, Int.reduceLE, Int.reduceNeg, Nat.reduceLeDiff, Nat.reduceLT, Int.reduceEq, Nat.reduceEqDiff, List.map_nil, List.length_nil, List.map_cons, List.length_cons, hf, Bool.not_false]
            exact fin zeroId 0 (oneM (idsM u x.to)).2 _ _ hd0 (by simp only [go_sem, List.mem_singleton, forall_eq, List.not_mem_nil, false_imp_iff, implies_true, Int.reduceToNat, Int.reduceLT, decide_true, decide_false, Nat.reduceEqDiff, ↓reduceIte, Nat.reduceAdd, Int.reduceLE, Int.reduceNeg, Nat.reduceLeDiff, Nat.reduceLT, Int.reduceEq, Nat.reduceEqDiff, List.map_nil, List.length_nil, List.map_cons, List.length_cons]) (by simp only [go_sem, List.mem_singleton, forall_eq, List.not_mem_nil, false_imp_iff, implies_true, Int.reduceToNat, Int.reduceLT, decide_true, decide_false, Nat.reduceEqDiff, ↓reduceIte, Nat.reduceAdd, Int.reduceLE, Int.reduceNeg, Nat.reduceLeDiff, Nat.reduceLT, Int.reduceEq, Nat.reduceEqDiff, List.map_nil, List.length_nil, List.map_cons, List.length_cons]) (by simp only [go_sem, List.mem_singleton, forall_eq, List.not_mem_nil, false_imp_iff, implies_true, Int.reduceToNat, Int.reduceLT, decide_true, decide_false, Nat.reduceEqDiff, ↓reduceIte, Nat.reduceAdd, Int.reduceLE, Int.reduceNeg, Nat.reduceLeDiff, Nat.reduceLT, Int.reduceEq, Nat.reduceEqDiff, List.map_nil, List.length_nil, List.map_cons, List.length_cons]) (.push (.push (.push (.push (.push (.refl hwf) _) _) _) _) _) (by simp only [go_sem, List.mem_singleton, forall_eq, List.not_mem_nil, false_imp_iff, implies_true, Int.reduceToNat, Int.reduceLT, decide_true, decide_false, Nat.reduceEqDiff, ↓reduceIte, Nat.reduceAdd, Int.reduceLE, Int.reduceNeg, Nat.reduceLeDiff, Nat.reduceLT, Int.reduceEq, Nat.reduceEqDiff, List.map_nil, List.length_nil, List.map_cons, List.length_cons])
        · rw [if_neg he] at hd0
          simp only [go_sem, List.mem_singleton, forall_eq, List.not_mem_nil, false_imp_iff, implies_true, Int.reduceToNat, Int.reduceLT, decide_true, decide_false, Nat.reduceEqDiff, ↓reduceIte, Nat.reduceAdd, Int.reduceLE, Int.reduceNeg, Nat.reduceLeDiff, Nat.reduceLT, Int.reduceEq, Nat.reduceEqDiff, List.map_nil, List.length_nil, List.map_cons, List.length_cons, he, Bool.not_false]
          exact fin zeroId 0 (oneM (idsM u x.at')).2 _ _ hd0 (by simp only [go_sem, List.mem_singleton, forall_eq, List.not_mem_nil, false_imp_iff, implies_true, Int.reduceToNat, Int.reduceLT, decide_true, decide_false, Nat.reduceEqDiff, ↓reduceIte, Nat.reduceAdd, Int.reduceLE, Int.reduceNeg, Nat.reduceLeDiff, Nat.reduceLT, Int.reduceEq, Nat.reduceEqDiff, List.map_nil, List.length_nil, List.map_cons, List.length_cons]) (by simp only [go_sem, List.mem_singleton, forall_eq, List.not_mem_nil, false_imp_iff, implies_true, Int.reduceToNat, Int.reduceLT, decide_true, decide_false, Nat.reduceEqDiff, ↓reduceIte, Nat.reduceAdd, Int.reduceLE, Int.reduceNeg, Nat.reduceLeDiff, Nat.reduceLT, Int.reduceEq, Nat.reduceEqDiff, List.map_nil, List.length_nil, List.map_cons, List.length_cons]) (by simp only [go_sem, List.mem_singleton, forall_eq, List.not_mem_nil, false_imp_iff, implies_true, Int.reduceToNat, Int.reduceLT, decide_true, decide_false, Nat.reduceEqDiff, ↓reduceIte, Nat.reduceAdd, Int.reduceLE, Int.reduceNeg, Nat.reduceLeDiff, Nat.reduceLT, Int.reduceEq, Nat.reduceEqDiff, List.map_nil, List.length_nil, List.map_cons, List.length_cons]) (.push (.push (.push (.push (.refl hwf) _) _) _) _) (by simp only [go_sem, List.mem_singleton, forall_eq, List.not_mem_nil, false_imp_iff, implies_true, Int.reduceToNat, Int.reduceLT, decide_true, decide_false, Nat.reduceEqDiff, ↓reduceIte, Nat.reduceAdd, Int.reduceLE, Int.reduceNeg, Nat.reduceLeDiff, Nat.reduceLT, Int.reduceEq, Nat.reduceEqDiff, List.map_nil, List.length_nil, List.map_cons, List.length_cons])
end Go.Ai.Try

set_option linter.unusedVariables false
set_option linter.unusedSimpArgs false
set_option maxRecDepth 20000
namespace Go.Ai
open Go Go.Ai.Try
theorem parentM_two {u : U} {id : Id} (h : wayM id u ≠ []) : (parentM u id).2.2 = !decide (id = u.id) := by
  by_cases e : id = u.id
  · rw [parentM_self e.symm]; simp [e]
  · rw [parentM_ok (Ne.symm e) h]; simp [e]
theorem goes_law {u : U} {id t : Id} {w : Int} (hn : (idsOf (every u)).Nodup) (hid : wayM id u ≠ []) (ht : wayM t u ≠ []) (hw : 0 ≤ w ∧ w ≤ 3) :
    goesM u id t w = if (decide (id = u.id) || (decide (2 ≤ w) && decide (t = u.id)) || ((findM (findM u id).1 t).2 && !decide (t = id)) || (decide (t = id) && !decide (2 ≤ w))) = true then (zeroId, 0, 9)
      else if t = id then ((parentM u id).1, (parentM u id).2.1, 0)
      else if (decide ((leadM w u t).1 = (parentM u id).1) && decide ((parentM u id).2.1 < (leadM w u t).2.1)) = true then ((leadM w u t).1, (leadM w u t).2.1 - 1, 0) else ((leadM w u t).1, (leadM w u t).2.1, 0) := by
  have hb : besM w = decide (2 ≤ w) := by
    rcases (show w = 0 ∨ w = 1 ∨ w = 2 ∨ w = 3 by omega) with rfl | rfl | rfl | rfl <;> rfl
  have hp := parentM_two hid
  have hpt := parentM_two ht
  have hl : (leadM w u t).2.2 = if (decide (2 ≤ w) && decide (t = u.id)) = true then 9 else 0 := by
    rcases (show w = 0 ∨ w = 1 ∨ w = 2 ∨ w = 3 by omega) with rfl | rfl | rfl | rfl
    · simp [leadM]
    · simp [leadM]
    · simp only [leadM, hpt]; by_cases e : t = u.id <;> simp [e]
    · simp only [leadM, hpt]; by_cases e : t = u.id <;> simp [e]
  have hl2 : (decide (2 ≤ w) && decide (t = u.id)) = true → leadM w u t = (zeroId, 0, 9) := by
    intro e
    simp only [Bool.and_eq_true, decide_eq_true_eq] at e
    unfold leadM
    rw [if_neg (by omega), if_neg (by omega), if_neg (by rw [hpt, e.2]; simp)]
  by_cases e1 : t = id
  · subst e1
    by_cases e2 : t = u.id
    · have h9 : (parentM u t).2.2 = false := by rw [hp]; simp [e2]
      rw [goesM, h9]; simp [e2]
    · by_cases e3 : 2 ≤ w
      · simp [goesM, hp, e2, e3, hb, belowM]
      · simp [goesM, hp, e2, e3, hb, belowM]
  · have ha := anc_iff hn hid e1
    simp only [goesM, hp, hb, belowM, ha, e1, decide_false, Bool.not_false, Bool.true_and, Bool.false_and, Bool.or_false, Bool.and_true, if_false, Bool.not_not]
    by_cases e2 : id = u.id
    · simp [e2]
    · simp only [e2, decide_false, Bool.false_or]
      cases e3 : (decide (2 ≤ w) && decide (t = u.id)) with
      | true =>
        rw [hl2 e3]
        simp
      | false =>
        rw [e3, if_neg (by simp)] at hl
        simp only [Bool.false_or, hl, decide_true, Bool.true_and]
        split
        · rfl
        · split
          · rfl
          · exact Prod.ext rfl (Prod.ext rfl hl)
theorem dest_move {u : U} {x : It} (hn : (idsOf (every u)).Nodup) (k0 : ¬x.kind = 0) (k6 : x.kind = 6) (hw : 0 ≤ x.wh ∧ x.wh ≤ 3) (he : (oneM (idsM u x.at')).2 = 0) (hf : (oneM (idsM u x.to)).2 = 0) :
    destM u x = if (decide ((oneM (idsM u x.at')).1 = u.id) || (decide (2 ≤ x.wh) && decide ((oneM (idsM u x.to)).1 = u.id)) || ((findM (findM u (oneM (idsM u x.at')).1).1 (oneM (idsM u x.to)).1).2 && !decide ((oneM (idsM u x.to)).1 = (oneM (idsM u x.at')).1)) || (decide ((oneM (idsM u x.to)).1 = (oneM (idsM u x.at')).1) && !decide (2 ≤ x.wh))) = true then (zeroId, 0, 9)
      else if (oneM (idsM u x.to)).1 = (oneM (idsM u x.at')).1 then ((parentM u (oneM (idsM u x.at')).1).1, (parentM u (oneM (idsM u x.at')).1).2.1, 0)
      else if (decide ((insM u x.to x.wh).1 = (parentM u (oneM (idsM u x.at')).1).1) && decide ((parentM u (oneM (idsM u x.at')).1).2.1 < (insM u x.to x.wh).2.1)) = true then ((insM u x.to x.wh).1, (insM u x.to x.wh).2.1 - 1, 0) else ((insM u x.to x.wh).1, (insM u x.to x.wh).2.1, 0) := by
  have hid := oneM_way he
  have ht := oneM_way hf
  have hwb : (decide (0 ≤ x.wh) && decide (x.wh ≤ 3)) = true := by simp [hw.1, hw.2]
  rw [destM_eq, if_neg k0, if_neg (by simp [k6, hw.1, hw.2]), if_pos he, if_pos hf]
  have hi : insM u x.to x.wh = if (leadM x.wh u (oneM (idsM u x.to)).1).2.2 = 0 then leadM x.wh u (oneM (idsM u x.to)).1 else (zeroId, 0, (leadM x.wh u (oneM (idsM u x.to)).1).2.2) := by
    rw [insM, if_pos hwb, if_pos hf]
  generalize (oneM (idsM u x.at')).1 = id at *
  generalize (oneM (idsM u x.to)).1 = t at *
  have hg := goes_law (w := x.wh) hn hid ht hw
  generalize hG : (decide (id = u.id) || (decide (2 ≤ x.wh) && decide (t = u.id)) || ((findM (findM u id).1 t).2 && !decide (t = id)) || (decide (t = id) && !decide (2 ≤ x.wh))) = G at hg ⊢
  cases G with
  | true =>
    rw [if_pos (show true = true from rfl)] at hg ⊢
    rw [hg]; rfl
  | false =>
    rw [if_neg (show ¬(false = true) by simp)] at hg ⊢
    by_cases e1 : t = id
    · rw [if_pos e1] at hg ⊢
      rw [hg]; rfl
    · rw [if_neg e1] at hg ⊢
      have hl : (leadM x.wh u t).2.2 = 0 := by
        have hpt := parentM_two ht
        simp only [Bool.or_eq_false_iff, Bool.and_eq_false_iff, decide_eq_false_iff_not] at hG
        unfold leadM
        split
        · rfl
        · split
          · rfl
          · rw [if_pos]
            rw [hpt]
            have : ¬t = u.id := by
              rcases hG.1.1.2 with h | h
              · omega
              · exact h
            simp [this]
      rw [if_pos hl] at hi
      rw [hi, hg]
      split <;> rfl
end Go.Ai
