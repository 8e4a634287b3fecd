/- A part of the proof: no statement of the seat is proved in this text. -/
import Derived.Test.YtcphpaeebaacgaaG1
set_option linter.unusedVariables false
set_option linter.unusedSimpArgs false
namespace Go.Ai
open Go Go.Ai.Try
def sameName (x k : U) : Bool := decide (x.kind = k.kind) && decide (x.label = k.label)
mutual
def rightM : U → Bool
  | ⟨a, kind, c, d, e, kids⟩ => aloneM ⟨a, kind, c, d, e, kids⟩ && rightL kind [] kids
def rightL (kind : Int) (pre : List U) : List U → Bool
  | [] => true
  | k :: ks => nestsM kind k.kind && rightM k && !(pre.any fun x => sameName x k) && rightL kind (pre ++ [k]) ks
end
theorem rightM_eq (u : U) : rightM u = (aloneM u && rightL u.kind [] u.kids) := by cases u; simp only [rightM]
end Go.Ai
namespace Go.Ai.Try
open Go Go.Ai Go.Proofs
variable {w0 : World}
theorem spec49 (u : U) (hb : (every u).length ≤ 1000) (hs : small (every u)) (H : AH) (Q : AV → AH → Prop) (h : Q (.bool (rightM u)) H) : ACalls Try.prog w0 49 [eU u] H Q := by
  refine enter49 (by simp) fun hwf hok R hR hR0 => ?_
  have hsu := hs u (by rw [every_eq]; exact List.mem_cons_self ..)
  have hkl := len_everyL u.kids
  rw [every_eq] at hb hs
  simp only [List.length_cons] at hb
  have fin : ∀ b env' H', look 2 env' = .bool b → H.Sub H' → rightM u = b → R .ret env' H' := fun b env' H' h2 h3 h1 => hR _ _ _ rfl (.same h3 (by rw [h2]; rfl) (by rw [h2, ← h1]; exact h))
  unfold x49
  simp only [go_sem, List.mem_singleton, forall_eq, List.not_mem_nil, false_imp_iff, implies_true, Int.reduceToNat, Int.reduceLT, decide_true, decide_false, Nat.reduceEqDiff, ↓reduceIte, Nat.reduceAdd, Int.reduceLE, Int.reduceNeg, Nat.reduceLeDiff, Nat.reduceLT, Int.reduceEq, Nat.reduceEqDiff, List.map_nil, List.length_nil, List.map_cons, List.length_cons]
  refine spec64 u hsu _ _ ?_
  by_cases ha0 : aloneM u = true
  · have hr : rightM u = rightL u.kind [] u.kids := by rw [rightM_eq, ha0]; rfl
    simp only [go_sem, List.mem_singleton, forall_eq, List.not_mem_nil, false_imp_iff, implies_true, Int.reduceToNat, Int.reduceLT, decide_true, decide_false, Nat.reduceEqDiff, ↓reduceIte, Nat.reduceAdd, Int.reduceLE, Int.reduceNeg, Nat.reduceLeDiff, Nat.reduceLT, Int.reduceEq, Nat.reduceEqDiff, List.map_nil, List.length_nil, List.map_cons, List.length_cons, ha0, Bool.not_true]
    refine AX.iter (S := List U × List U) ttOk (fun a => [(1, .ptr H.n 0), (3, .int .i64 a.1.length)]) (fun a => H.push (.cells u.cs 27)) (fun a => a.2.length)
      (fun a => a.1 ++ a.2 = u.kids ∧ rightL u.kind a.1 a.2 = rightM u) ([], u.kids) ?_ rfl ⟨rfl, hr.symm⟩ ?_
    · simp only [go_sem, List.mem_singleton, forall_eq, List.not_mem_nil, false_imp_iff, implies_true, Int.reduceToNat, Int.reduceLT, decide_true, decide_false, Nat.reduceEqDiff, ↓reduceIte, Nat.reduceAdd, Int.reduceLE, Int.reduceNeg, Nat.reduceLeDiff, Nat.reduceLT, Int.reduceEq, Nat.reduceEqDiff, List.map_nil, List.length_nil, List.map_cons, List.length_cons]
    · rintro ⟨pre, post⟩ ⟨h2, h3⟩ hk hwf' K R' hK hQ
      simp only at h2 h3 hK ⊢
      unfold l49_1
      rcases post with _ | ⟨k, ks⟩
      · have hb := ge_of h2 eU
        simp only [go_sem, List.mem_singleton, forall_eq, List.not_mem_nil, false_imp_iff, implies_true, Int.reduceToNat, Int.reduceLT, decide_true, decide_false, Nat.reduceEqDiff, ↓reduceIte, Nat.reduceAdd, Int.reduceLE, Int.reduceNeg, Nat.reduceLeDiff, Nat.reduceLT, Int.reduceEq, Nat.reduceEqDiff, List.map_nil, List.length_nil, List.map_cons, List.length_cons, U.cs, hb]
        refine hQ _ _ _ ?_
        simp only [go_sem, List.mem_singleton, forall_eq, List.not_mem_nil, false_imp_iff, implies_true, Int.reduceToNat, Int.reduceLT, decide_true, decide_false, Nat.reduceEqDiff, ↓reduceIte, Nat.reduceAdd, Int.reduceLE, Int.reduceNeg, Nat.reduceLeDiff, Nat.reduceLT, Int.reduceEq, Nat.reduceEqDiff, List.map_nil, List.length_nil, List.map_cons, List.length_cons]
        exact fin true _ _ (by simp only [go_sem, List.mem_singleton, forall_eq, List.not_mem_nil, false_imp_iff, implies_true, Int.reduceToNat, Int.reduceLT, decide_true, decide_false, Nat.reduceEqDiff, ↓reduceIte, Nat.reduceAdd, Int.reduceLE, Int.reduceNeg, Nat.reduceLeDiff, Nat.reduceLT, Int.reduceEq, Nat.reduceEqDiff, List.map_nil, List.length_nil, List.map_cons, List.length_cons]) (.push (.refl hwf) _) (by rw [← h3]; rfl)
      · have hb'' := lt_of h2 eU
        have ha := at_of h2 eU
        have hl := len_of h2
        have hbk : (every k).length ≤ 1000 := by have := kid_le (mem_of h2); rw [every_eq u, List.length_cons] at this; omega
        have hsum : everyL u.kids = everyL pre ++ (every k ++ everyL ks) := by rw [← h2, everyL_append]; rfl
        have hsk : small (every k) := fun x hx => hs x (List.mem_cons_of_mem _ (by rw [hsum]; simp [hx]))
        have hw : IntKind.i64.wrap ((pre.length : Int) + 1) = pre.length + 1 := wrap_i64.2 (by omega)
        have stop : ∀ env' H', look 2 env' = .bool false → H.Sub H' → rightL u.kind pre (k :: ks) = false → R' .ret env' H' := fun env' H' h5 h6 h7 => by
          refine hQ _ _ _ ?_
          simp only [go_sem, List.mem_singleton, forall_eq, List.not_mem_nil, false_imp_iff, implies_true, Int.reduceToNat, Int.reduceLT, decide_true, decide_false, Nat.reduceEqDiff, ↓reduceIte, Nat.reduceAdd, Int.reduceLE, Int.reduceNeg, Nat.reduceLeDiff, Nat.reduceLT, Int.reduceEq, Nat.reduceEqDiff, List.map_nil, List.length_nil, List.map_cons, List.length_cons]
          exact fin false _ _ h5 h6 (by rw [← h3, h7])
        simp only [go_sem, List.mem_singleton, forall_eq, List.not_mem_nil, false_imp_iff, implies_true, Int.reduceToNat, Int.reduceLT, decide_true, decide_false, Nat.reduceEqDiff, ↓reduceIte, Nat.reduceAdd, Int.reduceLE, Int.reduceNeg, Nat.reduceLeDiff, Nat.reduceLT, Int.reduceEq, Nat.reduceEqDiff, List.map_nil, List.length_nil, List.map_cons, List.length_cons, U.cs, hb'', ha, hw, dr49_0]
        refine ⟨by omega, ?_⟩
        refine PCalls.of (r := .bool (nestsM u.kind k.kind)) (fun H' => spec65 _ _ _ _ ⟨rfl, rfl⟩) ?_
        by_cases hn : nestsM u.kind k.kind = true
        · simp only [go_sem, List.mem_singleton, forall_eq, List.not_mem_nil, false_imp_iff, implies_true, Int.reduceToNat, Int.reduceLT, decide_true, decide_false, Nat.reduceEqDiff, ↓reduceIte, Nat.reduceAdd, Int.reduceLE, Int.reduceNeg, Nat.reduceLeDiff, Nat.reduceLT, Int.reduceEq, Nat.reduceEqDiff, List.map_nil, List.length_nil, List.map_cons, List.length_cons, hn, Bool.not_true, ha]
          refine ⟨by omega, ?_⟩
          refine PCalls.of (r := .bool (rightM k)) (fun H' => spec49 k hbk hsk _ _ ⟨rfl, rfl⟩) ?_
          by_cases hrk : rightM k = true
          · have hstep : rightL u.kind pre (k :: ks) = (!(pre.any fun x => sameName x k) && rightL u.kind (pre ++ [k]) ks) := by simp only [rightL, hn, hrk]; rfl
            simp only [go_sem, List.mem_singleton, forall_eq, List.not_mem_nil, false_imp_iff, implies_true, Int.reduceToNat, Int.reduceLT, decide_true, decide_false, Nat.reduceEqDiff, ↓reduceIte, Nat.reduceAdd, Int.reduceLE, Int.reduceNeg, Nat.reduceLeDiff, Nat.reduceLT, Int.reduceEq, Nat.reduceEqDiff, List.map_nil, List.length_nil, List.map_cons, List.length_cons, hrk, Bool.not_true]
            refine AX.iter (S := List U × List U) ttOk (fun a => [(1, .ptr H.n 0), (3, .int .i64 pre.length), (4, .int .i64 a.1.length)]) (fun a => H.push (.cells u.cs 27)) (fun a => a.2.length)
              (fun a => a.1 ++ a.2 = pre ∧ (pre.any fun x => sameName x k) = (a.2.any fun x => sameName x k)) ([], pre) ?_ rfl ⟨rfl, rfl⟩ ?_
            · simp only [go_sem, List.mem_singleton, forall_eq, List.not_mem_nil, false_imp_iff, implies_true, Int.reduceToNat, Int.reduceLT, decide_true, decide_false, Nat.reduceEqDiff, ↓reduceIte, Nat.reduceAdd, Int.reduceLE, Int.reduceNeg, Nat.reduceLeDiff, Nat.reduceLT, Int.reduceEq, Nat.reduceEqDiff, List.map_nil, List.length_nil, List.map_cons, List.length_cons]
            · rintro ⟨p1, p2⟩ ⟨g2, g3⟩ hk2 hwf2 K2 R2 hK2 hQ2
              simp only at g2 g3 hK2 ⊢
              unfold l49_0
              rcases p2 with _ | ⟨y, p2⟩
              · have e1 : decide ((p1.length : Int) < (pre.length : Int)) = false := by rw [← g2]; simp
                simp only [go_sem, List.mem_singleton, forall_eq, List.not_mem_nil, false_imp_iff, implies_true, Int.reduceToNat, Int.reduceLT, decide_true, decide_false, Nat.reduceEqDiff, ↓reduceIte, Nat.reduceAdd, Int.reduceLE, Int.reduceNeg, Nat.reduceLeDiff, Nat.reduceLT, Int.reduceEq, Nat.reduceEqDiff, List.map_nil, List.length_nil, List.map_cons, List.length_cons, e1]
                refine hQ2 _ _ _ ?_
                simp only [go_sem, List.mem_singleton, forall_eq, List.not_mem_nil, false_imp_iff, implies_true, Int.reduceToNat, Int.reduceLT, decide_true, decide_false, Nat.reduceEqDiff, ↓reduceIte, Nat.reduceAdd, Int.reduceLE, Int.reduceNeg, Nat.reduceLeDiff, Nat.reduceLT, Int.reduceEq, Nat.reduceEqDiff, List.map_nil, List.length_nil, List.map_cons, List.length_cons, hw]
                refine hK _ _ (pre ++ [k], ks) (by simp) ⟨snoc_of h2, ?_⟩ (.refl hwf') (Nat.le_refl _) (Nat.le_refl _) ?_
                · rw [← h3, hstep, g3]; rfl
                · simp only [go_sem, List.mem_singleton, forall_eq, List.not_mem_nil, false_imp_iff, implies_true, Int.reduceToNat, Int.reduceLT, decide_true, decide_false, Nat.reduceEqDiff, ↓reduceIte, Nat.reduceAdd, Int.reduceLE, Int.reduceNeg, Nat.reduceLeDiff, Nat.reduceLT, Int.reduceEq, Nat.reduceEqDiff, List.map_nil, List.length_nil, List.map_cons, List.length_cons, len_snoc]
                  simp
              · have e1 : decide ((p1.length : Int) < (pre.length : Int)) = true := by rw [← g2]; simp; omega
                have hl2 : p1.length < pre.length := by rw [← g2]; simp
                have hkids : p1 ++ y :: (p2 ++ k :: ks) = u.kids := by rw [← h2, ← g2]; simp
                have ha2 := at_of hkids eU
                have hw2 : IntKind.i64.wrap ((p1.length : Int) + 1) = p1.length + 1 := wrap_i64.2 (by omega)
                have hsn : ((y :: p2).any fun x => sameName x k) = (sameName y k || p2.any fun x => sameName x k) := rfl
                have go : ∀ env' H', look 1 env' = .ptr H.n 0 → look 3 env' = .int .i64 pre.length → look 4 env' = .int .i64 (p1.length + 1) → H' = H.push (.cells u.cs 27) → sameName y k = false → K2 env' H' := fun env' H' q1 q2 q3 q4 q5 => by
                  subst q4
                  refine hK2 _ _ (p1 ++ [y], p2) (by simp) ⟨snoc_of g2, by rw [g3, hsn, q5]; rfl⟩ (.refl hwf') (Nat.le_refl _) (Nat.le_refl _) ?_
                  simp only [go_sem, List.mem_singleton, forall_eq, List.not_mem_nil, false_imp_iff, implies_true, Int.reduceToNat, Int.reduceLT, decide_true, decide_false, Nat.reduceEqDiff, ↓reduceIte, Nat.reduceAdd, Int.reduceLE, Int.reduceNeg, Nat.reduceLeDiff, Nat.reduceLT, Int.reduceEq, Nat.reduceEqDiff, List.map_nil, List.length_nil, List.map_cons, List.length_cons, q1, q2, q3, len_snoc]
                  simp
                simp only [go_sem, List.mem_singleton, forall_eq, List.not_mem_nil, false_imp_iff, implies_true, Int.reduceToNat, Int.reduceLT, decide_true, decide_false, Nat.reduceEqDiff, ↓reduceIte, Nat.reduceAdd, Int.reduceLE, Int.reduceNeg, Nat.reduceLeDiff, Nat.reduceLT, Int.reduceEq, Nat.reduceEqDiff, List.map_nil, List.length_nil, List.map_cons, List.length_cons, e1, dr49_1, U.cs, ha, ha2]
                refine ⟨by omega, by omega, ?_⟩
                by_cases c1 : y.kind = k.kind
                · by_cases c2 : y.label = k.label
                  · simp only [go_sem, List.mem_singleton, forall_eq, List.not_mem_nil, false_imp_iff, implies_true, Int.reduceToNat, Int.reduceLT, decide_true, decide_false, Nat.reduceEqDiff, ↓reduceIte, Nat.reduceAdd, Int.reduceLE, Int.reduceNeg, Nat.reduceLeDiff, Nat.reduceLT, Int.reduceEq, Nat.reduceEqDiff, List.map_nil, List.length_nil, List.map_cons, List.length_cons, c1, c2, ha, ha2]
                    refine ⟨by omega, by omega, ?_⟩
                    refine hQ2 _ _ _ ?_
                    simp only [go_sem, List.mem_singleton, forall_eq, List.not_mem_nil, false_imp_iff, implies_true, Int.reduceToNat, Int.reduceLT, decide_true, decide_false, Nat.reduceEqDiff, ↓reduceIte, Nat.reduceAdd, Int.reduceLE, Int.reduceNeg, Nat.reduceLeDiff, Nat.reduceLT, Int.reduceEq, Nat.reduceEqDiff, List.map_nil, List.length_nil, List.map_cons, List.length_cons]
                    refine stop _ _ (by simp only [go_sem, List.mem_singleton, forall_eq, List.not_mem_nil, false_imp_iff, implies_true, Int.reduceToNat, Int.reduceLT, decide_true, decide_false, Nat.reduceEqDiff, ↓reduceIte, Nat.reduceAdd, Int.reduceLE, Int.reduceNeg, Nat.reduceLeDiff, Nat.reduceLT, Int.reduceEq, Nat.reduceEqDiff, List.map_nil, List.length_nil, List.map_cons, List.length_cons]) (.push (.refl hwf) _) ?_
                    rw [hstep, g3, hsn]; simp [sameName, c1, c2]
                  · simp only [go_sem, List.mem_singleton, forall_eq, List.not_mem_nil, false_imp_iff, implies_true, Int.reduceToNat, Int.reduceLT, decide_true, decide_false, Nat.reduceEqDiff, ↓reduceIte, Nat.reduceAdd, Int.reduceLE, Int.reduceNeg, Nat.reduceLeDiff, Nat.reduceLT, Int.reduceEq, Nat.reduceEqDiff, List.map_nil, List.length_nil, List.map_cons, List.length_cons, c1, c2, ha, ha2, hw2]
                    refine ⟨by omega, by omega, ?_⟩
                    exact go _ _ (by simp only [go_sem, List.mem_singleton, forall_eq, List.not_mem_nil, false_imp_iff, implies_true, Int.reduceToNat, Int.reduceLT, decide_true, decide_false, Nat.reduceEqDiff, ↓reduceIte, Nat.reduceAdd, Int.reduceLE, Int.reduceNeg, Nat.reduceLeDiff, Nat.reduceLT, Int.reduceEq, Nat.reduceEqDiff, List.map_nil, List.length_nil, List.map_cons, List.length_cons]) (by simp only [go_sem, List.mem_singleton, forall_eq, List.not_mem_nil, false_imp_iff, implies_true, Int.reduceToNat, Int.reduceLT, decide_true, decide_false, Nat.reduceEqDiff, ↓reduceIte, Nat.reduceAdd, Int.reduceLE, Int.reduceNeg, Nat.reduceLeDiff, Nat.reduceLT, Int.reduceEq, Nat.reduceEqDiff, List.map_nil, List.length_nil, List.map_cons, List.length_cons]) (by simp only [go_sem, List.mem_singleton, forall_eq, List.not_mem_nil, false_imp_iff, implies_true, Int.reduceToNat, Int.reduceLT, decide_true, decide_false, Nat.reduceEqDiff, ↓reduceIte, Nat.reduceAdd, Int.reduceLE, Int.reduceNeg, Nat.reduceLeDiff, Nat.reduceLT, Int.reduceEq, Nat.reduceEqDiff, List.map_nil, List.length_nil, List.map_cons, List.length_cons]) (by simp only [U.cs]) (by simp [sameName, c2])
                · simp only [go_sem, List.mem_singleton, forall_eq, List.not_mem_nil, false_imp_iff, implies_true, Int.reduceToNat, Int.reduceLT, decide_true, decide_false, Nat.reduceEqDiff, ↓reduceIte, Nat.reduceAdd, Int.reduceLE, Int.reduceNeg, Nat.reduceLeDiff, Nat.reduceLT, Int.reduceEq, Nat.reduceEqDiff, List.map_nil, List.length_nil, List.map_cons, List.length_cons, c1, ha, ha2, hw2]
                  exact go _ _ (by simp only [go_sem, List.mem_singleton, forall_eq, List.not_mem_nil, false_imp_iff, implies_true, Int.reduceToNat, Int.reduceLT, decide_true, decide_false, Nat.reduceEqDiff, ↓reduceIte, Nat.reduceAdd, Int.reduceLE, Int.reduceNeg, Nat.reduceLeDiff, Nat.reduceLT, Int.reduceEq, Nat.reduceEqDiff, List.map_nil, List.length_nil, List.map_cons, List.length_cons]) (by simp only [go_sem, List.mem_singleton, forall_eq, List.not_mem_nil, false_imp_iff, implies_true, Int.reduceToNat, Int.reduceLT, decide_true, decide_false, Nat.reduceEqDiff, ↓reduceIte, Nat.reduceAdd, Int.reduceLE, Int.reduceNeg, Nat.reduceLeDiff, Nat.reduceLT, Int.reduceEq, Nat.reduceEqDiff, List.map_nil, List.length_nil, List.map_cons, List.length_cons]) (by simp only [go_sem, List.mem_singleton, forall_eq, List.not_mem_nil, false_imp_iff, implies_true, Int.reduceToNat, Int.reduceLT, decide_true, decide_false, Nat.reduceEqDiff, ↓reduceIte, Nat.reduceAdd, Int.reduceLE, Int.reduceNeg, Nat.reduceLeDiff, Nat.reduceLT, Int.reduceEq, Nat.reduceEqDiff, List.map_nil, List.length_nil, List.map_cons, List.length_cons]) (by simp only [U.cs]) (by simp [sameName, c1])
          · have hrk' : rightM k = false := by simpa using hrk
            simp only [go_sem, List.mem_singleton, forall_eq, List.not_mem_nil, false_imp_iff, implies_true, Int.reduceToNat, Int.reduceLT, decide_true, decide_false, Nat.reduceEqDiff, ↓reduceIte, Nat.reduceAdd, Int.reduceLE, Int.reduceNeg, Nat.reduceLeDiff, Nat.reduceLT, Int.reduceEq, Nat.reduceEqDiff, List.map_nil, List.length_nil, List.map_cons, List.length_cons, hrk', Bool.not_false]
            refine stop _ _ (by simp only [go_sem, List.mem_singleton, forall_eq, List.not_mem_nil, false_imp_iff, implies_true, Int.reduceToNat, Int.reduceLT, decide_true, decide_false, Nat.reduceEqDiff, ↓reduceIte, Nat.reduceAdd, Int.reduceLE, Int.reduceNeg, Nat.reduceLeDiff, Nat.reduceLT, Int.reduceEq, Nat.reduceEqDiff, List.map_nil, List.length_nil, List.map_cons, List.length_cons]) (.push (.refl hwf) _) (by simp only [rightL, hrk']; simp)
        · have hn' : nestsM u.kind k.kind = false := by simpa using hn
          simp only [go_sem, List.mem_singleton, forall_eq, List.not_mem_nil, false_imp_iff, implies_true, Int.reduceToNat, Int.reduceLT, decide_true, decide_false, Nat.reduceEqDiff, ↓reduceIte, Nat.reduceAdd, Int.reduceLE, Int.reduceNeg, Nat.reduceLeDiff, Nat.reduceLT, Int.reduceEq, Nat.reduceEqDiff, List.map_nil, List.length_nil, List.map_cons, List.length_cons, hn', Bool.not_false]
          refine stop _ _ (by simp only [go_sem, List.mem_singleton, forall_eq, List.not_mem_nil, false_imp_iff, implies_true, Int.reduceToNat, Int.reduceLT, decide_true, decide_false, Nat.reduceEqDiff, ↓reduceIte, Nat.reduceAdd, Int.reduceLE, Int.reduceNeg, Nat.reduceLeDiff, Nat.reduceLT, Int.reduceEq, Nat.reduceEqDiff, List.map_nil, List.length_nil, List.map_cons, List.length_cons]) (.push (.refl hwf) _) (by simp only [rightL, hn']; simp)
  · have ha0' : aloneM u = false := by simpa using ha0
    simp only [go_sem, List.mem_singleton, forall_eq, List.not_mem_nil, false_imp_iff, implies_true, Int.reduceToNat, Int.reduceLT, decide_true, decide_false, Nat.reduceEqDiff, ↓reduceIte, Nat.reduceAdd, Int.reduceLE, Int.reduceNeg, Nat.reduceLeDiff, Nat.reduceLT, Int.reduceEq, Nat.reduceEqDiff, List.map_nil, List.length_nil, List.map_cons, List.length_cons, ha0', Bool.not_false]
    exact fin false _ _ (by simp only [go_sem, List.mem_singleton, forall_eq, List.not_mem_nil, false_imp_iff, implies_true, Int.reduceToNat, Int.reduceLT, decide_true, decide_false, Nat.reduceEqDiff, ↓reduceIte, Nat.reduceAdd, Int.reduceLE, Int.reduceNeg, Nat.reduceLeDiff, Nat.reduceLT, Int.reduceEq, Nat.reduceEqDiff, List.map_nil, List.length_nil, List.map_cons, List.length_cons]) (.push (.refl hwf) _) (by rw [rightM_eq, ha0']; rfl)
termination_by SizeOf.sizeOf u
decreasing_by exact kid_lt (mem_of h2)
end Go.Ai.Try

set_option linter.unusedVariables false
set_option linter.unusedSimpArgs false
namespace Go.Ai.Try
open Go Go.Ai Go.Proofs
variable {w0 : World}
theorem spec50 (u : U) (hb : (every u).length ≤ 1000) (H : AH) (Q : AV → AH → Prop) (h : ∀ d : Int, 0 ≤ d → d ≤ (every u).length → Q (.int .i64 d) H) : ACalls Try.prog w0 50 [eU u] H Q := by
  refine enter50 (by simp) fun hwf hok R hR hR0 => ?_
  have hkl := len_everyL u.kids
  have hu1 : (every u).length = (everyL u.kids).length + 1 := by rw [every_eq]; simp
  unfold x50
  simp only [go_sem, List.mem_singleton, forall_eq, List.not_mem_nil, false_imp_iff, implies_true, Int.reduceToNat, Int.reduceLT, decide_true, decide_false, Nat.reduceEqDiff, ↓reduceIte, Nat.reduceAdd, Int.reduceLE, Int.reduceNeg, Nat.reduceLeDiff, Nat.reduceLT, Int.reduceEq, Nat.reduceEqDiff, List.map_nil, List.length_nil, List.map_cons, List.length_cons]
  refine AX.iter (S := List U × List U × Int) ttOk (fun a => [(1, .ptr H.n 0), (3, .int .i64 a.2.2), (4, .int .i64 a.1.length)]) (fun a => H.push (.cells u.cs 27)) (fun a => a.2.1.length)
    (fun a => a.1 ++ a.2.1 = u.kids ∧ 0 ≤ a.2.2 ∧ a.2.2 ≤ (every u).length) ([], u.kids, 0) ?_ rfl ⟨rfl, by simp, by simp⟩ ?_
  · simp only [go_sem, List.mem_singleton, forall_eq, List.not_mem_nil, false_imp_iff, implies_true, Int.reduceToNat, Int.reduceLT, decide_true, decide_false, Nat.reduceEqDiff, ↓reduceIte, Nat.reduceAdd, Int.reduceLE, Int.reduceNeg, Nat.reduceLeDiff, Nat.reduceLT, Int.reduceEq, Nat.reduceEqDiff, List.map_nil, List.length_nil, List.map_cons, List.length_cons]
  · rintro ⟨pre, post, d⟩ ⟨h2, h3, h4⟩ hk hwf' K R' hK hQ
    simp only at h2 h3 h4 hK ⊢
    unfold l50_0
    rcases post with _ | ⟨k, ks⟩
    · have hb := ge_of h2 eU
      simp only [go_sem, List.mem_singleton, forall_eq, List.not_mem_nil, false_imp_iff, implies_true, Int.reduceToNat, Int.reduceLT, decide_true, decide_false, Nat.reduceEqDiff, ↓reduceIte, Nat.reduceAdd, Int.reduceLE, Int.reduceNeg, Nat.reduceLeDiff, Nat.reduceLT, Int.reduceEq, Nat.reduceEqDiff, List.map_nil, List.length_nil, List.map_cons, List.length_cons, U.cs, hb]
      refine hQ _ _ _ ?_
      simp only [go_sem, List.mem_singleton, forall_eq, List.not_mem_nil, false_imp_iff, implies_true, Int.reduceToNat, Int.reduceLT, decide_true, decide_false, Nat.reduceEqDiff, ↓reduceIte, Nat.reduceAdd, Int.reduceLE, Int.reduceNeg, Nat.reduceLeDiff, Nat.reduceLT, Int.reduceEq, Nat.reduceEqDiff, List.map_nil, List.length_nil, List.map_cons, List.length_cons]
      exact hR _ _ _ rfl (.same (.push (.refl hwf) _) rfl (h d h3 h4))
    · have hb'' := lt_of h2 eU
      have ha := at_of h2 eU
      have hl := len_of h2
      have hsum : everyL u.kids = everyL pre ++ (every k ++ everyL ks) := by rw [← h2, everyL_append]; rfl
      have hle : (every k).length + 1 ≤ (every u).length := by rw [hu1, hsum, List.length_append, List.length_append]; omega
      have hw : IntKind.i64.wrap ((pre.length : Int) + 1) = pre.length + 1 := wrap_i64.2 (by omega)
      simp only [go_sem, List.mem_singleton, forall_eq, List.not_mem_nil, false_imp_iff, implies_true, Int.reduceToNat, Int.reduceLT, decide_true, decide_false, Nat.reduceEqDiff, ↓reduceIte, Nat.reduceAdd, Int.reduceLE, Int.reduceNeg, Nat.reduceLeDiff, Nat.reduceLT, Int.reduceEq, Nat.reduceEqDiff, List.map_nil, List.length_nil, List.map_cons, List.length_cons, U.cs, hb'', ha, hw]
      refine ⟨by omega, ?_⟩
      refine spec50 k (by omega) _ _ fun dk q1 q2 => ?_
      simp only [go_sem, List.mem_singleton, forall_eq, List.not_mem_nil, false_imp_iff, implies_true, Int.reduceToNat, Int.reduceLT, decide_true, decide_false, Nat.reduceEqDiff, ↓reduceIte, Nat.reduceAdd, Int.reduceLE, Int.reduceNeg, Nat.reduceLeDiff, Nat.reduceLT, Int.reduceEq, Nat.reduceEqDiff, List.map_nil, List.length_nil, List.map_cons, List.length_cons, hw]
      rw [wrap_i64.2 (by omega)]
      refine hK _ _ (pre ++ [k], ks, if d < 1 + dk then 1 + dk else d) (by simp) ⟨snoc_of h2, ?_, ?_⟩ (.refl hwf') (Nat.le_refl _) (Nat.le_refl _) ?_
      · simp only; split <;> omega
      · simp only; split <;> omega
      · simp only [go_sem, List.mem_singleton, forall_eq, List.not_mem_nil, false_imp_iff, implies_true, Int.reduceToNat, Int.reduceLT, decide_true, decide_false, Nat.reduceEqDiff, ↓reduceIte, Nat.reduceAdd, Int.reduceLE, Int.reduceNeg, Nat.reduceLeDiff, Nat.reduceLT, Int.reduceEq, Nat.reduceEqDiff, List.map_nil, List.length_nil, List.map_cons, List.length_cons, len_snoc]
        simp
termination_by SizeOf.sizeOf u
decreasing_by exact kid_lt (mem_of h2)
theorem spec51 (u : U) (hb : (every u).length ≤ 1000) (H : AH) (Q : AV → AH → Prop) (h : ∀ d : Int, 0 ≤ d → d ≤ (every u).length → Q (.int .i64 d) H) : ACalls Try.prog w0 51 [eU u] H Q := by
  refine enter51 (by simp) fun hwf hok R hR hR0 => ?_
  have hkl := len_everyL u.kids
  have hu1 : (every u).length = (everyL u.kids).length + 1 := by rw [every_eq]; simp
  unfold x51
  simp only [go_sem, List.mem_singleton, forall_eq, List.not_mem_nil, false_imp_iff, implies_true, Int.reduceToNat, Int.reduceLT, decide_true, decide_false, Nat.reduceEqDiff, ↓reduceIte, Nat.reduceAdd, Int.reduceLE, Int.reduceNeg, Nat.reduceLeDiff, Nat.reduceLT, Int.reduceEq, Nat.reduceEqDiff, List.map_nil, List.length_nil, List.map_cons, List.length_cons]
  refine AX.iter (S := List U × List U × Int) ttOk (fun a => [(1, .ptr H.n 0), (3, .int .i64 a.2.2), (4, .int .i64 a.1.length)]) (fun a => H.push (.cells u.cs 27)) (fun a => a.2.1.length)
    (fun a => a.1 ++ a.2.1 = u.kids ∧ 0 ≤ a.2.2 ∧ a.2.2 ≤ (everyL a.1).length + 1) ([], u.kids, 1) ?_ rfl ⟨rfl, by simp, by simp only; omega⟩ ?_
  · simp only [go_sem, List.mem_singleton, forall_eq, List.not_mem_nil, false_imp_iff, implies_true, Int.reduceToNat, Int.reduceLT, decide_true, decide_false, Nat.reduceEqDiff, ↓reduceIte, Nat.reduceAdd, Int.reduceLE, Int.reduceNeg, Nat.reduceLeDiff, Nat.reduceLT, Int.reduceEq, Nat.reduceEqDiff, List.map_nil, List.length_nil, List.map_cons, List.length_cons]
  · rintro ⟨pre, post, d⟩ ⟨h2, h3, h4⟩ hk hwf' K R' hK hQ
    simp only at h2 h3 h4 hK ⊢
    unfold l51_0
    rcases post with _ | ⟨k, ks⟩
    · have hb := ge_of h2 eU
      simp only [go_sem, List.mem_singleton, forall_eq, List.not_mem_nil, false_imp_iff, implies_true, Int.reduceToNat, Int.reduceLT, decide_true, decide_false, Nat.reduceEqDiff, ↓reduceIte, Nat.reduceAdd, Int.reduceLE, Int.reduceNeg, Nat.reduceLeDiff, Nat.reduceLT, Int.reduceEq, Nat.reduceEqDiff, List.map_nil, List.length_nil, List.map_cons, List.length_cons, U.cs, hb]
      refine hQ _ _ _ ?_
      simp only [go_sem, List.mem_singleton, forall_eq, List.not_mem_nil, false_imp_iff, implies_true, Int.reduceToNat, Int.reduceLT, decide_true, decide_false, Nat.reduceEqDiff, ↓reduceIte, Nat.reduceAdd, Int.reduceLE, Int.reduceNeg, Nat.reduceLeDiff, Nat.reduceLT, Int.reduceEq, Nat.reduceEqDiff, List.map_nil, List.length_nil, List.map_cons, List.length_cons]
      rw [List.append_nil] at h2
      exact hR _ _ _ rfl (.same (.push (.refl hwf) _) rfl (h d h3 (by rw [hu1, ← h2]; omega)))
    · have hb'' := lt_of h2 eU
      have ha := at_of h2 eU
      have hl := len_of h2
      have hsum : everyL u.kids = everyL pre ++ (every k ++ everyL ks) := by rw [← h2, everyL_append]; rfl
      have hle : (everyL pre).length + (every k).length + 1 ≤ (every u).length := by rw [hu1, hsum, List.length_append, List.length_append]; omega
      have hw : IntKind.i64.wrap ((pre.length : Int) + 1) = pre.length + 1 := wrap_i64.2 (by omega)
      simp only [go_sem, List.mem_singleton, forall_eq, List.not_mem_nil, false_imp_iff, implies_true, Int.reduceToNat, Int.reduceLT, decide_true, decide_false, Nat.reduceEqDiff, ↓reduceIte, Nat.reduceAdd, Int.reduceLE, Int.reduceNeg, Nat.reduceLeDiff, Nat.reduceLT, Int.reduceEq, Nat.reduceEqDiff, List.map_nil, List.length_nil, List.map_cons, List.length_cons, U.cs, hb'', ha, hw]
      refine ⟨by omega, ?_⟩
      refine spec51 k (by omega) _ _ fun dk q1 q2 => ?_
      simp only [go_sem, List.mem_singleton, forall_eq, List.not_mem_nil, false_imp_iff, implies_true, Int.reduceToNat, Int.reduceLT, decide_true, decide_false, Nat.reduceEqDiff, ↓reduceIte, Nat.reduceAdd, Int.reduceLE, Int.reduceNeg, Nat.reduceLeDiff, Nat.reduceLT, Int.reduceEq, Nat.reduceEqDiff, List.map_nil, List.length_nil, List.map_cons, List.length_cons, hw]
      rw [wrap_i64.2 (by omega)]
      refine hK _ _ (pre ++ [k], ks, d + dk) (by simp) ⟨snoc_of h2, by simp only; omega, by simp only; rw [everyL_snoc, List.length_append]; omega⟩ (.refl hwf') (Nat.le_refl _) (Nat.le_refl _) ?_
      simp only [go_sem, List.mem_singleton, forall_eq, List.not_mem_nil, false_imp_iff, implies_true, Int.reduceToNat, Int.reduceLT, decide_true, decide_false, Nat.reduceEqDiff, ↓reduceIte, Nat.reduceAdd, Int.reduceLE, Int.reduceNeg, Nat.reduceLeDiff, Nat.reduceLT, Int.reduceEq, Nat.reduceEqDiff, List.map_nil, List.length_nil, List.map_cons, List.length_cons, len_snoc]
      simp
termination_by SizeOf.sizeOf u
decreasing_by exact kid_lt (mem_of h2)
theorem spec66 (u : U) (hb : (every u).length ≤ 1000) (H : AH) (Q : AV → AH → Prop) (h : Q (.slice ((idsOf (every u)).map eId)) H) : ACalls Try.prog w0 66 [eU u] H Q := by
  refine enter66 (by simp) fun hwf hok R hR hR0 => ?_
  have hkl := len_everyL u.kids
  have hu1 : (every u).length = (everyL u.kids).length + 1 := by rw [every_eq]; simp
  unfold x66
  simp only [go_sem, List.mem_singleton, forall_eq, List.not_mem_nil, false_imp_iff, implies_true, Int.reduceToNat, Int.reduceLT, decide_true, decide_false, Nat.reduceEqDiff, ↓reduceIte, Nat.reduceAdd, Int.reduceLE, Int.reduceNeg, Nat.reduceLeDiff, Nat.reduceLT, Int.reduceEq, Nat.reduceEqDiff, List.map_nil, List.length_nil, List.map_cons, List.length_cons]
  refine ⟨by omega, ?_⟩
  refine AX.iter (S := List U × List U) ttOk (fun a => [(1, .ptr H.n 0), (3, .own ((idsOf (u :: everyL a.1)).map eId) H.m), (4, .int .i64 a.1.length)]) (fun a => (H.push (.cells u.cs 27)).pushTok ⟨((idsOf (u :: everyL a.1)).map eId).length, 23, 3⟩) (fun a => a.2.length)
    (fun a => a.1 ++ a.2 = u.kids) ([], u.kids) ?_ rfl rfl ?_
  · simp only [go_sem, List.mem_singleton, forall_eq, List.not_mem_nil, false_imp_iff, implies_true, Int.reduceToNat, Int.reduceLT, decide_true, decide_false, Nat.reduceEqDiff, ↓reduceIte, Nat.reduceAdd, Int.reduceLE, Int.reduceNeg, Nat.reduceLeDiff, Nat.reduceLT, Int.reduceEq, Nat.reduceEqDiff, List.map_nil, List.length_nil, List.map_cons, List.length_cons, everyL, idsOf]
  · rintro ⟨pre, post⟩ h2 hk hwf' K R' hK hQ
    simp only at h2 hK ⊢
    unfold l66_0
    rcases post with _ | ⟨k, ks⟩
    · have hb := ge_of h2 eU
      simp only [go_sem, List.mem_singleton, forall_eq, List.not_mem_nil, false_imp_iff, implies_true, Int.reduceToNat, Int.reduceLT, decide_true, decide_false, Nat.reduceEqDiff, ↓reduceIte, Nat.reduceAdd, Int.reduceLE, Int.reduceNeg, Nat.reduceLeDiff, Nat.reduceLT, Int.reduceEq, Nat.reduceEqDiff, List.map_nil, List.length_nil, List.map_cons, List.length_cons, U.cs, hb]
      refine hQ _ _ _ ?_
      simp only [go_sem, List.mem_singleton, forall_eq, List.not_mem_nil, false_imp_iff, implies_true, Int.reduceToNat, Int.reduceLT, decide_true, decide_false, Nat.reduceEqDiff, ↓reduceIte, Nat.reduceAdd, Int.reduceLE, Int.reduceNeg, Nat.reduceLeDiff, Nat.reduceLT, Int.reduceEq, Nat.reduceEqDiff, List.map_nil, List.length_nil, List.map_cons, List.length_cons]
      rw [List.append_nil] at h2
      refine hR _ _ _ rfl (.forget (.pushTok (.push (.refl hwf) _) _) ?_ ?_)
      · simp only [go_sem, List.mem_singleton, forall_eq, List.not_mem_nil, false_imp_iff, implies_true, Int.reduceToNat, Int.reduceLT, decide_true, decide_false, Nat.reduceEqDiff, ↓reduceIte, Nat.reduceAdd, Int.reduceLE, Int.reduceNeg, Nat.reduceLeDiff, Nat.reduceLT, Int.reduceEq, Nat.reduceEqDiff, List.map_nil, List.length_nil, List.map_cons, List.length_cons, AV.forget]
      · simp only [go_sem, List.mem_singleton, forall_eq, List.not_mem_nil, false_imp_iff, implies_true, Int.reduceToNat, Int.reduceLT, decide_true, decide_false, Nat.reduceEqDiff, ↓reduceIte, Nat.reduceAdd, Int.reduceLE, Int.reduceNeg, Nat.reduceLeDiff, Nat.reduceLT, Int.reduceEq, Nat.reduceEqDiff, List.map_nil, List.length_nil, List.map_cons, List.length_cons, AV.forget]
        rw [h2, ← every_eq]; exact h
    · have hb'' := lt_of h2 eU
      have ha := at_of h2 eU
      have hl := len_of h2
      have hsum : everyL u.kids = everyL pre ++ (every k ++ everyL ks) := by rw [← h2, everyL_append]; rfl
      have hle : (everyL pre).length + (every k).length + 1 ≤ (every u).length := by rw [hu1, hsum, List.length_append, List.length_append]; omega
      have hw : IntKind.i64.wrap ((pre.length : Int) + 1) = pre.length + 1 := wrap_i64.2 (by omega)
      simp only [go_sem, List.mem_singleton, forall_eq, List.not_mem_nil, false_imp_iff, implies_true, Int.reduceToNat, Int.reduceLT, decide_true, decide_false, Nat.reduceEqDiff, ↓reduceIte, Nat.reduceAdd, Int.reduceLE, Int.reduceNeg, Nat.reduceLeDiff, Nat.reduceLT, Int.reduceEq, Nat.reduceEqDiff, List.map_nil, List.length_nil, List.map_cons, List.length_cons, U.cs, hb'', ha, hw]
      refine ⟨by omega, ?_⟩
      refine spec66 k (by omega) _ _ ?_
      simp only [go_sem, List.mem_singleton, forall_eq, List.not_mem_nil, false_imp_iff, implies_true, Int.reduceToNat, Int.reduceLT, decide_true, decide_false, Nat.reduceEqDiff, ↓reduceIte, Nat.reduceAdd, Int.reduceLE, Int.reduceNeg, Nat.reduceLeDiff, Nat.reduceLT, Int.reduceEq, Nat.reduceEqDiff, List.map_nil, List.length_nil, List.map_cons, List.length_cons, hw]
      refine ⟨elem_eId _, ⟨by simp only [List.length_map, idsOf_len, List.length_cons]; omega, by simp only [List.length_map, idsOf_len, List.length_cons]; omega⟩, ?_⟩
      have e : (idsOf (u :: everyL (pre ++ [k]))).map eId = (idsOf (u :: everyL pre)).map eId ++ (idsOf (every k)).map eId := by rw [everyL_snoc]; simp [idsOf]
      refine hK _ _ (pre ++ [k], ks) (by simp) (snoc_of h2) ?_ (Nat.le_refl _) (Nat.le_refl _) ?_
      · rw [e]
        refine .refl (WF_pushTok (WF_push_cells hwf _ _ ?_) _)
        simp only [go_sem, List.mem_singleton, forall_eq, List.not_mem_nil, false_imp_iff, implies_true, Int.reduceToNat, Int.reduceLT, decide_true, decide_false, Nat.reduceEqDiff, ↓reduceIte, Nat.reduceAdd, Int.reduceLE, Int.reduceNeg, Nat.reduceLeDiff, Nat.reduceLT, Int.reduceEq, Nat.reduceEqDiff, List.map_nil, List.length_nil, List.map_cons, List.length_cons, U.cs]
      · simp only [go_sem, List.mem_singleton, forall_eq, List.not_mem_nil, false_imp_iff, implies_true, Int.reduceToNat, Int.reduceLT, decide_true, decide_false, Nat.reduceEqDiff, ↓reduceIte, Nat.reduceAdd, Int.reduceLE, Int.reduceNeg, Nat.reduceLeDiff, Nat.reduceLT, Int.reduceEq, Nat.reduceEqDiff, List.map_nil, List.length_nil, List.map_cons, List.length_cons, len_snoc, e]
        simp
termination_by SizeOf.sizeOf u
decreasing_by exact kid_lt (mem_of h2)
end Go.Ai.Try

set_option linter.unusedVariables false
set_option linter.unusedSimpArgs false
namespace Go.Ai
open Go Go.Ai.Try
def distM (pre : List Id) : List Id → Bool
  | [] => true
  | k :: ks => !(pre.any fun y => decide (y = k)) && distM (pre ++ [k]) ks
def zerosM (l : List Id) : Bool := l.all fun y => decide (y = zeroId)
def idsOkM (u : U) : Bool := zerosM (idsOf (every u)) || (decide (u.id = zeroId) == decide (u.kind = 0)) && distM [] (idsOf (every u))
theorem distM_nodup (pre l : List Id) (hp : pre.Nodup) (h : distM pre l = true) : (pre ++ l).Nodup := by
  induction l generalizing pre with
  | nil => simpa using hp
  | cons k ks ih =>
    simp only [distM, Bool.and_eq_true, Bool.not_eq_true', List.any_eq_false, decide_eq_true_eq] at h
    have := ih (pre ++ [k]) (by
      rw [List.nodup_append]
      refine ⟨hp, by simp, fun a ha b hb => ?_⟩
      simp at hb; subst hb
      exact h.1 a ha) h.2
    simpa using this
end Go.Ai
namespace Go.Ai.Try
open Go Go.Ai Go.Proofs
variable {w0 : World}
theorem spec52 (u : U) (hb : (every u).length ≤ 1000) (H : AH) (Q : AV → AH → Prop) (h : Q (.bool (idsOkM u)) H) : ACalls Try.prog w0 52 [eU u] H Q := by
  refine enter52 (by simp) fun hwf hok R hR hR0 => ?_
  have fin : ∀ b env' H', look 2 env' = .bool b → H.Sub H' → idsOkM u = b → R .ret env' H' := fun b env' H' h2 h3 h4 => hR _ _ _ rfl (.same h3 (by rw [h2]; rfl) (by rw [h2, ← h4]; exact h))
  have hT : (H.push (.cells u.cs 27)).WF := WF_push_cells hwf _ _ (by simp only [go_sem, List.mem_singleton, forall_eq, List.not_mem_nil, false_imp_iff, implies_true, Int.reduceToNat, Int.reduceLT, decide_true, decide_false, Nat.reduceEqDiff, ↓reduceIte, Nat.reduceAdd, Int.reduceLE, Int.reduceNeg, Nat.reduceLeDiff, Nat.reduceLT, Int.reduceEq, Nat.reduceEqDiff, List.map_nil, List.length_nil, List.map_cons, List.length_cons, U.cs])
  unfold x52
  simp only [go_sem, List.mem_singleton, forall_eq, List.not_mem_nil, false_imp_iff, implies_true, Int.reduceToNat, Int.reduceLT, decide_true, decide_false, Nat.reduceEqDiff, ↓reduceIte, Nat.reduceAdd, Int.reduceLE, Int.reduceNeg, Nat.reduceLeDiff, Nat.reduceLT, Int.reduceEq, Nat.reduceEqDiff, List.map_nil, List.length_nil, List.map_cons, List.length_cons]
  refine spec66 u hb _ _ ?_
  simp only [go_sem, List.mem_singleton, forall_eq, List.not_mem_nil, false_imp_iff, implies_true, Int.reduceToNat, Int.reduceLT, decide_true, decide_false, Nat.reduceEqDiff, ↓reduceIte, Nat.reduceAdd, Int.reduceLE, Int.reduceNeg, Nat.reduceLeDiff, Nat.reduceLT, Int.reduceEq, Nat.reduceEqDiff, List.map_nil, List.length_nil, List.map_cons, List.length_cons]
  have hlen : (idsOf (every u)).length ≤ 1000 := by rw [idsOf_len]; exact hb
  have hne : ∃ r, idsOf (every u) = u.id :: r := ⟨_, by rw [every_eq]; rfl⟩
  have hok : idsOkM u = (zerosM (idsOf (every u)) || (decide (u.id = zeroId) == decide (u.kind = 0)) && distM [] (idsOf (every u))) := rfl
  generalize idsOf (every u) = l at hlen hne hok ⊢
  refine AX.iter (S := List Id × List Id × Bool) ttOk (fun a => [(1, .ptr H.n 0), (3, .slice (l.map eId)), (4, .bool a.2.2), (5, .int .i64 a.1.length)]) (fun a => H.push (.cells u.cs 27)) (fun a => a.2.1.length)
    (fun a => a.1 ++ a.2.1 = l ∧ a.2.2 = zerosM a.1) ([], l, true) ?_ rfl ⟨rfl, rfl⟩ ?_
  · simp only [go_sem, List.mem_singleton, forall_eq, List.not_mem_nil, false_imp_iff, implies_true, Int.reduceToNat, Int.reduceLT, decide_true, decide_false, Nat.reduceEqDiff, ↓reduceIte, Nat.reduceAdd, Int.reduceLE, Int.reduceNeg, Nat.reduceLeDiff, Nat.reduceLT, Int.reduceEq, Nat.reduceEqDiff, List.map_nil, List.length_nil, List.map_cons, List.length_cons]
  · rintro ⟨pre, post, b⟩ ⟨h2, h3⟩ hk hwf' K R' hK hQ
    simp only at h2 h3 hK ⊢
    unfold l52_0
    rcases post with _ | ⟨k, ks⟩
    · have hb := ge_of h2 eId
      simp only [go_sem, List.mem_singleton, forall_eq, List.not_mem_nil, false_imp_iff, implies_true, Int.reduceToNat, Int.reduceLT, decide_true, decide_false, Nat.reduceEqDiff, ↓reduceIte, Nat.reduceAdd, Int.reduceLE, Int.reduceNeg, Nat.reduceLeDiff, Nat.reduceLT, Int.reduceEq, Nat.reduceEqDiff, List.map_nil, List.length_nil, List.map_cons, List.length_cons, U.cs, hb]
      refine hQ _ _ _ ?_
      cases b with
      | true =>
        simp only [go_sem, List.mem_singleton, forall_eq, List.not_mem_nil, false_imp_iff, implies_true, Int.reduceToNat, Int.reduceLT, decide_true, decide_false, Nat.reduceEqDiff, ↓reduceIte, Nat.reduceAdd, Int.reduceLE, Int.reduceNeg, Nat.reduceLeDiff, Nat.reduceLT, Int.reduceEq, Nat.reduceEqDiff, List.map_nil, List.length_nil, List.map_cons, List.length_cons]
        exact fin true _ _ (by simp only [go_sem, List.mem_singleton, forall_eq, List.not_mem_nil, false_imp_iff, implies_true, Int.reduceToNat, Int.reduceLT, decide_true, decide_false, Nat.reduceEqDiff, ↓reduceIte, Nat.reduceAdd, Int.reduceLE, Int.reduceNeg, Nat.reduceLeDiff, Nat.reduceLT, Int.reduceEq, Nat.reduceEqDiff, List.map_nil, List.length_nil, List.map_cons, List.length_cons]) (.push (.refl hwf) _) (by rw [hok, ← h2, List.append_nil, ← h3]; rfl)
      | false =>
        obtain ⟨r0, hir⟩ := hne
        have ha0 : (l.map eId)[0]? = some (eId u.id) := by rw [hir]; rfl
        have hz : zerosM l = false := by rw [← h2, List.append_nil]; exact h3.symm
        simp only [go_sem, List.mem_singleton, forall_eq, List.not_mem_nil, false_imp_iff, implies_true, Int.reduceToNat, Int.reduceLT, decide_true, decide_false, Nat.reduceEqDiff, ↓reduceIte, Nat.reduceAdd, Int.reduceLE, Int.reduceNeg, Nat.reduceLeDiff, Nat.reduceLT, dr52_0, ha0]
        refine ⟨fun e => fin false _ _ (by simp only [go_sem, List.mem_singleton, forall_eq, List.not_mem_nil, false_imp_iff, implies_true, Int.reduceToNat, Int.reduceLT, decide_true, decide_false, Nat.reduceEqDiff, ↓reduceIte, Nat.reduceAdd, Int.reduceLE, Int.reduceNeg, Nat.reduceLeDiff, Nat.reduceLT]) (.push (.refl hwf) _) (by rw [hok, hz]; revert e; cases decide (u.id = zeroId) <;> cases decide (u.kind = 0) <;> simp), fun e => ?_⟩
        have hok2 : idsOkM u = distM [] l := by rw [hok, hz]; revert e; cases decide (u.id = zeroId) <;> cases decide (u.kind = 0) <;> simp
        refine AX.iter (S := List Id × List Id) ttOk (fun a => [(3, .slice (l.map eId)), (6, .int .i64 a.1.length)]) (fun a => H.push (.cells u.cs 27)) (fun a => a.2.length)
          (fun a => a.1 ++ a.2 = l ∧ distM a.1 a.2 = distM [] l) ([], l) ?_ rfl ⟨rfl, rfl⟩ ?_
        · simp only [go_sem, List.mem_singleton, forall_eq, List.not_mem_nil, false_imp_iff, implies_true, Int.reduceToNat, Int.reduceLT, decide_true, decide_false, Nat.reduceEqDiff, ↓reduceIte, Nat.reduceAdd, Int.reduceLE, Int.reduceNeg, Nat.reduceLeDiff, Nat.reduceLT, Int.reduceEq, Nat.reduceEqDiff, List.map_nil, List.length_nil, List.map_cons, List.length_cons]
        · rintro ⟨pre2, post2⟩ ⟨g2, g3⟩ hk2 hwf2 K2 R2 hK2 hQ2
          simp only at g2 g3 hK2 ⊢
          unfold l52_2
          rcases post2 with _ | ⟨k, ks⟩
          · have hb := ge_of g2 eId
            simp only [go_sem, List.mem_singleton, forall_eq, List.not_mem_nil, false_imp_iff, implies_true, Int.reduceToNat, Int.reduceLT, decide_true, decide_false, Nat.reduceEqDiff, ↓reduceIte, Nat.reduceAdd, Int.reduceLE, Int.reduceNeg, Nat.reduceLeDiff, Nat.reduceLT, hb]
            refine hQ2 _ _ _ ?_
            simp only [go_sem, List.mem_singleton, forall_eq, List.not_mem_nil, false_imp_iff, implies_true, Int.reduceToNat, Int.reduceLT, decide_true, decide_false, Nat.reduceEqDiff, ↓reduceIte, Nat.reduceAdd, Int.reduceLE, Int.reduceNeg, Nat.reduceLeDiff, Nat.reduceLT]
            exact fin true _ _ (by simp only [go_sem, List.mem_singleton, forall_eq, List.not_mem_nil, false_imp_iff, implies_true, Int.reduceToNat, Int.reduceLT, decide_true, decide_false, Nat.reduceEqDiff, ↓reduceIte, Nat.reduceAdd, Int.reduceLE, Int.reduceNeg, Nat.reduceLeDiff, Nat.reduceLT]) (.push (.refl hwf) _) (by rw [hok2, ← g3]; rfl)
          · have hb := lt_of g2 eId
            have ha := at_of g2 eId
            have hl := len_of g2
            have hw : IntKind.i64.wrap ((pre2.length : Int) + 1) = pre2.length + 1 := wrap_i64.2 (by omega)
            simp only [go_sem, List.mem_singleton, forall_eq, List.not_mem_nil, false_imp_iff, implies_true, Int.reduceToNat, Int.reduceLT, decide_true, decide_false, Nat.reduceEqDiff, ↓reduceIte, Nat.reduceAdd, Int.reduceLE, Int.reduceNeg, Nat.reduceLeDiff, Nat.reduceLT, hb]
            refine AX.iter (S := List Id × List Id) ttOk (fun a => [(3, .slice (l.map eId)), (6, .int .i64 pre2.length), (7, .int .i64 a.1.length)]) (fun a => H.push (.cells u.cs 27)) (fun a => a.2.length)
              (fun a => a.1 ++ a.2 = pre2 ∧ (pre2.any fun y => decide (y = k)) = (a.2.any fun y => decide (y = k))) ([], pre2) ?_ rfl ⟨rfl, rfl⟩ ?_
            · simp only [go_sem, List.mem_singleton, forall_eq, List.not_mem_nil, false_imp_iff, implies_true, Int.reduceToNat, Int.reduceLT, decide_true, decide_false, Nat.reduceEqDiff, ↓reduceIte, Nat.reduceAdd, Int.reduceLE, Int.reduceNeg, Nat.reduceLeDiff, Nat.reduceLT, Int.reduceEq, Nat.reduceEqDiff, List.map_nil, List.length_nil, List.map_cons, List.length_cons]
            · rintro ⟨p1, p2⟩ ⟨f2, f3⟩ hk3 hwf3 K3 R3 hK3 hQ3
              simp only at f2 f3 hK3 ⊢
              unfold l52_1
              rcases p2 with _ | ⟨y, p2⟩
              · have e1 : decide ((p1.length : Int) < (pre2.length : Int)) = false := by rw [← f2]; simp
                simp only [go_sem, List.mem_singleton, forall_eq, List.not_mem_nil, false_imp_iff, implies_true, Int.reduceToNat, Int.reduceLT, decide_true, decide_false, Nat.reduceEqDiff, ↓reduceIte, Nat.reduceAdd, Int.reduceLE, Int.reduceNeg, Nat.reduceLeDiff, Nat.reduceLT, e1]
                refine hQ3 _ _ _ ?_
                simp only [go_sem, List.mem_singleton, forall_eq, List.not_mem_nil, false_imp_iff, implies_true, Int.reduceToNat, Int.reduceLT, decide_true, decide_false, Nat.reduceEqDiff, ↓reduceIte, Nat.reduceAdd, Int.reduceLE, Int.reduceNeg, Nat.reduceLeDiff, Nat.reduceLT, hw]
                refine hK2 _ _ (pre2 ++ [k], ks) (by simp) ⟨snoc_of g2, by rw [← g3, distM, f3]; rfl⟩ (.refl hwf2) (Nat.le_refl _) (Nat.le_refl _) ?_
                simp only [go_sem, List.mem_singleton, forall_eq, List.not_mem_nil, false_imp_iff, implies_true, Int.reduceToNat, Int.reduceLT, decide_true, decide_false, Nat.reduceEqDiff, ↓reduceIte, Nat.reduceAdd, Int.reduceLE, Int.reduceNeg, Nat.reduceLeDiff, Nat.reduceLT, len_snoc]
              · have e1 : decide ((p1.length : Int) < (pre2.length : Int)) = true := by rw [← f2]; simp; omega
                have hl2 : p1.length < pre2.length := by rw [← f2]; simp
                have hkids : p1 ++ y :: (p2 ++ k :: ks) = l := by rw [← g2, ← f2]; simp
                have ha2 := at_of hkids eId
                have hw2 : IntKind.i64.wrap ((p1.length : Int) + 1) = p1.length + 1 := wrap_i64.2 (by omega)
                simp only [go_sem, List.mem_singleton, forall_eq, List.not_mem_nil, false_imp_iff, implies_true, Int.reduceToNat, Int.reduceLT, decide_true, decide_false, Nat.reduceEqDiff, ↓reduceIte, Nat.reduceAdd, Int.reduceLE, Int.reduceNeg, Nat.reduceLeDiff, Nat.reduceLT, e1, dr52_1, ha, ha2, hw2]
                refine ⟨by omega, by omega, fun e => ?_, fun e => ?_⟩
                · refine hQ3 _ _ _ ?_
                  simp only [go_sem, List.mem_singleton, forall_eq, List.not_mem_nil, false_imp_iff, implies_true, Int.reduceToNat, Int.reduceLT, decide_true, decide_false, Nat.reduceEqDiff, ↓reduceIte, Nat.reduceAdd, Int.reduceLE, Int.reduceNeg, Nat.reduceLeDiff, Nat.reduceLT]
                  refine hQ2 _ _ _ ?_
                  simp only [go_sem, List.mem_singleton, forall_eq, List.not_mem_nil, false_imp_iff, implies_true, Int.reduceToNat, Int.reduceLT, decide_true, decide_false, Nat.reduceEqDiff, ↓reduceIte, Nat.reduceAdd, Int.reduceLE, Int.reduceNeg, Nat.reduceLeDiff, Nat.reduceLT]
                  exact fin false _ _ (by simp only [go_sem, List.mem_singleton, forall_eq, List.not_mem_nil, false_imp_iff, implies_true, Int.reduceToNat, Int.reduceLT, decide_true, decide_false, Nat.reduceEqDiff, ↓reduceIte, Nat.reduceAdd, Int.reduceLE, Int.reduceNeg, Nat.reduceLeDiff, Nat.reduceLT]) (.push (.refl hwf) _) (by rw [hok2, ← g3, distM, f3, List.any_cons, e]; rfl)
                · refine hK3 _ _ (p1 ++ [y], p2) (by simp) ⟨snoc_of f2, by rw [f3, List.any_cons, e]; rfl⟩ (.refl hwf3) (Nat.le_refl _) (Nat.le_refl _) ?_
                  simp only [go_sem, List.mem_singleton, forall_eq, List.not_mem_nil, false_imp_iff, implies_true, Int.reduceToNat, Int.reduceLT, decide_true, decide_false, Nat.reduceEqDiff, ↓reduceIte, Nat.reduceAdd, Int.reduceLE, Int.reduceNeg, Nat.reduceLeDiff, Nat.reduceLT, len_snoc]
    · have hb := lt_of h2 eId
      have ha := at_of h2 eId
      have hl := len_of h2
      have hw : IntKind.i64.wrap ((pre.length : Int) + 1) = pre.length + 1 := wrap_i64.2 (by omega)
      have go : ∀ b' env' H', b' = zerosM (pre ++ [k]) → look 1 env' = .ptr H.n 0 → look 3 env' = .slice (l.map eId) → look 4 env' = .bool b' → look 5 env' = .int .i64 (pre.length + 1) → H' = H.push (.cells u.cs 27) → K env' H' := fun b' env' H' q0 q1 q2 q3 q4 q5 => by
        subst q5
        refine hK _ _ (pre ++ [k], ks, b') (by simp) ⟨snoc_of h2, q0⟩ (.refl hwf') (Nat.le_refl _) (Nat.le_refl _) ?_
        simp only [go_sem, List.mem_singleton, forall_eq, List.not_mem_nil, false_imp_iff, implies_true, Int.reduceToNat, Int.reduceLT, decide_true, decide_false, Nat.reduceEqDiff, ↓reduceIte, Nat.reduceAdd, Int.reduceLE, Int.reduceNeg, Nat.reduceLeDiff, Nat.reduceLT, Int.reduceEq, Nat.reduceEqDiff, List.map_nil, List.length_nil, List.map_cons, List.length_cons, q1, q2, q3, q4, len_snoc]
        simp
      cases b with
      | true =>
        simp only [go_sem, List.mem_singleton, forall_eq, List.not_mem_nil, false_imp_iff, implies_true, Int.reduceToNat, Int.reduceLT, decide_true, decide_false, Nat.reduceEqDiff, ↓reduceIte, Nat.reduceAdd, Int.reduceLE, Int.reduceNeg, Nat.reduceLeDiff, Nat.reduceLT, Int.reduceEq, Nat.reduceEqDiff, List.map_nil, List.length_nil, List.map_cons, List.length_cons, hb, ha, hw]
        refine ⟨by omega, ?_⟩
        exact go (decide (k = zeroId)) _ _ (by rw [zerosM, List.all_append, ← zerosM, ← h3]; simp) (by simp only [go_sem, List.mem_singleton, forall_eq, List.not_mem_nil, false_imp_iff, implies_true, Int.reduceToNat, Int.reduceLT, decide_true, decide_false, Nat.reduceEqDiff, ↓reduceIte, Nat.reduceAdd, Int.reduceLE, Int.reduceNeg, Nat.reduceLeDiff, Nat.reduceLT, Int.reduceEq, Nat.reduceEqDiff, List.map_nil, List.length_nil, List.map_cons, List.length_cons]) (by simp only [go_sem, List.mem_singleton, forall_eq, List.not_mem_nil, false_imp_iff, implies_true, Int.reduceToNat, Int.reduceLT, decide_true, decide_false, Nat.reduceEqDiff, ↓reduceIte, Nat.reduceAdd, Int.reduceLE, Int.reduceNeg, Nat.reduceLeDiff, Nat.reduceLT, Int.reduceEq, Nat.reduceEqDiff, List.map_nil, List.length_nil, List.map_cons, List.length_cons]) (by simp only [go_sem, List.mem_singleton, forall_eq, List.not_mem_nil, false_imp_iff, implies_true, Int.reduceToNat, Int.reduceLT, decide_true, decide_false, Nat.reduceEqDiff, ↓reduceIte, Nat.reduceAdd, Int.reduceLE, Int.reduceNeg, Nat.reduceLeDiff, Nat.reduceLT, Int.reduceEq, Nat.reduceEqDiff, List.map_nil, List.length_nil, List.map_cons, List.length_cons]) (by simp only [go_sem, List.mem_singleton, forall_eq, List.not_mem_nil, false_imp_iff, implies_true, Int.reduceToNat, Int.reduceLT, decide_true, decide_false, Nat.reduceEqDiff, ↓reduceIte, Nat.reduceAdd, Int.reduceLE, Int.reduceNeg, Nat.reduceLeDiff, Nat.reduceLT, Int.reduceEq, Nat.reduceEqDiff, List.map_nil, List.length_nil, List.map_cons, List.length_cons]) rfl
      | false =>
        simp only [go_sem, List.mem_singleton, forall_eq, List.not_mem_nil, false_imp_iff, implies_true, Int.reduceToNat, Int.reduceLT, decide_true, decide_false, Nat.reduceEqDiff, ↓reduceIte, Nat.reduceAdd, Int.reduceLE, Int.reduceNeg, Nat.reduceLeDiff, Nat.reduceLT, Int.reduceEq, Nat.reduceEqDiff, List.map_nil, List.length_nil, List.map_cons, List.length_cons, hb, ha, hw]
        exact go false _ _ (by rw [zerosM, List.all_append, ← zerosM, ← h3]; simp) (by simp only [go_sem, List.mem_singleton, forall_eq, List.not_mem_nil, false_imp_iff, implies_true, Int.reduceToNat, Int.reduceLT, decide_true, decide_false, Nat.reduceEqDiff, ↓reduceIte, Nat.reduceAdd, Int.reduceLE, Int.reduceNeg, Nat.reduceLeDiff, Nat.reduceLT, Int.reduceEq, Nat.reduceEqDiff, List.map_nil, List.length_nil, List.map_cons, List.length_cons]) (by simp only [go_sem, List.mem_singleton, forall_eq, List.not_mem_nil, false_imp_iff, implies_true, Int.reduceToNat, Int.reduceLT, decide_true, decide_false, Nat.reduceEqDiff, ↓reduceIte, Nat.reduceAdd, Int.reduceLE, Int.reduceNeg, Nat.reduceLeDiff, Nat.reduceLT, Int.reduceEq, Nat.reduceEqDiff, List.map_nil, List.length_nil, List.map_cons, List.length_cons]) (by simp only [go_sem, List.mem_singleton, forall_eq, List.not_mem_nil, false_imp_iff, implies_true, Int.reduceToNat, Int.reduceLT, decide_true, decide_false, Nat.reduceEqDiff, ↓reduceIte, Nat.reduceAdd, Int.reduceLE, Int.reduceNeg, Nat.reduceLeDiff, Nat.reduceLT, Int.reduceEq, Nat.reduceEqDiff, List.map_nil, List.length_nil, List.map_cons, List.length_cons]) (by simp only [go_sem, List.mem_singleton, forall_eq, List.not_mem_nil, false_imp_iff, implies_true, Int.reduceToNat, Int.reduceLT, decide_true, decide_false, Nat.reduceEqDiff, ↓reduceIte, Nat.reduceAdd, Int.reduceLE, Int.reduceNeg, Nat.reduceLeDiff, Nat.reduceLT, Int.reduceEq, Nat.reduceEqDiff, List.map_nil, List.length_nil, List.map_cons, List.length_cons]) rfl
end Go.Ai.Try
