/- A part of the proof: no statement of the seat is proved in this text. -/
import Derived.Test.YtcphpaeebaacgaaG3
import Derived.Test.YtcphpaeebaacgaaT28a
set_option linter.unusedVariables false
set_option linter.unusedSimpArgs false
namespace Go.Ai
open Go Go.Ai.Try
mutual
theorem sizeM_every (u : U) (deep most : Int) (h : sizeM u deep most ≤ most) : sizeM u deep most = (every u).length := by
  cases u with
  | mk a b c d e kids =>
    simp only [sizeM, every, List.length_cons] at h ⊢
    split at h
    · omega
    · rename_i hd
      rw [if_neg hd, sizeL_every kids deep most 1 h]; omega
theorem sizeL_every (l : List U) (deep most n : Int) (h : sizeL l deep most n ≤ most) : sizeL l deep most n = n + (everyL l).length := by
  cases l with
  | nil => simp [sizeL, everyL]
  | cons k ks =>
    simp only [sizeL] at h ⊢
    split at h
    · rename_i hn
      rw [if_pos hn]
      have h1 := sizeL_every ks deep most _ h
      rw [h1] at h ⊢
      have h2 := sizeM_every k (deep + 1) (most - n) (by omega)
      simp only [everyL, List.length_append]
      omega
    · omega
end
mutual
def namedM : U → Bool
  | ⟨a, kind, c, d, e, kids⟩ => !(!decide (kind = 0) && decide (a = zeroId)) && namedL kids
def namedL : List U → Bool
  | [] => true
  | k :: ks => namedM k && namedL ks
end
theorem namedM_eq (u : U) : namedM u = (!(!decide (u.kind = 0) && decide (u.id = zeroId)) && namedL u.kids) := by cases u; simp only [namedM]
/-- A tree that stands (its IDs differ from each other). -/
def standsP (u : U) : Prop := rightM u = true ∧ idsOkM u = true ∧ namedM u = true
theorem stands_nodup {u : U} (h : standsP u) : (idsOf (every u)).Nodup := by
  obtain ⟨h1, h2, h3⟩ := h
  rw [idsOkM, Bool.or_eq_true] at h2
  rcases h2 with h2 | h2
  · have hk : u.kids = [] := by
      rcases hk : u.kids with _ | ⟨k, ks⟩
      · rfl
      · exfalso
        have e1 : ∀ x ∈ every u, x.id = zeroId := by
          intro x hx
          simpa using List.all_eq_true.1 h2 x.id (List.mem_map_of_mem hx)
        have e2 : u.id = zeroId := e1 u (by rw [every_eq]; simp)
        have e3 : k.id = zeroId := e1 k (by rw [every_eq, hk]; simp [everyL, every_eq k])
        rw [namedM_eq, Bool.and_eq_true] at h3
        have h4 := h3.2
        rw [hk, namedL, Bool.and_eq_true, namedM_eq, Bool.and_eq_true] at h4
        have h5 := h3.1
        have h6 := h4.1.1
        simp only [e2, e3, decide_true, Bool.and_true, Bool.not_not, decide_eq_true_eq] at h5 h6
        rw [rightM_eq, Bool.and_eq_true, hk, rightL] at h1
        have h7 := h1.2
        simp only [Bool.and_eq_true, h5, h6] at h7
        have := h7.1.1.1
        simp [nestsM] at this
    rw [every_eq, hk]
    simp [everyL, idsOf]
  · rw [Bool.and_eq_true] at h2
    simpa using distM_nodup [] _ (by simp) h2.2
end Go.Ai
namespace Go.Ai.Try
open Go Go.Ai Go.Proofs
variable {w0 : World}
theorem spec31 (u : U) (hb : (every u).length ≤ 1000) (H : AH) (Q : AV → AH → Prop) (h : Q (.bool (namedM u)) H) : ACalls Try.prog w0 31 [eU u] H Q := by
  refine enter31 (by simp) fun hwf hok R hR hR0 => ?_
  have hkl := len_everyL u.kids
  have hu1 : (every u).length = (everyL u.kids).length + 1 := by rw [every_eq]; simp
  have fin : ∀ b env' H', look 2 env' = .bool b → H.Sub H' → namedM u = b → R .ret env' H' := fun b env' H' h2 h3 h4 => hR _ _ _ rfl (.same h3 (by rw [h2]; rfl) (by rw [h2, ← h4]; exact h))
  have loop : ∀ env, look 1 env = .ptr H.n 0 → look 3 env = .int .i64 0 → ∀ Q', (∀ env', namedL u.kids = true → Q' (.exit 0) env' (H.push (.cells u.cs 27))) → (∀ env' H', look 2 env' = .bool false → H.Sub H' → namedL u.kids = false → Q' .ret env' H') → AX Try.prog w0 27 (.loop l31_0) env (H.push (.cells u.cs 27)) Q' := by
    intro env e1 e3 Q' hq1 hq2
    refine AX.iter (S := List U × List U) ttOk (fun a => [(1, .ptr H.n 0), (3, .int .i64 a.1.length)]) (fun a => H.push (.cells u.cs 27)) (fun a => a.2.length)
      (fun a => a.1 ++ a.2 = u.kids ∧ namedL a.2 = namedL u.kids) ([], u.kids) ?_ rfl ⟨rfl, rfl⟩ ?_
    · simp only [go_sem, List.mem_singleton, forall_eq, List.not_mem_nil, false_imp_iff, implies_true, Int.reduceToNat, Int.reduceLT, decide_true, decide_false, Nat.reduceEqDiff, ↓reduceIte, Nat.reduceAdd, Int.reduceLE, Int.reduceNeg, Nat.reduceLeDiff, Nat.reduceLT, Int.reduceEq, Nat.reduceEqDiff, List.map_nil, List.length_nil, List.map_cons, List.length_cons, e1, e3]
    · rintro ⟨pre, post⟩ ⟨h2, h3⟩ hk hwf' K R' hK hQ
      simp only at h2 h3 hK ⊢
      unfold l31_0
      rcases post with _ | ⟨k, ks⟩
      · have hb := ge_of h2 eU
        simp only [go_sem, List.mem_singleton, forall_eq, List.not_mem_nil, false_imp_iff, implies_true, Int.reduceToNat, Int.reduceLT, decide_true, decide_false, Nat.reduceEqDiff, ↓reduceIte, Nat.reduceAdd, Int.reduceLE, Int.reduceNeg, Nat.reduceLeDiff, Nat.reduceLT, Int.reduceEq, Nat.reduceEqDiff, List.map_nil, List.length_nil, List.map_cons, List.length_cons, U.cs, hb]
        exact hQ _ _ _ (hq1 _ (by rw [← h3]; rfl))
      · have hb'' := lt_of h2 eU
        have ha := at_of h2 eU
        have hl := len_of h2
        have hbk : (every k).length ≤ 1000 := by have := kid_le (mem_of h2); omega
        have hw : IntKind.i64.wrap ((pre.length : Int) + 1) = pre.length + 1 := wrap_i64.2 (by omega)
        simp only [go_sem, List.mem_singleton, forall_eq, List.not_mem_nil, false_imp_iff, implies_true, Int.reduceToNat, Int.reduceLT, decide_true, decide_false, Nat.reduceEqDiff, ↓reduceIte, Nat.reduceAdd, Int.reduceLE, Int.reduceNeg, Nat.reduceLeDiff, Nat.reduceLT, Int.reduceEq, Nat.reduceEqDiff, List.map_nil, List.length_nil, List.map_cons, List.length_cons, U.cs, hb'', ha, hw]
        refine ⟨by omega, ?_⟩
        refine spec31 k hbk _ _ ?_
        simp only [namedL] at h3
        cases hnk : namedM k with
        | true =>
          simp only [go_sem, List.mem_singleton, forall_eq, List.not_mem_nil, false_imp_iff, implies_true, Int.reduceToNat, Int.reduceLT, decide_true, decide_false, Nat.reduceEqDiff, ↓reduceIte, Nat.reduceAdd, Int.reduceLE, Int.reduceNeg, Nat.reduceLeDiff, Nat.reduceLT, Int.reduceEq, Nat.reduceEqDiff, List.map_nil, List.length_nil, List.map_cons, List.length_cons, Bool.not_true, hw]
          refine hK _ _ (pre ++ [k], ks) (by simp) ⟨snoc_of h2, by rw [← h3, hnk]; rfl⟩ (.refl hwf') (Nat.le_refl _) (Nat.le_refl _) ?_
          simp only [go_sem, List.mem_singleton, forall_eq, List.not_mem_nil, false_imp_iff, implies_true, Int.reduceToNat, Int.reduceLT, decide_true, decide_false, Nat.reduceEqDiff, ↓reduceIte, Nat.reduceAdd, Int.reduceLE, Int.reduceNeg, Nat.reduceLeDiff, Nat.reduceLT, Int.reduceEq, Nat.reduceEqDiff, List.map_nil, List.length_nil, List.map_cons, List.length_cons, len_snoc]
          simp
        | false =>
          simp only [go_sem, List.mem_singleton, forall_eq, List.not_mem_nil, false_imp_iff, implies_true, Int.reduceToNat, Int.reduceLT, decide_true, decide_false, Nat.reduceEqDiff, ↓reduceIte, Nat.reduceAdd, Int.reduceLE, Int.reduceNeg, Nat.reduceLeDiff, Nat.reduceLT, Int.reduceEq, Nat.reduceEqDiff, List.map_nil, List.length_nil, List.map_cons, List.length_cons, Bool.not_false]
          exact hQ _ _ _ (hq2 _ _ (by simp only [go_sem, List.mem_singleton, forall_eq, List.not_mem_nil, false_imp_iff, implies_true, Int.reduceToNat, Int.reduceLT, decide_true, decide_false, Nat.reduceEqDiff, ↓reduceIte, Nat.reduceAdd, Int.reduceLE, Int.reduceNeg, Nat.reduceLeDiff, Nat.reduceLT, Int.reduceEq, Nat.reduceEqDiff, List.map_nil, List.length_nil, List.map_cons, List.length_cons]) (.push (.refl hwf) _) (by rw [← h3, hnk]; rfl))
  unfold x31
  by_cases hk0 : decide (u.kind = 0) = true
  · simp only [go_sem, List.mem_singleton, forall_eq, List.not_mem_nil, false_imp_iff, implies_true, Int.reduceToNat, Int.reduceLT, decide_true, decide_false, Nat.reduceEqDiff, ↓reduceIte, Nat.reduceAdd, Int.reduceLE, Int.reduceNeg, Nat.reduceLeDiff, Nat.reduceLT, Int.reduceEq, Nat.reduceEqDiff, List.map_nil, List.length_nil, List.map_cons, List.length_cons, hk0, Bool.not_true]
    refine loop _ (by simp only [go_sem, List.mem_singleton, forall_eq, List.not_mem_nil, false_imp_iff, implies_true, Int.reduceToNat, Int.reduceLT, decide_true, decide_false, Nat.reduceEqDiff, ↓reduceIte, Nat.reduceAdd, Int.reduceLE, Int.reduceNeg, Nat.reduceLeDiff, Nat.reduceLT, Int.reduceEq, Nat.reduceEqDiff, List.map_nil, List.length_nil, List.map_cons, List.length_cons]) (by simp only [go_sem, List.mem_singleton, forall_eq, List.not_mem_nil, false_imp_iff, implies_true, Int.reduceToNat, Int.reduceLT, decide_true, decide_false, Nat.reduceEqDiff, ↓reduceIte, Nat.reduceAdd, Int.reduceLE, Int.reduceNeg, Nat.reduceLeDiff, Nat.reduceLT, Int.reduceEq, Nat.reduceEqDiff, List.map_nil, List.length_nil, List.map_cons, List.length_cons]) _ (fun env' h9 => ?_) (fun env' H' h5 h6 h9 => ?_)
    · simp only [go_sem, List.mem_singleton, forall_eq, List.not_mem_nil, false_imp_iff, implies_true, Int.reduceToNat, Int.reduceLT, decide_true, decide_false, Nat.reduceEqDiff, ↓reduceIte, Nat.reduceAdd, Int.reduceLE, Int.reduceNeg, Nat.reduceLeDiff, Nat.reduceLT, Int.reduceEq, Nat.reduceEqDiff, List.map_nil, List.length_nil, List.map_cons, List.length_cons]
      exact fin true _ _ (by simp only [go_sem, List.mem_singleton, forall_eq, List.not_mem_nil, false_imp_iff, implies_true, Int.reduceToNat, Int.reduceLT, decide_true, decide_false, Nat.reduceEqDiff, ↓reduceIte, Nat.reduceAdd, Int.reduceLE, Int.reduceNeg, Nat.reduceLeDiff, Nat.reduceLT, Int.reduceEq, Nat.reduceEqDiff, List.map_nil, List.length_nil, List.map_cons, List.length_cons]) (.push (.refl hwf) _) (by rw [namedM_eq, hk0, h9]; rfl)
    · simp only [go_sem, List.mem_singleton, forall_eq, List.not_mem_nil, false_imp_iff, implies_true, Int.reduceToNat, Int.reduceLT, decide_true, decide_false, Nat.reduceEqDiff, ↓reduceIte, Nat.reduceAdd, Int.reduceLE, Int.reduceNeg, Nat.reduceLeDiff, Nat.reduceLT, Int.reduceEq, Nat.reduceEqDiff, List.map_nil, List.length_nil, List.map_cons, List.length_cons]
      exact fin false _ _ h5 h6 (by rw [namedM_eq, h9, Bool.and_false])
  · have hk1 : decide (u.kind = 0) = false := by simpa using hk0
    simp only [go_sem, List.mem_singleton, forall_eq, List.not_mem_nil, false_imp_iff, implies_true, Int.reduceToNat, Int.reduceLT, decide_true, decide_false, Nat.reduceEqDiff, ↓reduceIte, Nat.reduceAdd, Int.reduceLE, Int.reduceNeg, Nat.reduceLeDiff, Nat.reduceLT, Int.reduceEq, Nat.reduceEqDiff, List.map_nil, List.length_nil, List.map_cons, List.length_cons, hk1, Bool.not_false]
    refine ⟨fun e => fin false _ _ (by simp only [go_sem, List.mem_singleton, forall_eq, List.not_mem_nil, false_imp_iff, implies_true, Int.reduceToNat, Int.reduceLT, decide_true, decide_false, Nat.reduceEqDiff, ↓reduceIte, Nat.reduceAdd, Int.reduceLE, Int.reduceNeg, Nat.reduceLeDiff, Nat.reduceLT, Int.reduceEq, Nat.reduceEqDiff, List.map_nil, List.length_nil, List.map_cons, List.length_cons]) (.push (.refl hwf) _) (by rw [namedM_eq, hk1, e]; rfl), fun e => ?_⟩
    refine loop _ (by simp only [go_sem, List.mem_singleton, forall_eq, List.not_mem_nil, false_imp_iff, implies_true, Int.reduceToNat, Int.reduceLT, decide_true, decide_false, Nat.reduceEqDiff, ↓reduceIte, Nat.reduceAdd, Int.reduceLE, Int.reduceNeg, Nat.reduceLeDiff, Nat.reduceLT, Int.reduceEq, Nat.reduceEqDiff, List.map_nil, List.length_nil, List.map_cons, List.length_cons]) (by simp only [go_sem, List.mem_singleton, forall_eq, List.not_mem_nil, false_imp_iff, implies_true, Int.reduceToNat, Int.reduceLT, decide_true, decide_false, Nat.reduceEqDiff, ↓reduceIte, Nat.reduceAdd, Int.reduceLE, Int.reduceNeg, Nat.reduceLeDiff, Nat.reduceLT, Int.reduceEq, Nat.reduceEqDiff, List.map_nil, List.length_nil, List.map_cons, List.length_cons]) _ (fun env' h9 => ?_) (fun env' H' h5 h6 h9 => ?_)
    · simp only [go_sem, List.mem_singleton, forall_eq, List.not_mem_nil, false_imp_iff, implies_true, Int.reduceToNat, Int.reduceLT, decide_true, decide_false, Nat.reduceEqDiff, ↓reduceIte, Nat.reduceAdd, Int.reduceLE, Int.reduceNeg, Nat.reduceLeDiff, Nat.reduceLT, Int.reduceEq, Nat.reduceEqDiff, List.map_nil, List.length_nil, List.map_cons, List.length_cons]
      exact fin true _ _ (by simp only [go_sem, List.mem_singleton, forall_eq, List.not_mem_nil, false_imp_iff, implies_true, Int.reduceToNat, Int.reduceLT, decide_true, decide_false, Nat.reduceEqDiff, ↓reduceIte, Nat.reduceAdd, Int.reduceLE, Int.reduceNeg, Nat.reduceLeDiff, Nat.reduceLT, Int.reduceEq, Nat.reduceEqDiff, List.map_nil, List.length_nil, List.map_cons, List.length_cons]) (.push (.refl hwf) _) (by rw [namedM_eq, hk1, h9, e]; rfl)
    · simp only [go_sem, List.mem_singleton, forall_eq, List.not_mem_nil, false_imp_iff, implies_true, Int.reduceToNat, Int.reduceLT, decide_true, decide_false, Nat.reduceEqDiff, ↓reduceIte, Nat.reduceAdd, Int.reduceLE, Int.reduceNeg, Nat.reduceLeDiff, Nat.reduceLT, Int.reduceEq, Nat.reduceEqDiff, List.map_nil, List.length_nil, List.map_cons, List.length_cons]
      exact fin false _ _ h5 h6 (by rw [namedM_eq, h9, Bool.and_false])
termination_by SizeOf.sizeOf u
decreasing_by exact kid_lt (mem_of h2)

theorem spec30 (u : U) (hb : (every u).length ≤ 1000) (hs : small (every u)) (H : AH) (Q : AV → AH → Prop) (h : ∀ b, (b = true → rightM u = true ∧ idsOkM u = true) → Q (.bool b) H) : ACalls Try.prog w0 30 [eU u] H Q := by
  refine enter30 (by simp) fun hwf hok R hR hR0 => ?_
  have fin : ∀ b env' H', look 2 env' = .bool b → H.Sub H' → (b = true → rightM u = true ∧ idsOkM u = true) → R .ret env' H' := fun b env' H' h2 h3 h4 => hR _ _ _ rfl (.same h3 (by rw [h2]; rfl) (by rw [h2]; exact h b h4))
  unfold x30
  simp only [go_sem, List.mem_singleton, forall_eq, List.not_mem_nil, false_imp_iff, implies_true, Int.reduceToNat, Int.reduceLT, decide_true, decide_false, Nat.reduceEqDiff, ↓reduceIte, Nat.reduceAdd, Int.reduceLE, Int.reduceNeg, Nat.reduceLeDiff, Nat.reduceLT, Int.reduceEq, Nat.reduceEqDiff, List.map_nil, List.length_nil, List.map_cons, List.length_cons]
  refine spec49 u hb hs _ _ ?_
  cases hr : rightM u with
  | false =>
    simp only [go_sem, List.mem_singleton, forall_eq, List.not_mem_nil, false_imp_iff, implies_true, Int.reduceToNat, Int.reduceLT, decide_true, decide_false, Nat.reduceEqDiff, ↓reduceIte, Nat.reduceAdd, Int.reduceLE, Int.reduceNeg, Nat.reduceLeDiff, Nat.reduceLT, Int.reduceEq, Nat.reduceEqDiff, List.map_nil, List.length_nil, List.map_cons, List.length_cons]
    exact fin false _ _ (by simp only [go_sem, List.mem_singleton, forall_eq, List.not_mem_nil, false_imp_iff, implies_true, Int.reduceToNat, Int.reduceLT, decide_true, decide_false, Nat.reduceEqDiff, ↓reduceIte, Nat.reduceAdd, Int.reduceLE, Int.reduceNeg, Nat.reduceLeDiff, Nat.reduceLT, Int.reduceEq, Nat.reduceEqDiff, List.map_nil, List.length_nil, List.map_cons, List.length_cons]) (.push (.refl hwf) _) (by simp)
  | true =>
    simp only [go_sem, List.mem_singleton, forall_eq, List.not_mem_nil, false_imp_iff, implies_true, Int.reduceToNat, Int.reduceLT, decide_true, decide_false, Nat.reduceEqDiff, ↓reduceIte, Nat.reduceAdd, Int.reduceLE, Int.reduceNeg, Nat.reduceLeDiff, Nat.reduceLT, Int.reduceEq, Nat.reduceEqDiff, List.map_nil, List.length_nil, List.map_cons, List.length_cons]
    refine spec50 u hb _ _ fun d d1 d2 => ?_
    cases hd : decide (d ≤ 8) with
    | false =>
      simp only [go_sem, List.mem_singleton, forall_eq, List.not_mem_nil, false_imp_iff, implies_true, Int.reduceToNat, Int.reduceLT, decide_true, decide_false, Nat.reduceEqDiff, ↓reduceIte, Nat.reduceAdd, Int.reduceLE, Int.reduceNeg, Nat.reduceLeDiff, Nat.reduceLT, Int.reduceEq, Nat.reduceEqDiff, List.map_nil, List.length_nil, List.map_cons, List.length_cons, hd]
      exact fin false _ _ (by simp only [go_sem, List.mem_singleton, forall_eq, List.not_mem_nil, false_imp_iff, implies_true, Int.reduceToNat, Int.reduceLT, decide_true, decide_false, Nat.reduceEqDiff, ↓reduceIte, Nat.reduceAdd, Int.reduceLE, Int.reduceNeg, Nat.reduceLeDiff, Nat.reduceLT, Int.reduceEq, Nat.reduceEqDiff, List.map_nil, List.length_nil, List.map_cons, List.length_cons]) (.push (.refl hwf) _) (by simp)
    | true =>
      simp only [go_sem, List.mem_singleton, forall_eq, List.not_mem_nil, false_imp_iff, implies_true, Int.reduceToNat, Int.reduceLT, decide_true, decide_false, Nat.reduceEqDiff, ↓reduceIte, Nat.reduceAdd, Int.reduceLE, Int.reduceNeg, Nat.reduceLeDiff, Nat.reduceLT, Int.reduceEq, Nat.reduceEqDiff, List.map_nil, List.length_nil, List.map_cons, List.length_cons, hd]
      refine spec51 u hb _ _ fun n n1 n2 => ?_
      cases hn : decide (n ≤ 1024) with
      | false =>
        simp only [go_sem, List.mem_singleton, forall_eq, List.not_mem_nil, false_imp_iff, implies_true, Int.reduceToNat, Int.reduceLT, decide_true, decide_false, Nat.reduceEqDiff, ↓reduceIte, Nat.reduceAdd, Int.reduceLE, Int.reduceNeg, Nat.reduceLeDiff, Nat.reduceLT, Int.reduceEq, Nat.reduceEqDiff, List.map_nil, List.length_nil, List.map_cons, List.length_cons, hn]
        exact fin false _ _ (by simp only [go_sem, List.mem_singleton, forall_eq, List.not_mem_nil, false_imp_iff, implies_true, Int.reduceToNat, Int.reduceLT, decide_true, decide_false, Nat.reduceEqDiff, ↓reduceIte, Nat.reduceAdd, Int.reduceLE, Int.reduceNeg, Nat.reduceLeDiff, Nat.reduceLT, Int.reduceEq, Nat.reduceEqDiff, List.map_nil, List.length_nil, List.map_cons, List.length_cons]) (.push (.refl hwf) _) (by simp)
      | true =>
        simp only [go_sem, List.mem_singleton, forall_eq, List.not_mem_nil, false_imp_iff, implies_true, Int.reduceToNat, Int.reduceLT, decide_true, decide_false, Nat.reduceEqDiff, ↓reduceIte, Nat.reduceAdd, Int.reduceLE, Int.reduceNeg, Nat.reduceLeDiff, Nat.reduceLT, Int.reduceEq, Nat.reduceEqDiff, List.map_nil, List.length_nil, List.map_cons, List.length_cons, hn]
        refine spec52 u hb _ _ ?_
        simp only [go_sem, List.mem_singleton, forall_eq, List.not_mem_nil, false_imp_iff, implies_true, Int.reduceToNat, Int.reduceLT, decide_true, decide_false, Nat.reduceEqDiff, ↓reduceIte, Nat.reduceAdd, Int.reduceLE, Int.reduceNeg, Nat.reduceLeDiff, Nat.reduceLT, Int.reduceEq, Nat.reduceEqDiff, List.map_nil, List.length_nil, List.map_cons, List.length_cons]
        exact fin (idsOkM u) _ _ (by simp only [go_sem, List.mem_singleton, forall_eq, List.not_mem_nil, false_imp_iff, implies_true, Int.reduceToNat, Int.reduceLT, decide_true, decide_false, Nat.reduceEqDiff, ↓reduceIte, Nat.reduceAdd, Int.reduceLE, Int.reduceNeg, Nat.reduceLeDiff, Nat.reduceLT, Int.reduceEq, Nat.reduceEqDiff, List.map_nil, List.length_nil, List.map_cons, List.length_cons]) (.push (.refl hwf) _) fun e => ⟨hr, e⟩
theorem spec19 (u : U) (hb : (every u).length ≤ 1000) (hs : small (every u)) (H : AH) (Q : AV → AH → Prop) (h : ∀ b, (b = true → standsP u) → Q (.bool b) H) : ACalls Try.prog w0 19 [eU u] H Q := by
  refine enter19 (by simp) fun hwf hok R hR hR0 => ?_
  have fin : ∀ b env' H', look 2 env' = .bool b → H.Sub H' → (b = true → standsP u) → R .ret env' H' := fun b env' H' h2 h3 h4 => hR _ _ _ rfl (.same h3 (by rw [h2]; rfl) (by rw [h2]; exact h b h4))
  unfold x19
  simp only [go_sem, List.mem_singleton, forall_eq, List.not_mem_nil, false_imp_iff, implies_true, Int.reduceToNat, Int.reduceLT, decide_true, decide_false, Nat.reduceEqDiff, ↓reduceIte, Nat.reduceAdd, Int.reduceLE, Int.reduceNeg, Nat.reduceLeDiff, Nat.reduceLT, Int.reduceEq, Nat.reduceEqDiff, List.map_nil, List.length_nil, List.map_cons, List.length_cons]
  refine spec30 u hb hs _ _ fun b hri => ?_
  cases b with
  | false =>
    simp only [go_sem, List.mem_singleton, forall_eq, List.not_mem_nil, false_imp_iff, implies_true, Int.reduceToNat, Int.reduceLT, decide_true, decide_false, Nat.reduceEqDiff, ↓reduceIte, Nat.reduceAdd, Int.reduceLE, Int.reduceNeg, Nat.reduceLeDiff, Nat.reduceLT, Int.reduceEq, Nat.reduceEqDiff, List.map_nil, List.length_nil, List.map_cons, List.length_cons]
    exact fin false _ _ (by simp only [go_sem, List.mem_singleton, forall_eq, List.not_mem_nil, false_imp_iff, implies_true, Int.reduceToNat, Int.reduceLT, decide_true, decide_false, Nat.reduceEqDiff, ↓reduceIte, Nat.reduceAdd, Int.reduceLE, Int.reduceNeg, Nat.reduceLeDiff, Nat.reduceLT, Int.reduceEq, Nat.reduceEqDiff, List.map_nil, List.length_nil, List.map_cons, List.length_cons]) (.push (.refl hwf) _) (by simp)
  | true =>
    simp only [go_sem, List.mem_singleton, forall_eq, List.not_mem_nil, false_imp_iff, implies_true, Int.reduceToNat, Int.reduceLT, decide_true, decide_false, Nat.reduceEqDiff, ↓reduceIte, Nat.reduceAdd, Int.reduceLE, Int.reduceNeg, Nat.reduceLeDiff, Nat.reduceLT, Int.reduceEq, Nat.reduceEqDiff, List.map_nil, List.length_nil, List.map_cons, List.length_cons]
    refine spec31 u hb _ _ ?_
    simp only [go_sem, List.mem_singleton, forall_eq, List.not_mem_nil, false_imp_iff, implies_true, Int.reduceToNat, Int.reduceLT, decide_true, decide_false, Nat.reduceEqDiff, ↓reduceIte, Nat.reduceAdd, Int.reduceLE, Int.reduceNeg, Nat.reduceLeDiff, Nat.reduceLT, Int.reduceEq, Nat.reduceEqDiff, List.map_nil, List.length_nil, List.map_cons, List.length_cons]
    exact fin (namedM u) _ _ (by simp only [go_sem, List.mem_singleton, forall_eq, List.not_mem_nil, false_imp_iff, implies_true, Int.reduceToNat, Int.reduceLT, decide_true, decide_false, Nat.reduceEqDiff, ↓reduceIte, Nat.reduceAdd, Int.reduceLE, Int.reduceNeg, Nat.reduceLeDiff, Nat.reduceLT, Int.reduceEq, Nat.reduceEqDiff, List.map_nil, List.length_nil, List.map_cons, List.length_cons]) (.push (.refl hwf) _) fun e => ⟨(hri rfl).1, (hri rfl).2, e⟩
theorem spec48 (l : List Wd) (H : AH) (Q : AV → AH → Prop) (h : ∀ b, (b = true → l.length ≤ 300) → Q (.bool b) H) : ACalls Try.prog w0 48 [.slice (l.map eW)] H Q := by
  refine enter48 (by simp) fun hwf hok R hR hR0 => ?_
  have hlen := (hok (.slice (l.map eW)) (by simp)).slice
  rw [List.length_map] at hlen
  have fin : ∀ b env' H', look 2 env' = .bool b → H.Sub H' → (b = true → l.length ≤ 300) → R .ret env' H' := fun b env' H' h2 h3 h4 => hR _ _ _ rfl (.same h3 (by rw [h2]; rfl) (by rw [h2]; exact h b h4))
  unfold x48
  simp only [go_sem, List.mem_singleton, forall_eq, List.not_mem_nil, false_imp_iff, implies_true, Int.reduceToNat, Int.reduceLT, decide_true, decide_false, Nat.reduceEqDiff, ↓reduceIte, Nat.reduceAdd, Int.reduceLE, Int.reduceNeg, Nat.reduceLeDiff, Nat.reduceLT, Int.reduceEq, Nat.reduceEqDiff, List.map_nil, List.length_nil, List.map_cons, List.length_cons]
  refine AX.iter0 (S := List Wd × List Wd) ttOk (fun a => [(0, .slice (l.map eW)), (3, .int .i64 a.1.length)]) (fun a => a.2.length)
    (fun a => a.1 ++ a.2 = l) ([], l) ?_ rfl ?_
  · simp only [go_sem, List.mem_singleton, forall_eq, List.not_mem_nil, false_imp_iff, implies_true, Int.reduceToNat, Int.reduceLT, decide_true, decide_false, Nat.reduceEqDiff, ↓reduceIte, Nat.reduceAdd, Int.reduceLE, Int.reduceNeg, Nat.reduceLeDiff, Nat.reduceLT, Int.reduceEq, Nat.reduceEqDiff, List.map_nil, List.length_nil, List.map_cons, List.length_cons]
  · rintro ⟨pre, post⟩ h2 hk hwf' K R' hK hQ
    simp only at h2 hK ⊢
    unfold l48_0
    rcases post with _ | ⟨k, ks⟩
    · have hb := ge_of h2 eW
      simp only [go_sem, List.mem_singleton, forall_eq, List.not_mem_nil, false_imp_iff, implies_true, Int.reduceToNat, Int.reduceLT, decide_true, decide_false, Nat.reduceEqDiff, ↓reduceIte, Nat.reduceAdd, Int.reduceLE, Int.reduceNeg, Nat.reduceLeDiff, Nat.reduceLT, Int.reduceEq, Nat.reduceEqDiff, List.map_nil, List.length_nil, List.map_cons, List.length_cons, hb]
      refine hQ _ _ _ ?_
      simp only [go_sem, List.mem_singleton, forall_eq, List.not_mem_nil, false_imp_iff, implies_true, Int.reduceToNat, Int.reduceLT, decide_true, decide_false, Nat.reduceEqDiff, ↓reduceIte, Nat.reduceAdd, Int.reduceLE, Int.reduceNeg, Nat.reduceLeDiff, Nat.reduceLT, Int.reduceEq, Nat.reduceEqDiff, List.map_nil, List.length_nil, List.map_cons, List.length_cons]
      exact fin (decide ((((l.map eW).length : Nat) : Int) ≤ 300)) _ _ (by simp only [go_sem, List.mem_singleton, forall_eq, List.not_mem_nil, false_imp_iff, implies_true, Int.reduceToNat, Int.reduceLT, decide_true, decide_false, Nat.reduceEqDiff, ↓reduceIte, Nat.reduceAdd, Int.reduceLE, Int.reduceNeg, Nat.reduceLeDiff, Nat.reduceLT, Int.reduceEq, Nat.reduceEqDiff, List.map_nil, List.length_nil, List.map_cons, List.length_cons]) (.refl hwf) (by simp; omega)
    · have hb := lt_of h2 eW
      have ha := at_of h2 eW
      have hl := len_of h2
      have hw : IntKind.i64.wrap ((pre.length : Int) + 1) = pre.length + 1 := wrap_i64.2 (by omega)
      simp only [go_sem, List.mem_singleton, forall_eq, List.not_mem_nil, false_imp_iff, implies_true, Int.reduceToNat, Int.reduceLT, decide_true, decide_false, Nat.reduceEqDiff, ↓reduceIte, Nat.reduceAdd, Int.reduceLE, Int.reduceNeg, Nat.reduceLeDiff, Nat.reduceLT, Int.reduceEq, Nat.reduceEqDiff, List.map_nil, List.length_nil, List.map_cons, List.length_cons, hb, ha, hw]
      refine ⟨by omega, fun _ => ?_, fun _ => ?_⟩
      · refine hQ _ _ _ ?_
        simp only [go_sem, List.mem_singleton, forall_eq, List.not_mem_nil, false_imp_iff, implies_true, Int.reduceToNat, Int.reduceLT, decide_true, decide_false, Nat.reduceEqDiff, ↓reduceIte, Nat.reduceAdd, Int.reduceLE, Int.reduceNeg, Nat.reduceLeDiff, Nat.reduceLT, Int.reduceEq, Nat.reduceEqDiff, List.map_nil, List.length_nil, List.map_cons, List.length_cons]
        exact fin false _ _ (by simp only [go_sem, List.mem_singleton, forall_eq, List.not_mem_nil, false_imp_iff, implies_true, Int.reduceToNat, Int.reduceLT, decide_true, decide_false, Nat.reduceEqDiff, ↓reduceIte, Nat.reduceAdd, Int.reduceLE, Int.reduceNeg, Nat.reduceLeDiff, Nat.reduceLT, Int.reduceEq, Nat.reduceEqDiff, List.map_nil, List.length_nil, List.map_cons, List.length_cons]) (.refl hwf) (by simp)
      · refine hK _ _ (pre ++ [k], ks) (by simp) (snoc_of h2) (.refl hwf') ?_
        simp only [go_sem, List.mem_singleton, forall_eq, List.not_mem_nil, false_imp_iff, implies_true, Int.reduceToNat, Int.reduceLT, decide_true, decide_false, Nat.reduceEqDiff, ↓reduceIte, Nat.reduceAdd, Int.reduceLE, Int.reduceNeg, Nat.reduceLeDiff, Nat.reduceLT, Int.reduceEq, Nat.reduceEqDiff, List.map_nil, List.length_nil, List.map_cons, List.length_cons, len_snoc]
theorem spec29 (u : U) (H : AH) (Q : AV → AH → Prop) (h : ∀ b, (b = true → small (every u)) → Q (.bool b) H) : ACalls Try.prog w0 29 [eU u] H Q := by
  refine enter29 (by simp) fun hwf hok R hR hR0 => ?_
  have hu := U.good (hok (eU u) (by simp))
  have hkl := hu.kids
  have fin : ∀ b env' H', look 2 env' = .bool b → H.Sub H' → (b = true → small (every u)) → R .ret env' H' := fun b env' H' h2 h3 h4 => hR _ _ _ rfl (.same h3 (by rw [h2]; rfl) (by rw [h2]; exact h b h4))
  unfold x29
  cases h30 : decide (30 < ((u.label.size : Nat) : Int)) with
  | true =>
    simp only [go_sem, List.mem_singleton, forall_eq, List.not_mem_nil, false_imp_iff, implies_true, Int.reduceToNat, Int.reduceLT, decide_true, decide_false, Nat.reduceEqDiff, ↓reduceIte, Nat.reduceAdd, Int.reduceLE, Int.reduceNeg, Nat.reduceLeDiff, Nat.reduceLT, Int.reduceEq, Nat.reduceEqDiff, List.map_nil, List.length_nil, List.map_cons, List.length_cons, h30]
    exact fin false _ _ (by simp only [go_sem, List.mem_singleton, forall_eq, List.not_mem_nil, false_imp_iff, implies_true, Int.reduceToNat, Int.reduceLT, decide_true, decide_false, Nat.reduceEqDiff, ↓reduceIte, Nat.reduceAdd, Int.reduceLE, Int.reduceNeg, Nat.reduceLeDiff, Nat.reduceLT, Int.reduceEq, Nat.reduceEqDiff, List.map_nil, List.length_nil, List.map_cons, List.length_cons]) (.push (.refl hwf) _) (by simp)
  | false =>
    simp only [go_sem, List.mem_singleton, forall_eq, List.not_mem_nil, false_imp_iff, implies_true, Int.reduceToNat, Int.reduceLT, decide_true, decide_false, Nat.reduceEqDiff, ↓reduceIte, Nat.reduceAdd, Int.reduceLE, Int.reduceNeg, Nat.reduceLeDiff, Nat.reduceLT, Int.reduceEq, Nat.reduceEqDiff, List.map_nil, List.length_nil, List.map_cons, List.length_cons, h30]
    refine spec48 u.head _ _ fun b1 hb1 => ?_
    cases b1 with
    | false =>
      simp only [go_sem, List.mem_singleton, forall_eq, List.not_mem_nil, false_imp_iff, implies_true, Int.reduceToNat, Int.reduceLT, decide_true, decide_false, Nat.reduceEqDiff, ↓reduceIte, Nat.reduceAdd, Int.reduceLE, Int.reduceNeg, Nat.reduceLeDiff, Nat.reduceLT, Int.reduceEq, Nat.reduceEqDiff, List.map_nil, List.length_nil, List.map_cons, List.length_cons, Bool.not_false]
      exact fin false _ _ (by simp only [go_sem, List.mem_singleton, forall_eq, List.not_mem_nil, false_imp_iff, implies_true, Int.reduceToNat, Int.reduceLT, decide_true, decide_false, Nat.reduceEqDiff, ↓reduceIte, Nat.reduceAdd, Int.reduceLE, Int.reduceNeg, Nat.reduceLeDiff, Nat.reduceLT, Int.reduceEq, Nat.reduceEqDiff, List.map_nil, List.length_nil, List.map_cons, List.length_cons]) (.push (.refl hwf) _) (by simp)
    | true =>
      simp only [go_sem, List.mem_singleton, forall_eq, List.not_mem_nil, false_imp_iff, implies_true, Int.reduceToNat, Int.reduceLT, decide_true, decide_false, Nat.reduceEqDiff, ↓reduceIte, Nat.reduceAdd, Int.reduceLE, Int.reduceNeg, Nat.reduceLeDiff, Nat.reduceLT, Int.reduceEq, Nat.reduceEqDiff, List.map_nil, List.length_nil, List.map_cons, List.length_cons, Bool.not_true]
      refine spec48 u.words _ _ fun b2 hb2 => ?_
      cases b2 with
      | false =>
        simp only [go_sem, List.mem_singleton, forall_eq, List.not_mem_nil, false_imp_iff, implies_true, Int.reduceToNat, Int.reduceLT, decide_true, decide_false, Nat.reduceEqDiff, ↓reduceIte, Nat.reduceAdd, Int.reduceLE, Int.reduceNeg, Nat.reduceLeDiff, Nat.reduceLT, Int.reduceEq, Nat.reduceEqDiff, List.map_nil, List.length_nil, List.map_cons, List.length_cons, Bool.not_false]
        exact fin false _ _ (by simp only [go_sem, List.mem_singleton, forall_eq, List.not_mem_nil, false_imp_iff, implies_true, Int.reduceToNat, Int.reduceLT, decide_true, decide_false, Nat.reduceEqDiff, ↓reduceIte, Nat.reduceAdd, Int.reduceLE, Int.reduceNeg, Nat.reduceLeDiff, Nat.reduceLT, Int.reduceEq, Nat.reduceEqDiff, List.map_nil, List.length_nil, List.map_cons, List.length_cons]) (.push (.refl hwf) _) (by simp)
      | true =>
        simp only [go_sem, List.mem_singleton, forall_eq, List.not_mem_nil, false_imp_iff, implies_true, Int.reduceToNat, Int.reduceLT, decide_true, decide_false, Nat.reduceEqDiff, ↓reduceIte, Nat.reduceAdd, Int.reduceLE, Int.reduceNeg, Nat.reduceLeDiff, Nat.reduceLT, Int.reduceEq, Nat.reduceEqDiff, List.map_nil, List.length_nil, List.map_cons, List.length_cons, Bool.not_true]
        have g1 := hb1 rfl
        have g2 := hb2 rfl
        refine AX.iter (S := List U × List U) ttOk (fun a => [(1, .ptr H.n 0), (3, .int .i64 a.1.length)]) (fun a => H.push (.cells u.cs 27)) (fun a => a.2.length)
          (fun a => a.1 ++ a.2 = u.kids ∧ small (everyL a.1)) ([], u.kids) ?_ rfl ⟨rfl, by intro x hx; cases hx⟩ ?_
        · simp only [go_sem, List.mem_singleton, forall_eq, List.not_mem_nil, false_imp_iff, implies_true, Int.reduceToNat, Int.reduceLT, decide_true, decide_false, Nat.reduceEqDiff, ↓reduceIte, Nat.reduceAdd, Int.reduceLE, Int.reduceNeg, Nat.reduceLeDiff, Nat.reduceLT, Int.reduceEq, Nat.reduceEqDiff, List.map_nil, List.length_nil, List.map_cons, List.length_cons]
        · rintro ⟨pre, post⟩ ⟨h2, h3⟩ hk hwf' K R' hK hQ
          simp only at h2 h3 hK ⊢
          unfold l29_0
          rcases post with _ | ⟨k, ks⟩
          · have hb := ge_of h2 eU
            simp only [go_sem, List.mem_singleton, forall_eq, List.not_mem_nil, false_imp_iff, implies_true, Int.reduceToNat, Int.reduceLT, decide_true, decide_false, Nat.reduceEqDiff, ↓reduceIte, Nat.reduceAdd, Int.reduceLE, Int.reduceNeg, Nat.reduceLeDiff, Nat.reduceLT, Int.reduceEq, Nat.reduceEqDiff, List.map_nil, List.length_nil, List.map_cons, List.length_cons, U.cs, hb]
            refine hQ _ _ _ ?_
            simp only [go_sem, List.mem_singleton, forall_eq, List.not_mem_nil, false_imp_iff, implies_true, Int.reduceToNat, Int.reduceLT, decide_true, decide_false, Nat.reduceEqDiff, ↓reduceIte, Nat.reduceAdd, Int.reduceLE, Int.reduceNeg, Nat.reduceLeDiff, Nat.reduceLT, Int.reduceEq, Nat.reduceEqDiff, List.map_nil, List.length_nil, List.map_cons, List.length_cons]
            refine fin true _ _ (by simp only [go_sem, List.mem_singleton, forall_eq, List.not_mem_nil, false_imp_iff, implies_true, Int.reduceToNat, Int.reduceLT, decide_true, decide_false, Nat.reduceEqDiff, ↓reduceIte, Nat.reduceAdd, Int.reduceLE, Int.reduceNeg, Nat.reduceLeDiff, Nat.reduceLT, Int.reduceEq, Nat.reduceEqDiff, List.map_nil, List.length_nil, List.map_cons, List.length_cons]) (.push (.refl hwf) _) fun _ => ?_
            rw [List.append_nil] at h2
            rw [every_eq, ← h2]
            intro x hx
            rcases List.mem_cons.1 hx with rfl | hx
            · omega
            · exact h3 x hx
          · have hb'' := lt_of h2 eU
            have ha := at_of h2 eU
            have hl := len_of h2
            have hw : IntKind.i64.wrap ((pre.length : Int) + 1) = pre.length + 1 := wrap_i64.2 (by omega)
            simp only [go_sem, List.mem_singleton, forall_eq, List.not_mem_nil, false_imp_iff, implies_true, Int.reduceToNat, Int.reduceLT, decide_true, decide_false, Nat.reduceEqDiff, ↓reduceIte, Nat.reduceAdd, Int.reduceLE, Int.reduceNeg, Nat.reduceLeDiff, Nat.reduceLT, Int.reduceEq, Nat.reduceEqDiff, List.map_nil, List.length_nil, List.map_cons, List.length_cons, U.cs, hb'', ha, hw]
            refine ⟨by omega, ?_⟩
            refine spec29 k _ _ fun b hb => ?_
            cases b with
            | true =>
              simp only [go_sem, List.mem_singleton, forall_eq, List.not_mem_nil, false_imp_iff, implies_true, Int.reduceToNat, Int.reduceLT, decide_true, decide_false, Nat.reduceEqDiff, ↓reduceIte, Nat.reduceAdd, Int.reduceLE, Int.reduceNeg, Nat.reduceLeDiff, Nat.reduceLT, Int.reduceEq, Nat.reduceEqDiff, List.map_nil, List.length_nil, List.map_cons, List.length_cons, Bool.not_true, hw]
              refine hK _ _ (pre ++ [k], ks) (by simp) ⟨snoc_of h2, ?_⟩ (.refl hwf') (Nat.le_refl _) (Nat.le_refl _) ?_
              · intro x hx
                rw [everyL_snoc] at hx
                rcases List.mem_append.1 hx with hx | hx
                · exact h3 x hx
                · exact hb rfl x hx
              · simp only [go_sem, List.mem_singleton, forall_eq, List.not_mem_nil, false_imp_iff, implies_true, Int.reduceToNat, Int.reduceLT, decide_true, decide_false, Nat.reduceEqDiff, ↓reduceIte, Nat.reduceAdd, Int.reduceLE, Int.reduceNeg, Nat.reduceLeDiff, Nat.reduceLT, Int.reduceEq, Nat.reduceEqDiff, List.map_nil, List.length_nil, List.map_cons, List.length_cons, len_snoc]
                simp
            | false =>
              simp only [go_sem, List.mem_singleton, forall_eq, List.not_mem_nil, false_imp_iff, implies_true, Int.reduceToNat, Int.reduceLT, decide_true, decide_false, Nat.reduceEqDiff, ↓reduceIte, Nat.reduceAdd, Int.reduceLE, Int.reduceNeg, Nat.reduceLeDiff, Nat.reduceLT, Int.reduceEq, Nat.reduceEqDiff, List.map_nil, List.length_nil, List.map_cons, List.length_cons, Bool.not_false]
              refine hQ _ _ _ ?_
              simp only [go_sem, List.mem_singleton, forall_eq, List.not_mem_nil, false_imp_iff, implies_true, Int.reduceToNat, Int.reduceLT, decide_true, decide_false, Nat.reduceEqDiff, ↓reduceIte, Nat.reduceAdd, Int.reduceLE, Int.reduceNeg, Nat.reduceLeDiff, Nat.reduceLT, Int.reduceEq, Nat.reduceEqDiff, List.map_nil, List.length_nil, List.map_cons, List.length_cons]
              exact fin false _ _ (by simp only [go_sem, List.mem_singleton, forall_eq, List.not_mem_nil, false_imp_iff, implies_true, Int.reduceToNat, Int.reduceLT, decide_true, decide_false, Nat.reduceEqDiff, ↓reduceIte, Nat.reduceAdd, Int.reduceLE, Int.reduceNeg, Nat.reduceLeDiff, Nat.reduceLT, Int.reduceEq, Nat.reduceEqDiff, List.map_nil, List.length_nil, List.map_cons, List.length_cons]) (.push (.refl hwf) _) (by simp)
termination_by SizeOf.sizeOf u
decreasing_by exact kid_lt (mem_of h2)
theorem spec18 (u : U) (H : AH) (Q : AV → AH → Prop) (h : ∀ b, (b = true → (every u).length ≤ 30 ∧ small (every u)) → Q (.bool b) H) : ACalls Try.prog w0 18 [eU u, .int .i64 30] H Q := by
  refine enter18 (by simp) fun hwf hok R hR hR0 => ?_
  have fin : ∀ b env' H', look 4 env' = .bool b → H.Sub H' → (b = true → (every u).length ≤ 30 ∧ small (every u)) → R .ret env' H' := fun b env' H' h2 h3 h4 => hR _ _ _ rfl (.same h3 (by rw [h2]; rfl) (by rw [h2]; exact h b h4))
  unfold x18
  simp only [go_sem, List.mem_singleton, forall_eq, List.not_mem_nil, false_imp_iff, implies_true, Int.reduceToNat, Int.reduceLT, decide_true, decide_false, Nat.reduceEqDiff, ↓reduceIte, Nat.reduceAdd, Int.reduceLE, Int.reduceNeg, Nat.reduceLeDiff, Nat.reduceLT, Int.reduceEq, Nat.reduceEqDiff, List.map_nil, List.length_nil, List.map_cons, List.length_cons]
  refine spec28 u 0 30 (by omega) (by omega) (by omega) (by omega) _ _ ?_
  cases hd : decide (sizeM u 0 30 ≤ 30) with
  | false =>
    simp only [go_sem, List.mem_singleton, forall_eq, List.not_mem_nil, false_imp_iff, implies_true, Int.reduceToNat, Int.reduceLT, decide_true, decide_false, Nat.reduceEqDiff, ↓reduceIte, Nat.reduceAdd, Int.reduceLE, Int.reduceNeg, Nat.reduceLeDiff, Nat.reduceLT, Int.reduceEq, Nat.reduceEqDiff, List.map_nil, List.length_nil, List.map_cons, List.length_cons, hd]
    exact fin false _ _ (by simp only [go_sem, List.mem_singleton, forall_eq, List.not_mem_nil, false_imp_iff, implies_true, Int.reduceToNat, Int.reduceLT, decide_true, decide_false, Nat.reduceEqDiff, ↓reduceIte, Nat.reduceAdd, Int.reduceLE, Int.reduceNeg, Nat.reduceLeDiff, Nat.reduceLT, Int.reduceEq, Nat.reduceEqDiff, List.map_nil, List.length_nil, List.map_cons, List.length_cons]) (.push (.refl hwf) _) (by simp)
  | true =>
    simp only [go_sem, List.mem_singleton, forall_eq, List.not_mem_nil, false_imp_iff, implies_true, Int.reduceToNat, Int.reduceLT, decide_true, decide_false, Nat.reduceEqDiff, ↓reduceIte, Nat.reduceAdd, Int.reduceLE, Int.reduceNeg, Nat.reduceLeDiff, Nat.reduceLT, Int.reduceEq, Nat.reduceEqDiff, List.map_nil, List.length_nil, List.map_cons, List.length_cons, hd]
    refine spec29 u _ _ fun b hb => ?_
    simp only [go_sem, List.mem_singleton, forall_eq, List.not_mem_nil, false_imp_iff, implies_true, Int.reduceToNat, Int.reduceLT, decide_true, decide_false, Nat.reduceEqDiff, ↓reduceIte, Nat.reduceAdd, Int.reduceLE, Int.reduceNeg, Nat.reduceLeDiff, Nat.reduceLT, Int.reduceEq, Nat.reduceEqDiff, List.map_nil, List.length_nil, List.map_cons, List.length_cons]
    refine fin b _ _ (by simp only [go_sem, List.mem_singleton, forall_eq, List.not_mem_nil, false_imp_iff, implies_true, Int.reduceToNat, Int.reduceLT, decide_true, decide_false, Nat.reduceEqDiff, ↓reduceIte, Nat.reduceAdd, Int.reduceLE, Int.reduceNeg, Nat.reduceLeDiff, Nat.reduceLT, Int.reduceEq, Nat.reduceEqDiff, List.map_nil, List.length_nil, List.map_cons, List.length_cons]) (.push (.refl hwf) _) fun e => ?_
    have h1 : sizeM u 0 30 ≤ 30 := by simpa using hd
    have h2 := sizeM_every u 0 30 h1
    exact ⟨by omega, hb e⟩
theorem spec7 (u : U) (H : AH) (Q : AV → AH → Prop) (h : ∀ b, (b = true → (every u).length ≤ 30 ∧ small (every u) ∧ standsP u) → Q (.bool b) H) : ACalls Try.prog w0 7 [eU u] H Q := by
  refine enter7 (by simp) fun hwf hok R hR hR0 => ?_
  have fin : ∀ b env' H', look 2 env' = .bool b → H.Sub H' → (b = true → (every u).length ≤ 30 ∧ small (every u) ∧ standsP u) → R .ret env' H' := fun b env' H' h2 h3 h4 => hR _ _ _ rfl (.same h3 (by rw [h2]; rfl) (by rw [h2]; exact h b h4))
  unfold x7
  simp only [go_sem, List.mem_singleton, forall_eq, List.not_mem_nil, false_imp_iff, implies_true, Int.reduceToNat, Int.reduceLT, decide_true, decide_false, Nat.reduceEqDiff, ↓reduceIte, Nat.reduceAdd, Int.reduceLE, Int.reduceNeg, Nat.reduceLeDiff, Nat.reduceLT, Int.reduceEq, Nat.reduceEqDiff, List.map_nil, List.length_nil, List.map_cons, List.length_cons]
  refine spec18 u _ _ fun b hb => ?_
  cases b with
  | false =>
    simp only [go_sem, List.mem_singleton, forall_eq, List.not_mem_nil, false_imp_iff, implies_true, Int.reduceToNat, Int.reduceLT, decide_true, decide_false, Nat.reduceEqDiff, ↓reduceIte, Nat.reduceAdd, Int.reduceLE, Int.reduceNeg, Nat.reduceLeDiff, Nat.reduceLT, Int.reduceEq, Nat.reduceEqDiff, List.map_nil, List.length_nil, List.map_cons, List.length_cons]
    exact fin false _ _ (by simp only [go_sem, List.mem_singleton, forall_eq, List.not_mem_nil, false_imp_iff, implies_true, Int.reduceToNat, Int.reduceLT, decide_true, decide_false, Nat.reduceEqDiff, ↓reduceIte, Nat.reduceAdd, Int.reduceLE, Int.reduceNeg, Nat.reduceLeDiff, Nat.reduceLT, Int.reduceEq, Nat.reduceEqDiff, List.map_nil, List.length_nil, List.map_cons, List.length_cons]) (.push (.refl hwf) _) (by simp)
  | true =>
    simp only [go_sem, List.mem_singleton, forall_eq, List.not_mem_nil, false_imp_iff, implies_true, Int.reduceToNat, Int.reduceLT, decide_true, decide_false, Nat.reduceEqDiff, ↓reduceIte, Nat.reduceAdd, Int.reduceLE, Int.reduceNeg, Nat.reduceLeDiff, Nat.reduceLT, Int.reduceEq, Nat.reduceEqDiff, List.map_nil, List.length_nil, List.map_cons, List.length_cons]
    have h1 := hb rfl
    refine spec19 u (by omega) h1.2 _ _ fun b hst => ?_
    simp only [go_sem, List.mem_singleton, forall_eq, List.not_mem_nil, false_imp_iff, implies_true, Int.reduceToNat, Int.reduceLT, decide_true, decide_false, Nat.reduceEqDiff, ↓reduceIte, Nat.reduceAdd, Int.reduceLE, Int.reduceNeg, Nat.reduceLeDiff, Nat.reduceLT, Int.reduceEq, Nat.reduceEqDiff, List.map_nil, List.length_nil, List.map_cons, List.length_cons]
    exact fin b _ _ (by simp only [go_sem, List.mem_singleton, forall_eq, List.not_mem_nil, false_imp_iff, implies_true, Int.reduceToNat, Int.reduceLT, decide_true, decide_false, Nat.reduceEqDiff, ↓reduceIte, Nat.reduceAdd, Int.reduceLE, Int.reduceNeg, Nat.reduceLeDiff, Nat.reduceLT, Int.reduceEq, Nat.reduceEqDiff, List.map_nil, List.length_nil, List.map_cons, List.length_cons]) (.push (.refl hwf) _) fun e => ⟨h1.1, h1.2, hst e⟩
end Go.Ai.Try
