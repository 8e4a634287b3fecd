/- A part of the proof: no statement of the seat is proved in this text. -/
import Derived.Test.YtcphpaeebaacgaaStr
set_option linter.unusedVariables false
set_option linter.unusedSimpArgs false
namespace Go.Ai
open Go
def isBook (s : Step) : Bool := decide (s.kind = 0) && decide (s.label = ⟨#[]⟩)
def isAt (u : U) (s : Step) : Bool := decide (u.kind = s.kind) && decide (u.label = s.label)
def stepOk (s : Step) : Bool := decide (1 ≤ s.kind) && decide (s.kind ≤ 7) && labelOk s.label
def stepsOk (l : List Step) : Bool := match l with | [] => true | s :: r => (isBook s || stepOk s) && r.all stepOk
def addrOk (l : List Step) : Bool := decide (l.length ≤ 9) && stepsOk l
/-! Every unit of the tree, in the order of the text. -/
mutual
def every : U → List U
  | ⟨a, b, c, d, e, kids⟩ => ⟨a, b, c, d, e, kids⟩ :: everyL kids
def everyL : List U → List U
  | [] => []
  | k :: ks => every k ++ everyL ks
end
theorem every_eq (u : U) : every u = u :: everyL u.kids := by cases u; rfl
theorem everyL_append (a b : List U) : everyL (a ++ b) = everyL a ++ everyL b := by
  induction a with
  | nil => rfl
  | cons k a ih => simp [everyL, ih]
theorem everyL_snoc (a : List U) (k : U) : everyL (a ++ [k]) = everyL a ++ every k := by rw [everyL_append]; simp [everyL]
end Go.Ai
namespace Go.Ai.Try
open Go Go.Ai Go.Proofs
variable {w0 : World}

theorem spec42 (s : Step) (H : AH) (Q : AV → AH → Prop) (h : Q (.bool (isBook s)) H) : ACalls Try.prog w0 42 [eS s] H Q := by
  refine enter42 (by simp) fun hwf hok R hR hR0 => ?_
  unfold x42
  simp only [go_sem, List.mem_singleton, forall_eq, List.not_mem_nil, false_imp_iff, implies_true, Int.reduceToNat, Int.reduceLT, decide_true, decide_false, Nat.reduceEqDiff, ↓reduceIte, Nat.reduceAdd, Int.reduceLE, Int.reduceNeg, Nat.reduceLeDiff, Nat.reduceLT]
  simp only [decide_eq_true_eq, decide_eq_false_iff_not]
  refine ⟨fun h1 => ?_, fun h1 => ?_⟩
  · refine hR _ _ _ rfl (.same (.push (.refl hwf) _) rfl ?_)
    simp only [look]; simp
    have e : isBook s = decide (s.label = ⟨#[]⟩) := by simp [isBook, h1]
    rw [← e]; exact h
  · refine hR _ _ _ rfl (.same (.push (.refl hwf) _) rfl ?_)
    simp only [look]; simp
    have e : isBook s = false := by simp [isBook, h1]
    rw [← e]; exact h
theorem spec55 (s : Step) (H : AH) (Q : AV → AH → Prop) (h : Q (.bool (isBook s)) H) : ACalls Try.prog w0 55 [eS s] H Q := by
  refine enter55 (by simp) fun hwf hok R hR hR0 => ?_
  unfold x55
  simp only [go_sem, List.mem_singleton, forall_eq, List.not_mem_nil, false_imp_iff, implies_true, Int.reduceToNat, Int.reduceLT, decide_true, decide_false, Nat.reduceEqDiff, ↓reduceIte, Nat.reduceAdd, Int.reduceLE, Int.reduceNeg, Nat.reduceLeDiff, Nat.reduceLT]
  simp only [decide_eq_true_eq, decide_eq_false_iff_not]
  refine ⟨fun h1 => ?_, fun h1 => ?_⟩
  · refine hR _ _ _ rfl (.same (.push (.refl hwf) _) rfl ?_)
    simp only [look]; simp
    have e : isBook s = decide (s.label = ⟨#[]⟩) := by simp [isBook, h1]
    rw [← e]; exact h
  · refine hR _ _ _ rfl (.same (.push (.refl hwf) _) rfl ?_)
    simp only [look]; simp
    have e : isBook s = false := by simp [isBook, h1]
    rw [← e]; exact h
theorem spec44 (u : U) (s : Step) (H : AH) (Q : AV → AH → Prop) (h : Q (.bool (isAt u s)) H) : ACalls Try.prog w0 44 [eU u, eS s] H Q := by
  refine enter44 (by simp) fun hwf hok R hR hR0 => ?_
  unfold x44
  simp only [go_sem, List.mem_singleton, forall_eq, List.not_mem_nil, false_imp_iff, implies_true, Int.reduceToNat, Int.reduceLT, decide_true, decide_false, Nat.reduceEqDiff, ↓reduceIte, Nat.reduceAdd, Int.reduceLE, Int.reduceNeg, Nat.reduceLeDiff, Nat.reduceLT]
  simp only [decide_eq_true_eq, decide_eq_false_iff_not]
  refine ⟨fun h1 => ?_, fun h1 => ?_⟩
  · refine hR _ _ _ rfl (.same (.push (.push (.refl hwf) _) _) rfl ?_)
    simp only [look]; simp
    have e : isAt u s = decide (u.label = s.label) := by simp [isAt, h1]
    rw [← e]; exact h
  · refine hR _ _ _ rfl (.same (.push (.push (.refl hwf) _) _) rfl ?_)
    simp only [look]; simp
    have e : isAt u s = false := by simp [isAt, h1]
    rw [← e]; exact h
theorem spec58 (u : U) (s : Step) (H : AH) (Q : AV → AH → Prop) (h : Q (.bool (isAt u s)) H) : ACalls Try.prog w0 58 [eU u, eS s] H Q := by
  refine enter58 (by simp) fun hwf hok R hR hR0 => ?_
  unfold x58
  simp only [go_sem, List.mem_singleton, forall_eq, List.not_mem_nil, false_imp_iff, implies_true, Int.reduceToNat, Int.reduceLT, decide_true, decide_false, Nat.reduceEqDiff, ↓reduceIte, Nat.reduceAdd, Int.reduceLE, Int.reduceNeg, Nat.reduceLeDiff, Nat.reduceLT]
  simp only [decide_eq_true_eq, decide_eq_false_iff_not]
  refine ⟨fun h1 => ?_, fun h1 => ?_⟩
  · refine hR _ _ _ rfl (.same (.push (.push (.refl hwf) _) _) rfl ?_)
    simp only [look]; simp
    have e : isAt u s = decide (u.label = s.label) := by simp [isAt, h1]
    rw [← e]; exact h
  · refine hR _ _ _ rfl (.same (.push (.push (.refl hwf) _) _) rfl ?_)
    simp only [look]; simp
    have e : isAt u s = false := by simp [isAt, h1]
    rw [← e]; exact h

theorem spec43 (u : U) (hb : (every u).length ≤ 1000000) (H : AH) (Q : AV → AH → Prop) (h : Q (.slice ((every u).map eU)) H) : ACalls Try.prog w0 43 [eU u] H Q := by
  refine enter43 (by simp) fun hwf hok R hR hR0 => ?_
  have hu := U.good (hok (eU u) (by simp))
  have hlen := hu.kids
  rw [every_eq] at hb h
  have hb' := hb
  simp only [List.length_cons] at hb'
  unfold x43
  simp only [go_sem, List.mem_singleton, forall_eq, List.not_mem_nil, false_imp_iff, implies_true, Int.reduceToNat, Int.reduceLT, decide_true, decide_false, Nat.reduceEqDiff, ↓reduceIte, Nat.reduceAdd, Int.reduceLE, Int.reduceNeg, Nat.reduceLeDiff, Nat.reduceLT]
  refine ⟨by decide, ?_⟩
  refine AX.iter (S := List U × List U) ttOk (fun s => [(1, .ptr H.n 0), (3, .own ((u :: everyL s.1).map eU) H.m), (4, .int .i64 s.1.length)]) (fun s => (H.push (.cells u.cs 27)).pushTok ⟨((u :: everyL s.1).map eU).length, 27, 8⟩) (fun s => s.2.length)
    (fun s => s.1 ++ s.2 = u.kids) ([], u.kids) ?_ rfl rfl ?_
  · simp only [go_sem, List.mem_singleton, forall_eq, List.not_mem_nil, false_imp_iff, implies_true, Int.reduceToNat, Int.reduceLT, decide_true, decide_false, Nat.reduceEqDiff, ↓reduceIte, Nat.reduceAdd, Int.reduceLE, Int.reduceNeg, Nat.reduceLeDiff, Nat.reduceLT, everyL]
    exact Weak_of rfl
  · rintro ⟨pre, post⟩ h2 hk hwf' K R' hK hQ
    simp only at h2 hK ⊢
    unfold l43_0
    rcases post with _ | ⟨k, ks⟩
    · have hb := ge_of h2 eU
      simp only [go_sem, List.mem_singleton, forall_eq, List.not_mem_nil, false_imp_iff, implies_true, Int.reduceToNat, Int.reduceLT, decide_true, decide_false, Nat.reduceEqDiff, ↓reduceIte, Nat.reduceAdd, Int.reduceLE, Int.reduceNeg, Nat.reduceLeDiff, Nat.reduceLT, U.cs, hb]
      refine hQ _ _ _ ?_
      simp only [go_sem, List.mem_singleton, forall_eq, List.not_mem_nil, false_imp_iff, implies_true, Int.reduceToNat, Int.reduceLT, decide_true, decide_false, Nat.reduceEqDiff, ↓reduceIte, Nat.reduceAdd, Int.reduceLE, Int.reduceNeg, Nat.reduceLeDiff, Nat.reduceLT]
      refine hR _ _ _ rfl (.forget (.pushTok (.push (.refl hwf) _) _) ?_ ?_)
      · simp only [go_sem, List.mem_singleton, forall_eq, List.not_mem_nil, false_imp_iff, implies_true, Int.reduceToNat, Int.reduceLT, decide_true, decide_false, Nat.reduceEqDiff, ↓reduceIte, Nat.reduceAdd, Int.reduceLE, Int.reduceNeg, Nat.reduceLeDiff, Nat.reduceLT, AV.forget]
      · simp only [go_sem, List.mem_singleton, forall_eq, List.not_mem_nil, false_imp_iff, implies_true, Int.reduceToNat, Int.reduceLT, decide_true, decide_false, Nat.reduceEqDiff, ↓reduceIte, Nat.reduceAdd, Int.reduceLE, Int.reduceNeg, Nat.reduceLeDiff, Nat.reduceLT, AV.forget]
        rw [List.append_nil] at h2
        rw [h2]; exact h
    · have hb := lt_of h2 eU
      have ha := at_of h2 eU
      have hl := len_of h2
      have hsum : everyL u.kids = everyL pre ++ (every k ++ everyL ks) := by rw [← h2, everyL_append]; rfl
      rw [hsum, List.length_append, List.length_append] at hb'
      simp only [go_sem, List.mem_singleton, forall_eq, List.not_mem_nil, false_imp_iff, implies_true, Int.reduceToNat, Int.reduceLT, decide_true, decide_false, Nat.reduceEqDiff, ↓reduceIte, Nat.reduceAdd, Int.reduceLE, Int.reduceNeg, Nat.reduceLeDiff, Nat.reduceLT, U.cs, hb, ha]
      refine ⟨by omega, ?_⟩
      refine spec43 k (by omega) _ _ ?_
      simp only [go_sem, List.mem_singleton, forall_eq, List.not_mem_nil, false_imp_iff, implies_true, Int.reduceToNat, Int.reduceLT, decide_true, decide_false, Nat.reduceEqDiff, ↓reduceIte, Nat.reduceAdd, Int.reduceLE, Int.reduceNeg, Nat.reduceLeDiff, Nat.reduceLT]
      refine ⟨elem_eU _, ⟨by simp; omega, by simp; omega⟩, ?_⟩
      rw [wrap_i64.2 (by omega)]
      refine hK _ _ (pre ++ [k], ks) (by simp) (snoc_of h2) ?_ (Nat.le_refl _) (Nat.le_refl _) ?_
      · simp only [go_sem, List.mem_singleton, forall_eq, List.not_mem_nil, false_imp_iff, implies_true, Int.reduceToNat, Int.reduceLT, decide_true, decide_false, Nat.reduceEqDiff, ↓reduceIte, Nat.reduceAdd, Int.reduceLE, Int.reduceNeg, Nat.reduceLeDiff, Nat.reduceLT, U.cs, everyL_snoc, List.map_append]
        refine .refl (WF_pushTok (WF_push_cells hwf _ _ ?_) _)
        simp only [go_sem, List.mem_singleton, forall_eq, List.not_mem_nil, false_imp_iff, implies_true, Int.reduceToNat, Int.reduceLT, decide_true, decide_false, Nat.reduceEqDiff, ↓reduceIte, Nat.reduceAdd, Int.reduceLE, Int.reduceNeg, Nat.reduceLeDiff, Nat.reduceLT]
      · simp only [go_sem, List.mem_singleton, forall_eq, List.not_mem_nil, false_imp_iff, implies_true, Int.reduceToNat, Int.reduceLT, decide_true, decide_false, Nat.reduceEqDiff, ↓reduceIte, Nat.reduceAdd, Int.reduceLE, Int.reduceNeg, Nat.reduceLeDiff, Nat.reduceLT, everyL_snoc, List.map_append, len_snoc]
        simp
termination_by SizeOf.sizeOf u
decreasing_by exact kid_lt (mem_of h2)
end Go.Ai.Try
