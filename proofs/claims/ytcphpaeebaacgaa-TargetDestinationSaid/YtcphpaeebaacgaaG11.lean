/- A part of the proof: no statement of the seat is proved in this text. -/
import Derived.Test.YtcphpaeebaacgaaAnc
set_option linter.unusedVariables false
set_option linter.unusedSimpArgs false
set_option maxRecDepth 20000
namespace Go.Ai.Try
open Go Go.Ai Go.Proofs
variable {w0 : World}
theorem spec63 (l : List Id) (id : Id) (hlen : l.length ≤ 1000000) (H : AH) (Q : AV → AH → Prop) (h : ∀ n : Int, decide (0 ≤ n) = decide (id ∈ l) → Q (.int .i64 n) H) : ACalls Try.prog w0 63 [.slice (l.map eId), eId id] H Q := by
  refine enter63 (by simp) fun hwf hok R hR hR0 => ?_
  have fin : ∀ n env' H', look 4 env' = .int .i64 n → H.Sub H' → decide (0 ≤ n) = decide (id ∈ l) → R .ret env' H' := fun b env' H' h2 h3 h4 => hR _ _ _ rfl (.same h3 (by rw [h2]; rfl) (by rw [h2]; exact h b h4))
  unfold x63
  simp only [go_sem, List.mem_singleton, forall_eq, List.not_mem_nil, false_imp_iff, implies_true, Int.reduceToNat, Int.reduceLT, decide_true, decide_false, Nat.reduceEqDiff, ↓reduceIte, Nat.reduceAdd, Int.reduceLE, Int.reduceNeg, Nat.reduceLeDiff, Nat.reduceLT, Int.reduceEq, Nat.reduceEqDiff, List.map_nil, List.length_nil, List.map_cons, List.length_cons]
  refine AX.iter (S := List Id × List Id) ttOk (fun a => [(0, .slice (l.map eId)), (3, .ptr H.n 0), (7, .int .i64 (l.map eId).length), (8, .int .i64 a.1.length)]) (fun _ => H.push (.cells id.cs 23)) (fun a => a.2.length) (fun a => a.1 ++ a.2 = l ∧ id ∉ a.1) ([], l) ?_ rfl ⟨rfl, by simp⟩ ?_
  · simp only [go_sem, List.mem_singleton, forall_eq, List.not_mem_nil, false_imp_iff, implies_true, Int.reduceToNat, Int.reduceLT, decide_true, decide_false, Nat.reduceEqDiff, ↓reduceIte, Nat.reduceAdd, Int.reduceLE, Int.reduceNeg, Nat.reduceLeDiff, Nat.reduceLT, Int.reduceEq, Nat.reduceEqDiff, List.map_nil, List.length_nil, List.map_cons, List.length_cons]
  rintro ⟨pre, post⟩ ⟨h2, h3⟩ hk2 hwf2 K2 R2 hK2 hQ2
  simp only at h2 h3 hK2
  unfold l63_0
  rcases post with _ | ⟨k, ks⟩
  · have hb := ge_of h2 eId
    simp only [go_sem, List.mem_singleton, forall_eq, List.not_mem_nil, false_imp_iff, implies_true, Int.reduceToNat, Int.reduceLT, decide_true, decide_false, Nat.reduceEqDiff, ↓reduceIte, Nat.reduceAdd, Int.reduceLE, Int.reduceNeg, Nat.reduceLeDiff, Nat.reduceLT, Int.reduceEq, Nat.reduceEqDiff, List.map_nil, List.length_nil, List.map_cons, List.length_cons, hb]
    refine hQ2 _ _ _ ?_
    simp only [go_sem, List.mem_singleton, forall_eq, List.not_mem_nil, false_imp_iff, implies_true, Int.reduceToNat, Int.reduceLT, decide_true, decide_false, Nat.reduceEqDiff, ↓reduceIte, Nat.reduceAdd, Int.reduceLE, Int.reduceNeg, Nat.reduceLeDiff, Nat.reduceLT, Int.reduceEq, Nat.reduceEqDiff, List.map_nil, List.length_nil, List.map_cons, List.length_cons]
    refine fin (-1) _ _ (by simp only [go_sem, List.mem_singleton, forall_eq, List.not_mem_nil, false_imp_iff, implies_true, Int.reduceToNat, Int.reduceLT, decide_true, decide_false, Nat.reduceEqDiff, ↓reduceIte, Nat.reduceAdd, Int.reduceLE, Int.reduceNeg, Nat.reduceLeDiff, Nat.reduceLT, Int.reduceEq, Nat.reduceEqDiff, List.map_nil, List.length_nil, List.map_cons, List.length_cons]) (.push (.refl hwf) _) ?_
    rw [List.append_nil] at h2
    rw [h2] at h3
    simp [h3]
  · have hb := lt_of h2 eId
    have ha := at_of h2 eId
    have hl := len_of h2
    have hw : IntKind.i64.wrap ((pre.length : Int) + 1) = pre.length + 1 := wrap_i64.2 (by omega)
    simp only [go_sem, List.mem_singleton, forall_eq, List.not_mem_nil, false_imp_iff, implies_true, Int.reduceToNat, Int.reduceLT, decide_true, decide_false, Nat.reduceEqDiff, ↓reduceIte, Nat.reduceAdd, Int.reduceLE, Int.reduceNeg, Nat.reduceLeDiff, Nat.reduceLT, Int.reduceEq, Nat.reduceEqDiff, List.map_nil, List.length_nil, List.map_cons, List.length_cons, hb, dr63_0, ha, hw, Id.cs]
    refine ⟨by omega, fun e => ?_, fun e => ?_⟩
    · refine hQ2 _ _ _ ?_
      simp only [go_sem, List.mem_singleton, forall_eq, List.not_mem_nil, false_imp_iff, implies_true, Int.reduceToNat, Int.reduceLT, decide_true, decide_false, Nat.reduceEqDiff, ↓reduceIte, Nat.reduceAdd, Int.reduceLE, Int.reduceNeg, Nat.reduceLeDiff, Nat.reduceLT, Int.reduceEq, Nat.reduceEqDiff, List.map_nil, List.length_nil, List.map_cons, List.length_cons]
      refine fin pre.length _ _ (by simp only [go_sem, List.mem_singleton, forall_eq, List.not_mem_nil, false_imp_iff, implies_true, Int.reduceToNat, Int.reduceLT, decide_true, decide_false, Nat.reduceEqDiff, ↓reduceIte, Nat.reduceAdd, Int.reduceLE, Int.reduceNeg, Nat.reduceLeDiff, Nat.reduceLT, Int.reduceEq, Nat.reduceEqDiff, List.map_nil, List.length_nil, List.map_cons, List.length_cons]) (.push (.refl hwf) _) ?_
      have : id = k := by simpa using e
      have hm : id ∈ l := by rw [← h2, this]; simp
      simp [hm]
    · have hne : ¬id = k := by simpa using e
      refine hK2 _ _ (pre ++ [k], ks) (by simp) ⟨snoc_of h2, by simp [h3, hne]⟩ (.refl hwf2) (Nat.le_refl _) (Nat.le_refl _) ?_
      simp only [go_sem, List.mem_singleton, forall_eq, List.not_mem_nil, false_imp_iff, implies_true, Int.reduceToNat, Int.reduceLT, decide_true, decide_false, Nat.reduceEqDiff, ↓reduceIte, Nat.reduceAdd, Int.reduceLE, Int.reduceNeg, Nat.reduceLeDiff, Nat.reduceLT, Int.reduceEq, Nat.reduceEqDiff, List.map_nil, List.length_nil, List.map_cons, List.length_cons, len_snoc]
      simp
theorem spec46 (l : List Id) (id : Id) (hlen : l.length ≤ 1000000) (H : AH) (Q : AV → AH → Prop) (h : Q (.bool (decide (id ∈ l))) H) : ACalls Try.prog w0 46 [.slice (l.map eId), eId id] H Q := by
  refine enter46 (by simp) fun hwf hok R hR hR0 => ?_
  unfold x46
  simp only [go_sem, List.mem_singleton, forall_eq, List.not_mem_nil, false_imp_iff, implies_true, Int.reduceToNat, Int.reduceLT, decide_true, decide_false, Nat.reduceEqDiff, ↓reduceIte, Nat.reduceAdd, Int.reduceLE, Int.reduceNeg, Nat.reduceLeDiff, Nat.reduceLT, Int.reduceEq, Nat.reduceEqDiff, List.map_nil, List.length_nil, List.map_cons, List.length_cons]
  refine spec63 l id hlen _ _ fun n hn => ?_
  simp only [go_sem, List.mem_singleton, forall_eq, List.not_mem_nil, false_imp_iff, implies_true, Int.reduceToNat, Int.reduceLT, decide_true, decide_false, Nat.reduceEqDiff, ↓reduceIte, Nat.reduceAdd, Int.reduceLE, Int.reduceNeg, Nat.reduceLeDiff, Nat.reduceLT, Int.reduceEq, Nat.reduceEqDiff, List.map_nil, List.length_nil, List.map_cons, List.length_cons]
  refine hR _ _ _ rfl (.same (.push (.refl hwf) _) (by simp only [go_sem, List.mem_singleton, forall_eq, List.not_mem_nil, false_imp_iff, implies_true, Int.reduceToNat, Int.reduceLT, decide_true, decide_false, Nat.reduceEqDiff, ↓reduceIte, Nat.reduceAdd, Int.reduceLE, Int.reduceNeg, Nat.reduceLeDiff, Nat.reduceLT, Int.reduceEq, Nat.reduceEqDiff, List.map_nil, List.length_nil, List.map_cons, List.length_cons]) ?_)
  simp only [go_sem, List.mem_singleton, forall_eq, List.not_mem_nil, false_imp_iff, implies_true, Int.reduceToNat, Int.reduceLT, decide_true, decide_false, Nat.reduceEqDiff, ↓reduceIte, Nat.reduceAdd, Int.reduceLE, Int.reduceNeg, Nat.reduceLeDiff, Nat.reduceLT, Int.reduceEq, Nat.reduceEqDiff, List.map_nil, List.length_nil, List.map_cons, List.length_cons, hn]; exact h
theorem spec47 (u : U) (id : Id) (hb : (every u).length ≤ 1000) (H : AH) (Q : AV → AH → Prop) (h : Q (.slice ((ancM u id).map eId)) H) : ACalls Try.prog w0 47 [eU u, eId id] H Q := by
  refine enter47 (by simp) fun hwf hok R hR hR0 => ?_
  have hwl := wayM_len id u
  unfold x47
  simp only [go_sem, List.mem_singleton, forall_eq, List.not_mem_nil, false_imp_iff, implies_true, Int.reduceToNat, Int.reduceLT, decide_true, decide_false, Nat.reduceEqDiff, ↓reduceIte, Nat.reduceAdd, Int.reduceLE, Int.reduceNeg, Nat.reduceLeDiff, Nat.reduceLT, Int.reduceEq, Nat.reduceEqDiff, List.map_nil, List.length_nil, List.map_cons, List.length_cons]
  refine spec60 u id hb _ _ ?_
  rcases hwk : wayM id u with _ | ⟨w1, ws⟩
  · have han : ancM u id = [] := by simp [ancM, hwk, idsOf]
    rw [han] at h
    simp only [go_sem, List.mem_singleton, forall_eq, List.not_mem_nil, false_imp_iff, implies_true, Int.reduceToNat, Int.reduceLT, decide_true, decide_false, Nat.reduceEqDiff, ↓reduceIte, Nat.reduceAdd, Int.reduceLE, Int.reduceNeg, Nat.reduceLeDiff, Nat.reduceLT, Int.reduceEq, Nat.reduceEqDiff, List.map_nil, List.length_nil, List.map_cons, List.length_cons, wayV]
    refine AX.iter (S := Unit) ttOk (fun _ => [(5, .nilS), (7, .int .i64 (-2))]) (fun _ => (H.push (.cells u.cs 27)).push (.cells id.cs 23)) (fun _ => 0) (fun _ => True) () ?_ rfl trivial ?_
    · simp only [go_sem, List.mem_singleton, forall_eq, List.not_mem_nil, false_imp_iff, implies_true, Int.reduceToNat, Int.reduceLT, decide_true, decide_false, Nat.reduceEqDiff, ↓reduceIte, Nat.reduceAdd, Int.reduceLE, Int.reduceNeg, Nat.reduceLeDiff, Nat.reduceLT, Int.reduceEq, Nat.reduceEqDiff, List.map_nil, List.length_nil, List.map_cons, List.length_cons]
      exact .refl _
    rintro _ _ hk0 hwf0 K0 R0 hK0 hQ0
    unfold l47_0
    simp only [go_sem, List.mem_singleton, forall_eq, List.not_mem_nil, false_imp_iff, implies_true, Int.reduceToNat, Int.reduceLT, decide_true, decide_false, Nat.reduceEqDiff, ↓reduceIte, Nat.reduceAdd, Int.reduceLE, Int.reduceNeg, Nat.reduceLeDiff, Nat.reduceLT, Int.reduceEq, Nat.reduceEqDiff, List.map_nil, List.length_nil, List.map_cons, List.length_cons]
    refine hQ0 _ _ _ ?_
    simp only [go_sem, List.mem_singleton, forall_eq, List.not_mem_nil, false_imp_iff, implies_true, Int.reduceToNat, Int.reduceLT, decide_true, decide_false, Nat.reduceEqDiff, ↓reduceIte, Nat.reduceAdd, Int.reduceLE, Int.reduceNeg, Nat.reduceLeDiff, Nat.reduceLT, Int.reduceEq, Nat.reduceEqDiff, List.map_nil, List.length_nil, List.map_cons, List.length_cons]
    refine hR _ _ _ rfl (.forget (.push (.push (.refl hwf) _) _) ?_ ?_)
    · simp only [go_sem, List.mem_singleton, forall_eq, List.not_mem_nil, false_imp_iff, implies_true, Int.reduceToNat, Int.reduceLT, decide_true, decide_false, Nat.reduceEqDiff, ↓reduceIte, Nat.reduceAdd, Int.reduceLE, Int.reduceNeg, Nat.reduceLeDiff, Nat.reduceLT, Int.reduceEq, Nat.reduceEqDiff, List.map_nil, List.length_nil, List.map_cons, List.length_cons, AV.forget]
    · simp only [go_sem, List.mem_singleton, forall_eq, List.not_mem_nil, false_imp_iff, implies_true, Int.reduceToNat, Int.reduceLT, decide_true, decide_false, Nat.reduceEqDiff, ↓reduceIte, Nat.reduceAdd, Int.reduceLE, Int.reduceNeg, Nat.reduceLeDiff, Nat.reduceLT, Int.reduceEq, Nat.reduceEqDiff, List.map_nil, List.length_nil, List.map_cons, List.length_cons, AV.forget]; exact h
  · have hlen : (wayM id u).length ≤ 1000 := by omega
    have hne : wayM id u ≠ [] := by rw [hwk]; simp
    rw [← hwk]
    have hv : wayV (wayM id u) = .slice ((wayM id u).map eU) := by rw [hwk]; rfl
    obtain ⟨l, y, hly, -⟩ := way_split id u hne
    have hll : (wayM id u).length = l.length + 1 := by rw [hly]; simp
    have e1 : IntKind.i64.wrap ((((wayM id u).map eU).length : Int) - 2) = (l.length : Int) - 1 := by rw [List.length_map, wrap_i64.2 (by omega)]; omega
    rw [hv]
    simp only [go_sem, List.mem_singleton, forall_eq, List.not_mem_nil, false_imp_iff, implies_true, Int.reduceToNat, Int.reduceLT, decide_true, decide_false, Nat.reduceEqDiff, ↓reduceIte, Nat.reduceAdd, Int.reduceLE, Int.reduceNeg, Nat.reduceLeDiff, Nat.reduceLT, Int.reduceEq, Nat.reduceEqDiff, List.map_nil, List.length_nil, List.map_cons, List.length_cons, e1]
    refine AX.own0 (k := 5) 23 3 (by simp only [go_sem, List.mem_singleton, forall_eq, List.not_mem_nil, false_imp_iff, implies_true, Int.reduceToNat, Int.reduceLT, decide_true, decide_false, Nat.reduceEqDiff, ↓reduceIte, Nat.reduceAdd, Int.reduceLE, Int.reduceNeg, Nat.reduceLeDiff, Nat.reduceLT, Int.reduceEq, Nat.reduceEqDiff, List.map_nil, List.length_nil, List.map_cons, List.length_cons]) ?_
    refine AX.iter (S := List U × List U) ttOk (fun a => [(5, .own ((idsOf a.2).reverse.map eId) H.m), (6, .slice ((wayM id u).map eU)), (7, .int .i64 ((a.1.length : Int) - 1))]) (fun a => ((H.push (.cells u.cs 27)).push (.cells id.cs 23)).pushTok ⟨((idsOf a.2).reverse.map eId).length, 23, 3⟩) (fun a => a.1.length)
      (fun a => a.1 ++ a.2 = l) (l, []) ?_ rfl (by simp) ?_
    · simp only [go_sem, List.mem_singleton, forall_eq, List.not_mem_nil, false_imp_iff, implies_true, Int.reduceToNat, Int.reduceLT, decide_true, decide_false, Nat.reduceEqDiff, ↓reduceIte, Nat.reduceAdd, Int.reduceLE, Int.reduceNeg, Nat.reduceLeDiff, Nat.reduceLT, Int.reduceEq, Nat.reduceEqDiff, List.map_nil, List.length_nil, List.map_cons, List.length_cons, idsOf_nil]
      exact .refl _
    · rintro ⟨pre, post⟩ h2 hk hwf' K R' hK hQ
      simp only at h2 hK ⊢
      unfold l47_0
      rcases List.eq_nil_or_concat pre with rfl | ⟨pre, k, rfl⟩
      · have e2 : ((([] : List U).length : Nat) : Int) - 1 = -1 := rfl
        have e3 : (0 : Int) - 1 = -1 := rfl
        simp only [go_sem, List.mem_singleton, forall_eq, List.not_mem_nil, false_imp_iff, implies_true, Int.reduceToNat, Int.reduceLT, decide_true, decide_false, Nat.reduceEqDiff, ↓reduceIte, Nat.reduceAdd, Int.reduceLE, Int.reduceNeg, Nat.reduceLeDiff, Nat.reduceLT, Int.reduceEq, Nat.reduceEqDiff, List.map_nil, List.length_nil, List.map_cons, List.length_cons, e3]
        refine hQ _ _ _ ?_
        simp only [go_sem, List.mem_singleton, forall_eq, List.not_mem_nil, false_imp_iff, implies_true, Int.reduceToNat, Int.reduceLT, decide_true, decide_false, Nat.reduceEqDiff, ↓reduceIte, Nat.reduceAdd, Int.reduceLE, Int.reduceNeg, Nat.reduceLeDiff, Nat.reduceLT, Int.reduceEq, Nat.reduceEqDiff, List.map_nil, List.length_nil, List.map_cons, List.length_cons]
        refine hR _ _ _ rfl (.forget (.pushTok (.push (.push (.refl hwf) _) _) _) ?_ ?_)
        · simp only [go_sem, List.mem_singleton, forall_eq, List.not_mem_nil, false_imp_iff, implies_true, Int.reduceToNat, Int.reduceLT, decide_true, decide_false, Nat.reduceEqDiff, ↓reduceIte, Nat.reduceAdd, Int.reduceLE, Int.reduceNeg, Nat.reduceLeDiff, Nat.reduceLT, Int.reduceEq, Nat.reduceEqDiff, List.map_nil, List.length_nil, List.map_cons, List.length_cons, AV.forget]
        · simp only [go_sem, List.mem_singleton, forall_eq, List.not_mem_nil, false_imp_iff, implies_true, Int.reduceToNat, Int.reduceLT, decide_true, decide_false, Nat.reduceEqDiff, ↓reduceIte, Nat.reduceAdd, Int.reduceLE, Int.reduceNeg, Nat.reduceLeDiff, Nat.reduceLT, Int.reduceEq, Nat.reduceEqDiff, List.map_nil, List.length_nil, List.map_cons, List.length_cons, AV.forget]
          rw [List.nil_append] at h2
          rw [h2, show l = (wayM id u).dropLast by rw [hly, List.dropLast_concat]]; exact h
      · rw [List.concat_eq_append] at h2
        simp only [List.concat_eq_append] at hK ⊢
        have e2 : (((pre ++ [k]).length : Nat) : Int) - 1 = pre.length := by simp
        rw [e2]
        have hkids : pre ++ k :: (post ++ [y]) = wayM id u := by rw [hly, ← h2]; simp
        have ha := at_of hkids eU
        have hl := len_of hkids
        have e4 : decide ((0 : Int) ≤ (pre.length : Int)) = true := by simp
        have hw : IntKind.i64.wrap ((pre.length : Int) - 1) = pre.length - 1 := wrap_i64.2 (by omega)
        simp only [go_sem, List.mem_singleton, forall_eq, List.not_mem_nil, false_imp_iff, implies_true, Int.reduceToNat, Int.reduceLT, decide_true, decide_false, Nat.reduceEqDiff, ↓reduceIte, Nat.reduceAdd, Int.reduceLE, Int.reduceNeg, Nat.reduceLeDiff, Nat.reduceLT, Int.reduceEq, Nat.reduceEqDiff, List.map_nil, List.length_nil, List.map_cons, List.length_cons, e4, ha, hw]
        refine ⟨by omega, by omega, ?_⟩
        have hll2 : pre.length + 1 + post.length = l.length := by rw [← h2]; simp; omega
        have hpl : ((idsOf post).reverse.map eId).length = post.length := by simp [idsOf]
        refine ⟨by rw [hpl]; omega, ?_⟩
        have e5 : (idsOf (k :: post)).reverse.map eId = (idsOf post).reverse.map eId ++ [eId k.id] := by simp [idsOf]
        refine hK _ _ (pre, k :: post) (by simp) (by rw [← h2]; simp) ?_ (Nat.le_refl _) (Nat.le_refl _) ?_
        · rw [e5]
          refine .pushTok (.refl (WF_pushTok (WF_push_cells (WF_push_cells hwf _ _ ?_) _ _ ?_) _)) _
          · simp only [go_sem, List.mem_singleton, forall_eq, List.not_mem_nil, false_imp_iff, implies_true, Int.reduceToNat, Int.reduceLT, decide_true, decide_false, Nat.reduceEqDiff, ↓reduceIte, Nat.reduceAdd, Int.reduceLE, Int.reduceNeg, Nat.reduceLeDiff, Nat.reduceLT, Int.reduceEq, Nat.reduceEqDiff, List.map_nil, List.length_nil, List.map_cons, List.length_cons, U.cs]
          · simp only [go_sem, List.mem_singleton, forall_eq, List.not_mem_nil, false_imp_iff, implies_true, Int.reduceToNat, Int.reduceLT, decide_true, decide_false, Nat.reduceEqDiff, ↓reduceIte, Nat.reduceAdd, Int.reduceLE, Int.reduceNeg, Nat.reduceLeDiff, Nat.reduceLT, Int.reduceEq, Nat.reduceEqDiff, List.map_nil, List.length_nil, List.map_cons, List.length_cons, Id.cs]
        · simp only [go_sem, List.mem_singleton, forall_eq, List.not_mem_nil, false_imp_iff, implies_true, Int.reduceToNat, Int.reduceLT, decide_true, decide_false, Nat.reduceEqDiff, ↓reduceIte, Nat.reduceAdd, Int.reduceLE, Int.reduceNeg, Nat.reduceLeDiff, Nat.reduceLT, Int.reduceEq, Nat.reduceEqDiff, List.map_nil, List.length_nil, List.map_cons, List.length_cons, e5]
          simp
end Go.Ai.Try
