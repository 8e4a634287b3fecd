/- A part of the proof: no statement of the seat is proved in this text. -/
import Derived.Test.YtcphpaeebaacgaaFound4
set_option linter.unusedVariables false
set_option linter.unusedSimpArgs false
namespace Go.Ai
theorem OLe.trans {a b c : Option AObj} (h : OLe a b) (k : OLe b c) : OLe a c := by
  rcases h with rfl | ⟨cs, cs', t, rfl, h2, h3, h4, h5⟩
  · exact k
  · exact k.weaker h2 h3 h4 h5
theorem AH.Sub.trans {A B C : AH} (h : A.Sub B) (k : B.Sub C) : A.Sub C :=
  ⟨h.wf, Nat.le_trans h.n k.n, Nat.le_trans h.m k.m, fun i hi => (h.obj i hi).trans (k.obj i (Nat.lt_of_lt_of_le hi h.n)), fun t ht => by
    rcases h.tok t ht with e | e
    · exact .inl e
    · rcases k.tok t (Nat.lt_of_lt_of_le ht h.m) with e' | e'
      · exact .inl (e.trans e')
      · exact .inr (e.trans e')⟩
theorem stepM_nil (s : Step) : stepM s [] = [] := rfl
@[go_sem] theorem Weak_own (l : List AV) (t : Nat) : AV.Weak (.own l t) (.slice l) = True := by simp; exact AV.Weak.forget (.own l t)
@[go_sem] theorem Weak_lit (l : List AV) : AV.Weak (.lit l) (.slice l) = True := by simp; exact AV.Weak.forget (.lit l)
@[go_sem] theorem Weak_nil : AV.Weak .nilS (.slice []) = True := by simp; exact AV.Weak.forget .nilS
end Go.Ai
namespace Go.Ai.Try
open Go Go.Ai Go.Proofs
variable {w0 : World}
theorem loop26_3 (p : List Step) (s : Step) (r : List Step) (hp : [s] ++ r = p) (l : List U) (Hb : AH) (hwf : Hb.WF) (hl : (everyL l).length ≤ 1000000) (hrl : p.length ≤ 1000000000) (env : Env)
    (he1 : look 1 env = .slice (p.map eS)) (tk : Nat) (he5 : look 5 env = .own (l.map eU) tk) (he8 : look 8 env = .int .i64 1) (Qp : APost)
    (hQ0 : ∀ env' H', Hb.Sub H' → look 5 env' = .slice ((walkM r l).map eU) → Qp (.exit 2) env' H') : AX Try.prog w0 101 (.loop l26_3) env Hb Qp := by
  refine AX.iter0 (S := List Step × List Step × List U) ttOk (fun a => [(1, .slice (p.map eS)), (5, .slice (a.2.2.map eU)), (8, .int .i64 a.1.length)]) (fun a => a.2.1.length)
    (fun a => a.1 ++ a.2.1 = p ∧ walkM a.2.1 a.2.2 = walkM r l ∧ (everyL a.2.2).length ≤ 1000000) ([s], r, l) ?_ ⟨hp, rfl, hl⟩ ?_
  · simp only [go_sem, List.mem_singleton, forall_eq, List.not_mem_nil, false_imp_iff, implies_true, Int.reduceToNat, Int.reduceLT, decide_true, decide_false, Nat.reduceEqDiff, ↓reduceIte, Nat.reduceAdd, Int.reduceLE, Int.reduceNeg, Nat.reduceLeDiff, Nat.reduceLT, he1, he5, he8]
  · rintro ⟨pre, post, l'⟩ ⟨h4, h6, h7⟩ hk hwf1 K R' hK hQ
    simp only at h4 h6 h7 hK ⊢
    unfold l26_3
    rcases post with _ | ⟨k, ks⟩
    · have hb := ge_of h4 eS
      simp only [go_sem, List.mem_singleton, forall_eq, List.not_mem_nil, false_imp_iff, implies_true, Int.reduceToNat, Int.reduceLT, decide_true, decide_false, Nat.reduceEqDiff, ↓reduceIte, Nat.reduceAdd, Int.reduceLE, Int.reduceNeg, Nat.reduceLeDiff, Nat.reduceLT, hb]
      refine hQ _ _ _ ?_
      refine hQ0 _ _ (.refl hwf) ?_
      simp only [go_sem, List.mem_singleton, forall_eq, List.not_mem_nil, false_imp_iff, implies_true, Int.reduceToNat, Int.reduceLT, decide_true, decide_false, Nat.reduceEqDiff, ↓reduceIte, Nat.reduceAdd, Int.reduceLE, Int.reduceNeg, Nat.reduceLeDiff, Nat.reduceLT]
      rw [show l' = walkM r l from h6]
    · have hb := lt_of h4 eS
      have ha := at_of h4 eS
      have hll := len_of h4
      have hl' := len_everyL l'
      simp only [go_sem, List.mem_singleton, forall_eq, List.not_mem_nil, false_imp_iff, implies_true, Int.reduceToNat, Int.reduceLT, decide_true, decide_false, Nat.reduceEqDiff, ↓reduceIte, Nat.reduceAdd, Int.reduceLE, Int.reduceNeg, Nat.reduceLeDiff, Nat.reduceLT, hb, ha]
      refine ⟨by omega, ?_⟩
      refine AX.iter (S := List U × List U) ttOk (fun a => [(1, .slice (p.map eS)), (5, .slice (l'.map eU)), (8, .int .i64 pre.length), (9, .own ((stepM k a.1).map eU) Hb.m), (10, .int .i64 a.1.length)])
        (fun a => Hb.pushTok ⟨((stepM k a.1).map eU).length, 27, 8⟩) (fun a => a.2.length) (fun a => a.1 ++ a.2 = l') ([], l') ?_ rfl rfl ?_
      · simp only [go_sem, List.mem_singleton, forall_eq, List.not_mem_nil, false_imp_iff, implies_true, Int.reduceToNat, Int.reduceLT, decide_true, decide_false, Nat.reduceEqDiff, ↓reduceIte, Nat.reduceAdd, Int.reduceLE, Int.reduceNeg, Nat.reduceLeDiff, Nat.reduceLT, stepM_nil, List.map_nil]
      · rintro ⟨pre', post'⟩ g4 hk' hwf2 K' R'' hK' hQ'
        simp only at g4 hK' ⊢
        have hst : (everyL (stepM k pre')).length ≤ (everyL pre').length := everyL_stepM k pre'
        have hst' := len_everyL (stepM k pre')
        unfold l26_2
        rcases post' with _ | ⟨x, xs⟩
        · have hb' := ge_of g4 eU
          simp only [go_sem, List.mem_singleton, forall_eq, List.not_mem_nil, false_imp_iff, implies_true, Int.reduceToNat, Int.reduceLT, decide_true, decide_false, Nat.reduceEqDiff, ↓reduceIte, Nat.reduceAdd, Int.reduceLE, Int.reduceNeg, Nat.reduceLeDiff, Nat.reduceLT, hb']
          refine hQ' _ _ _ ?_
          simp only [go_sem, List.mem_singleton, forall_eq, List.not_mem_nil, false_imp_iff, implies_true, Int.reduceToNat, Int.reduceLT, decide_true, decide_false, Nat.reduceEqDiff, ↓reduceIte, Nat.reduceAdd, Int.reduceLE, Int.reduceNeg, Nat.reduceLeDiff, Nat.reduceLT]
          rw [List.append_nil] at g4
          rw [g4, wrap_i64.2 (by omega)]
          have hsz := everyL_stepM k l'
          refine hK _ _ (pre ++ [k], ks, stepM k l') (by simp) ⟨snoc_of h4, h6, by simp only; omega⟩ (.pushTok (.refl hwf) _) ?_
          simp only [go_sem, List.mem_singleton, forall_eq, List.not_mem_nil, false_imp_iff, implies_true, Int.reduceToNat, Int.reduceLT, decide_true, decide_false, Nat.reduceEqDiff, ↓reduceIte, Nat.reduceAdd, Int.reduceLE, Int.reduceNeg, Nat.reduceLeDiff, Nat.reduceLT, len_snoc]
        · have hb' := lt_of g4 eU
          have ha' := at_of g4 eU
          have hll' := len_of g4
          have hsum : everyL l' = everyL pre' ++ (every x ++ everyL xs) := by rw [← g4, everyL_append]; rfl
          simp only [go_sem, List.mem_singleton, forall_eq, List.not_mem_nil, false_imp_iff, implies_true, Int.reduceToNat, Int.reduceLT, decide_true, decide_false, Nat.reduceEqDiff, ↓reduceIte, Nat.reduceAdd, Int.reduceLE, Int.reduceNeg, Nat.reduceLeDiff, Nat.reduceLT, hb', ha']
          refine AX.iter (S := List U × List U) ttOk (fun a => [(1, .slice (p.map eS)), (5, .slice (l'.map eU)), (8, .int .i64 pre.length), (9, .own ((stepM k pre' ++ sel k a.1).map eU) Hb.m), (10, .int .i64 pre'.length), (11, .int .i64 a.1.length)])
            (fun a => Hb.pushTok ⟨((stepM k pre' ++ sel k a.1).map eU).length, 27, 8⟩) (fun a => a.2.length) (fun a => a.1 ++ a.2 = x.kids) ([], x.kids) ?_ ?_ rfl ?_
          · simp only [go_sem, List.mem_singleton, forall_eq, List.not_mem_nil, false_imp_iff, implies_true, Int.reduceToNat, Int.reduceLT, decide_true, decide_false, Nat.reduceEqDiff, ↓reduceIte, Nat.reduceAdd, Int.reduceLE, Int.reduceNeg, Nat.reduceLeDiff, Nat.reduceLT, sel_nil, List.append_nil]
          · simp only [sel_nil, List.append_nil]
          · rintro ⟨pk, qk⟩ f4 hk'' hwf3 K'' R3 hK'' hQ''
            simp only at f4 hK'' ⊢
            have hu := sel_len k pk
            unfold l26_1
            rcases qk with _ | ⟨y, ys⟩
            · have hb'' := ge_of f4 eU
              simp only [go_sem, List.mem_singleton, forall_eq, List.not_mem_nil, false_imp_iff, implies_true, Int.reduceToNat, Int.reduceLT, decide_true, decide_false, Nat.reduceEqDiff, ↓reduceIte, Nat.reduceAdd, Int.reduceLE, Int.reduceNeg, Nat.reduceLeDiff, Nat.reduceLT, hb'', ha']
              refine ⟨by omega, ?_⟩
              refine hQ'' _ _ _ ?_
              simp only [go_sem, List.mem_singleton, forall_eq, List.not_mem_nil, false_imp_iff, implies_true, Int.reduceToNat, Int.reduceLT, decide_true, decide_false, Nat.reduceEqDiff, ↓reduceIte, Nat.reduceAdd, Int.reduceLE, Int.reduceNeg, Nat.reduceLeDiff, Nat.reduceLT]
              rw [List.append_nil] at f4
              rw [f4, wrap_i64.2 (by omega)]
              have e : stepM k (pre' ++ [x]) = stepM k pre' ++ sel k x.kids := by rw [stepM_append, stepM_one]
              refine hK' _ _ (pre' ++ [x], xs) (by simp) (snoc_of g4) ?_ (Nat.le_refl _) (Nat.le_refl _) ?_
              · rw [e]
                exact .refl (WF_pushTok hwf1 _)
              · simp only [go_sem, List.mem_singleton, forall_eq, List.not_mem_nil, false_imp_iff, implies_true, Int.reduceToNat, Int.reduceLT, decide_true, decide_false, Nat.reduceEqDiff, ↓reduceIte, Nat.reduceAdd, Int.reduceLE, Int.reduceNeg, Nat.reduceLeDiff, Nat.reduceLT, len_snoc, e]
                simp
            · have hb'' := lt_of f4 eU
              have ha'' := at_of f4 eU
              have hll'' := len_of f4
              have hxk : x.kids.length ≤ (every x).length := by rw [every_eq, List.length_cons]; have := len_everyL x.kids; omega
              have hlx : (everyL l').length = (everyL pre').length + ((every x).length + (everyL xs).length) := by rw [hsum, List.length_append, List.length_append]
              simp only [go_sem, List.mem_singleton, forall_eq, List.not_mem_nil, false_imp_iff, implies_true, Int.reduceToNat, Int.reduceLT, decide_true, decide_false, Nat.reduceEqDiff, ↓reduceIte, Nat.reduceAdd, Int.reduceLE, Int.reduceNeg, Nat.reduceLeDiff, Nat.reduceLT, hb'', ha'', ha', dr26_1, ha]
              refine ⟨by omega, by omega, by omega, by omega, ?_⟩
              refine PCalls.of (r := .bool (isAt y k)) (fun H' => spec44 y k _ _ ⟨rfl, rfl⟩) ?_
              have hw : IntKind.i64.wrap ((pk.length : Int) + 1) = pk.length + 1 := wrap_i64.2 (by omega)
              by_cases hy : isAt y k = true
              · have e : sel k (pk ++ [y]) = sel k pk ++ [y] := by rw [sel_append]; simp [sel, hy]
                have e2 : (stepM k pre' ++ sel k (pk ++ [y])).map eU = (stepM k pre' ++ sel k pk).map eU ++ [eU y] := by rw [e]; simp
                simp only [go_sem, List.mem_singleton, forall_eq, List.not_mem_nil, false_imp_iff, implies_true, Int.reduceToNat, Int.reduceLT, decide_true, decide_false, Nat.reduceEqDiff, ↓reduceIte, Nat.reduceAdd, Int.reduceLE, Int.reduceNeg, Nat.reduceLeDiff, Nat.reduceLT, hy, hw, ha', ha'']
                refine ⟨by omega, by omega, by omega, ⟨by simp only [List.length_map, List.length_append]; omega, by simp only [List.length_map, List.length_append]; omega⟩, ?_⟩
                refine hK'' _ _ (pk ++ [y], ys) (by simp) (snoc_of f4) ?_ (Nat.le_refl _) (Nat.le_refl _) ?_
                · rw [e2]
                  exact .pushTok (.refl (WF_pushTok hwf1 _)) _
                · simp only [go_sem, List.mem_singleton, forall_eq, List.not_mem_nil, false_imp_iff, implies_true, Int.reduceToNat, Int.reduceLT, decide_true, decide_false, Nat.reduceEqDiff, ↓reduceIte, Nat.reduceAdd, Int.reduceLE, Int.reduceNeg, Nat.reduceLeDiff, Nat.reduceLT, len_snoc, e2]
                  simp
              · have hy' : isAt y k = false := by simpa using hy
                have e : sel k (pk ++ [y]) = sel k pk := by rw [sel_append]; simp [sel, hy']
                simp only [go_sem, List.mem_singleton, forall_eq, List.not_mem_nil, false_imp_iff, implies_true, Int.reduceToNat, Int.reduceLT, decide_true, decide_false, Nat.reduceEqDiff, ↓reduceIte, Nat.reduceAdd, Int.reduceLE, Int.reduceNeg, Nat.reduceLeDiff, Nat.reduceLT, hy', hw]
                refine hK'' _ _ (pk ++ [y], ys) (by simp) (snoc_of f4) ?_ (Nat.le_refl _) (Nat.le_refl _) ?_
                · rw [e]
                  exact .refl hwf3
                · simp only [go_sem, List.mem_singleton, forall_eq, List.not_mem_nil, false_imp_iff, implies_true, Int.reduceToNat, Int.reduceLT, decide_true, decide_false, Nat.reduceEqDiff, ↓reduceIte, Nat.reduceAdd, Int.reduceLE, Int.reduceNeg, Nat.reduceLeDiff, Nat.reduceLT, len_snoc, e]
                  simp

theorem spec26 (u : U) (p : List Step) (hb : (every u).length ≤ 1000) (H : AH) (Q : AV → AH → Prop) (h : Q (.slice ((foundM u p).map eU)) H) : ACalls Try.prog w0 26 [eU u, .slice (p.map eS)] H Q := by
  refine enter26 (by simp) fun hwf hok R hR hR0 => ?_
  have hu := U.good (hok (eU u) (by simp))
  unfold x26
  simp only [go_sem, List.mem_singleton, forall_eq, List.not_mem_nil, false_imp_iff, implies_true, Int.reduceToNat, Int.reduceLT, decide_true, decide_false, Nat.reduceEqDiff, ↓reduceIte, Nat.reduceAdd, Int.reduceLE, Int.reduceNeg, Nat.reduceLeDiff, Nat.reduceLT]
  refine spec41 p _ _ ?_
  simp only [go_sem, List.mem_singleton, forall_eq, List.not_mem_nil, false_imp_iff, implies_true, Int.reduceToNat, Int.reduceLT, decide_true, decide_false, Nat.reduceEqDiff, ↓reduceIte, Nat.reduceAdd, Int.reduceLE, Int.reduceNeg, Nat.reduceLeDiff, Nat.reduceLT]
  by_cases hv : addrOk' p = true
  · have hle : p.length ≤ 9 := by simp [addrOk'] at hv; omega
    rcases p with _ | ⟨s, r⟩
    · simp only [go_sem, List.mem_singleton, forall_eq, List.not_mem_nil, false_imp_iff, implies_true, Int.reduceToNat, Int.reduceLT, decide_true, decide_false, Nat.reduceEqDiff, ↓reduceIte, Nat.reduceAdd, Int.reduceLE, Int.reduceNeg, Nat.reduceLeDiff, Nat.reduceLT, hv, List.map_nil, List.length_nil, Bool.not_true]
      refine ⟨by omega, ?_⟩
      refine hR _ _ _ rfl (.forget (.pushTok (.push (.refl hwf) _) _) ?_ ?_)
      · simp only [go_sem, List.mem_singleton, forall_eq, List.not_mem_nil, false_imp_iff, implies_true, Int.reduceToNat, Int.reduceLT, decide_true, decide_false, Nat.reduceEqDiff, ↓reduceIte, Nat.reduceAdd, Int.reduceLE, Int.reduceNeg, Nat.reduceLeDiff, Nat.reduceLT, AV.forget]
      · simp only [go_sem, List.mem_singleton, forall_eq, List.not_mem_nil, false_imp_iff, implies_true, Int.reduceToNat, Int.reduceLT, decide_true, decide_false, Nat.reduceEqDiff, ↓reduceIte, Nat.reduceAdd, Int.reduceLE, Int.reduceNeg, Nat.reduceLeDiff, Nat.reduceLT, AV.forget]
        simpa [foundM, hv] using h
    · simp only [List.length_cons] at hle
      have hd0 : decide ((((r.map eS).length + 1 : Nat) : Int) = 0) = false := by simp; omega
      have hst := startM_size u s hb
      have hfm : foundM u (s :: r) = walkM r (startM u s) := by simp [foundM, hv]
      simp only [go_sem, List.mem_singleton, forall_eq, List.not_mem_nil, false_imp_iff, implies_true, Int.reduceToNat, Int.reduceLT, decide_true, decide_false, Nat.reduceEqDiff, ↓reduceIte, Nat.reduceAdd, Int.reduceLE, Int.reduceNeg, Nat.reduceLeDiff, Nat.reduceLT, hv, List.map_cons, List.length_cons, Bool.not_true, hd0]
      refine ⟨by omega, ?_⟩
      refine spec42 s _ _ ?_
      by_cases hbk : isBook s = true
      · have hs : startM u s = [u] := by simp [startM, hbk]
        simp only [go_sem, List.mem_singleton, forall_eq, List.not_mem_nil, false_imp_iff, implies_true, Int.reduceToNat, Int.reduceLT, decide_true, decide_false, Nat.reduceEqDiff, ↓reduceIte, Nat.reduceAdd, Int.reduceLE, Int.reduceNeg, Nat.reduceLeDiff, Nat.reduceLT, hbk]
        refine ⟨by omega, by omega, ?_⟩
        refine loop26_3 (s :: r) s r rfl (startM u s) _ (WF_pushTok (WF_pushTok (WF_push_cells hwf _ _ ?_) _) _) hst (by simp only [List.length_cons]; omega) _ ?_ H.m ?_ ?_ _ fun env' H' hs' h5' => ?_
        · simp only [go_sem, List.mem_singleton, forall_eq, List.not_mem_nil, false_imp_iff, implies_true, Int.reduceToNat, Int.reduceLT, decide_true, decide_false, Nat.reduceEqDiff, ↓reduceIte, Nat.reduceAdd, Int.reduceLE, Int.reduceNeg, Nat.reduceLeDiff, Nat.reduceLT]
        · simp only [go_sem, List.mem_singleton, forall_eq, List.not_mem_nil, false_imp_iff, implies_true, Int.reduceToNat, Int.reduceLT, decide_true, decide_false, Nat.reduceEqDiff, ↓reduceIte, Nat.reduceAdd, Int.reduceLE, Int.reduceNeg, Nat.reduceLeDiff, Nat.reduceLT, List.map_cons]
        · simp only [go_sem, List.mem_singleton, forall_eq, List.not_mem_nil, false_imp_iff, implies_true, Int.reduceToNat, Int.reduceLT, decide_true, decide_false, Nat.reduceEqDiff, ↓reduceIte, Nat.reduceAdd, Int.reduceLE, Int.reduceNeg, Nat.reduceLeDiff, Nat.reduceLT, hs, List.map_cons, List.map_nil]
        · simp only [go_sem, List.mem_singleton, forall_eq, List.not_mem_nil, false_imp_iff, implies_true, Int.reduceToNat, Int.reduceLT, decide_true, decide_false, Nat.reduceEqDiff, ↓reduceIte, Nat.reduceAdd, Int.reduceLE, Int.reduceNeg, Nat.reduceLeDiff, Nat.reduceLT]
        simp only [go_sem, List.mem_singleton, forall_eq, List.not_mem_nil, false_imp_iff, implies_true, Int.reduceToNat, Int.reduceLT, decide_true, decide_false, Nat.reduceEqDiff, ↓reduceIte, Nat.reduceAdd, Int.reduceLE, Int.reduceNeg, Nat.reduceLeDiff, Nat.reduceLT, h5']
        refine hR _ _ _ rfl (.same (.trans (.pushTok (.pushTok (.push (.refl hwf) _) _) _) hs') ?_ ?_)
        · simp only [go_sem, List.mem_singleton, forall_eq, List.not_mem_nil, false_imp_iff, implies_true, Int.reduceToNat, Int.reduceLT, decide_true, decide_false, Nat.reduceEqDiff, ↓reduceIte, Nat.reduceAdd, Int.reduceLE, Int.reduceNeg, Nat.reduceLeDiff, Nat.reduceLT]
        · simp only [go_sem, List.mem_singleton, forall_eq, List.not_mem_nil, false_imp_iff, implies_true, Int.reduceToNat, Int.reduceLT, decide_true, decide_false, Nat.reduceEqDiff, ↓reduceIte, Nat.reduceAdd, Int.reduceLE, Int.reduceNeg, Nat.reduceLeDiff, Nat.reduceLT]
          rw [← hfm]; exact h
      · have hbk' : isBook s = false := by simpa using hbk
        have hs : startM u s = sel s (every u) := by simp [startM, hbk']
        simp only [go_sem, List.mem_singleton, forall_eq, List.not_mem_nil, false_imp_iff, implies_true, Int.reduceToNat, Int.reduceLT, decide_true, decide_false, Nat.reduceEqDiff, ↓reduceIte, Nat.reduceAdd, Int.reduceLE, Int.reduceNeg, Nat.reduceLeDiff, Nat.reduceLT, hbk']
        refine spec43 u (by omega) _ _ ?_
        simp only [go_sem, List.mem_singleton, forall_eq, List.not_mem_nil, false_imp_iff, implies_true, Int.reduceToNat, Int.reduceLT, decide_true, decide_false, Nat.reduceEqDiff, ↓reduceIte, Nat.reduceAdd, Int.reduceLE, Int.reduceNeg, Nat.reduceLeDiff, Nat.reduceLT]
        refine AX.iter (S := List U × List U) ttOk (fun a => [(1, .slice ((s :: r).map eS)), (5, .own ((sel s a.1).map eU) H.m), (6, .slice ((every u).map eU)), (7, .int .i64 a.1.length)])
          (fun a => (H.push (.cells u.cs 27)).pushTok ⟨((sel s a.1).map eU).length, 27, 8⟩) (fun a => a.2.length) (fun a => a.1 ++ a.2 = every u) ([], every u) ?_ rfl rfl ?_
        · simp only [go_sem, List.mem_singleton, forall_eq, List.not_mem_nil, false_imp_iff, implies_true, Int.reduceToNat, Int.reduceLT, decide_true, decide_false, Nat.reduceEqDiff, ↓reduceIte, Nat.reduceAdd, Int.reduceLE, Int.reduceNeg, Nat.reduceLeDiff, Nat.reduceLT, sel_nil, List.map_nil, List.map_cons]
        · rintro ⟨pre, post⟩ h4 hk hwf1 K R' hK hQ
          simp only at h4 hK ⊢
          have hsl := sel_len s pre
          unfold l26_0
          rcases post with _ | ⟨k, ks⟩
          · have hb' := ge_of h4 eU
            simp only [go_sem, List.mem_singleton, forall_eq, List.not_mem_nil, false_imp_iff, implies_true, Int.reduceToNat, Int.reduceLT, decide_true, decide_false, Nat.reduceEqDiff, ↓reduceIte, Nat.reduceAdd, Int.reduceLE, Int.reduceNeg, Nat.reduceLeDiff, Nat.reduceLT, hb']
            refine hQ _ _ _ ?_
            simp only [go_sem, List.mem_singleton, forall_eq, List.not_mem_nil, false_imp_iff, implies_true, Int.reduceToNat, Int.reduceLT, decide_true, decide_false, Nat.reduceEqDiff, ↓reduceIte, Nat.reduceAdd, Int.reduceLE, Int.reduceNeg, Nat.reduceLeDiff, Nat.reduceLT]
            rw [List.append_nil] at h4
            refine loop26_3 (s :: r) s r rfl (startM u s) _ (WF_pushTok (WF_push_cells hwf _ _ ?_) _) hst (by simp only [List.length_cons]; omega) _ ?_ H.m ?_ ?_ _ fun env' H' hs' h5' => ?_
            · simp only [go_sem, List.mem_singleton, forall_eq, List.not_mem_nil, false_imp_iff, implies_true, Int.reduceToNat, Int.reduceLT, decide_true, decide_false, Nat.reduceEqDiff, ↓reduceIte, Nat.reduceAdd, Int.reduceLE, Int.reduceNeg, Nat.reduceLeDiff, Nat.reduceLT, U.cs]
            · simp only [go_sem, List.mem_singleton, forall_eq, List.not_mem_nil, false_imp_iff, implies_true, Int.reduceToNat, Int.reduceLT, decide_true, decide_false, Nat.reduceEqDiff, ↓reduceIte, Nat.reduceAdd, Int.reduceLE, Int.reduceNeg, Nat.reduceLeDiff, Nat.reduceLT, List.map_cons]
            · simp only [go_sem, List.mem_singleton, forall_eq, List.not_mem_nil, false_imp_iff, implies_true, Int.reduceToNat, Int.reduceLT, decide_true, decide_false, Nat.reduceEqDiff, ↓reduceIte, Nat.reduceAdd, Int.reduceLE, Int.reduceNeg, Nat.reduceLeDiff, Nat.reduceLT, hs, h4]
            · simp only [go_sem, List.mem_singleton, forall_eq, List.not_mem_nil, false_imp_iff, implies_true, Int.reduceToNat, Int.reduceLT, decide_true, decide_false, Nat.reduceEqDiff, ↓reduceIte, Nat.reduceAdd, Int.reduceLE, Int.reduceNeg, Nat.reduceLeDiff, Nat.reduceLT]
            simp only [go_sem, List.mem_singleton, forall_eq, List.not_mem_nil, false_imp_iff, implies_true, Int.reduceToNat, Int.reduceLT, decide_true, decide_false, Nat.reduceEqDiff, ↓reduceIte, Nat.reduceAdd, Int.reduceLE, Int.reduceNeg, Nat.reduceLeDiff, Nat.reduceLT, h5']
            refine hR _ _ _ rfl (.same (.trans (.pushTok (.push (.refl hwf) _) _) hs') ?_ ?_)
            · simp only [go_sem, List.mem_singleton, forall_eq, List.not_mem_nil, false_imp_iff, implies_true, Int.reduceToNat, Int.reduceLT, decide_true, decide_false, Nat.reduceEqDiff, ↓reduceIte, Nat.reduceAdd, Int.reduceLE, Int.reduceNeg, Nat.reduceLeDiff, Nat.reduceLT]
            · simp only [go_sem, List.mem_singleton, forall_eq, List.not_mem_nil, false_imp_iff, implies_true, Int.reduceToNat, Int.reduceLT, decide_true, decide_false, Nat.reduceEqDiff, ↓reduceIte, Nat.reduceAdd, Int.reduceLE, Int.reduceNeg, Nat.reduceLeDiff, Nat.reduceLT]
              rw [← hfm]; exact h
          · have hb' := lt_of h4 eU
            have ha' := at_of h4 eU
            have hll' := len_of h4
            simp only [go_sem, List.mem_singleton, forall_eq, List.not_mem_nil, false_imp_iff, implies_true, Int.reduceToNat, Int.reduceLT, decide_true, decide_false, Nat.reduceEqDiff, ↓reduceIte, Nat.reduceAdd, Int.reduceLE, Int.reduceNeg, Nat.reduceLeDiff, Nat.reduceLT, hb', ha', dr26_0, List.map_cons]
            refine ⟨by omega, ?_⟩
            refine PCalls.of (r := .bool (isAt k s)) (fun H' => spec44 k s _ _ ⟨rfl, rfl⟩) ?_
            have hw : IntKind.i64.wrap ((pre.length : Int) + 1) = pre.length + 1 := wrap_i64.2 (by omega)
            by_cases hy : isAt k s = true
            · have e : sel s (pre ++ [k]) = sel s pre ++ [k] := by rw [sel_append]; simp [sel, hy]
              have e2 : (sel s (pre ++ [k])).map eU = (sel s pre).map eU ++ [eU k] := by rw [e]; simp
              simp only [go_sem, List.mem_singleton, forall_eq, List.not_mem_nil, false_imp_iff, implies_true, Int.reduceToNat, Int.reduceLT, decide_true, decide_false, Nat.reduceEqDiff, ↓reduceIte, Nat.reduceAdd, Int.reduceLE, Int.reduceNeg, Nat.reduceLeDiff, Nat.reduceLT, hy, hw, ha']
              refine ⟨by omega, by omega, ⟨by simp only [List.length_map]; omega, by simp only [List.length_map]; omega⟩, ?_⟩
              refine hK _ _ (pre ++ [k], ks) (by simp) (snoc_of h4) ?_ (Nat.le_refl _) (Nat.le_refl _) ?_
              · rw [e2]
                refine .pushTok (.refl (WF_pushTok (WF_push_cells hwf _ _ ?_) _)) _
                simp only [go_sem, List.mem_singleton, forall_eq, List.not_mem_nil, false_imp_iff, implies_true, Int.reduceToNat, Int.reduceLT, decide_true, decide_false, Nat.reduceEqDiff, ↓reduceIte, Nat.reduceAdd, Int.reduceLE, Int.reduceNeg, Nat.reduceLeDiff, Nat.reduceLT, U.cs]
              · simp only [go_sem, List.mem_singleton, forall_eq, List.not_mem_nil, false_imp_iff, implies_true, Int.reduceToNat, Int.reduceLT, decide_true, decide_false, Nat.reduceEqDiff, ↓reduceIte, Nat.reduceAdd, Int.reduceLE, Int.reduceNeg, Nat.reduceLeDiff, Nat.reduceLT, len_snoc, e2, List.map_cons]
                simp
            · have hy' : isAt k s = false := by simpa using hy
              have e : sel s (pre ++ [k]) = sel s pre := by rw [sel_append]; simp [sel, hy']
              simp only [go_sem, List.mem_singleton, forall_eq, List.not_mem_nil, false_imp_iff, implies_true, Int.reduceToNat, Int.reduceLT, decide_true, decide_false, Nat.reduceEqDiff, ↓reduceIte, Nat.reduceAdd, Int.reduceLE, Int.reduceNeg, Nat.reduceLeDiff, Nat.reduceLT, hy', hw]
              refine hK _ _ (pre ++ [k], ks) (by simp) (snoc_of h4) ?_ (Nat.le_refl _) (Nat.le_refl _) ?_
              · rw [e]
                exact .refl hwf1
              · simp only [go_sem, List.mem_singleton, forall_eq, List.not_mem_nil, false_imp_iff, implies_true, Int.reduceToNat, Int.reduceLT, decide_true, decide_false, Nat.reduceEqDiff, ↓reduceIte, Nat.reduceAdd, Int.reduceLE, Int.reduceNeg, Nat.reduceLeDiff, Nat.reduceLT, len_snoc, e, List.map_cons]
                simp
  · have hv' : addrOk' p = false := by simpa using hv
    simp only [go_sem, List.mem_singleton, forall_eq, List.not_mem_nil, false_imp_iff, implies_true, Int.reduceToNat, Int.reduceLT, decide_true, decide_false, Nat.reduceEqDiff, ↓reduceIte, Nat.reduceAdd, Int.reduceLE, Int.reduceNeg, Nat.reduceLeDiff, Nat.reduceLT, hv', Bool.not_false]
    refine hR _ _ _ rfl (.forget (.push (.refl hwf) _) ?_ ?_)
    · simp only [go_sem, List.mem_singleton, forall_eq, List.not_mem_nil, false_imp_iff, implies_true, Int.reduceToNat, Int.reduceLT, decide_true, decide_false, Nat.reduceEqDiff, ↓reduceIte, Nat.reduceAdd, Int.reduceLE, Int.reduceNeg, Nat.reduceLeDiff, Nat.reduceLT, AV.forget]
    · simp only [go_sem, List.mem_singleton, forall_eq, List.not_mem_nil, false_imp_iff, implies_true, Int.reduceToNat, Int.reduceLT, decide_true, decide_false, Nat.reduceEqDiff, ↓reduceIte, Nat.reduceAdd, Int.reduceLE, Int.reduceNeg, Nat.reduceLeDiff, Nat.reduceLT, AV.forget]
      simpa [foundM, hv'] using h
end Go.Ai.Try
