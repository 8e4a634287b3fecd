/- A part of the proof: no statement of the seat is proved in this text. -/
import Derived.Test.YtdmhbplibcolbaaGreatG2
import Derived.Test.YtdmhbplibcolbaaGreatFnT
set_option linter.unusedVariables false
set_option linter.unusedSimpArgs false
namespace Go.Ai.Tryz
open Go Go.Ai Go.Proofs
variable {w0 : World}
theorem spec46 (u : U) (hb : (every u).length ≤ 1000) (H : AH) (Q : AV → AH → Prop) (h : ∀ d : Int, 0 ≤ d → d ≤ (every u).length → Q (.int .i64 d) H) : ACalls Tryz.prog w0 46 [eU u] H Q := by
  refine enter46 (by simp) fun hwf hok R hR hR0 => ?_
  have hkl := len_everyL u.kids
  have hu1 : (every u).length = (everyL u.kids).length + 1 := by rw [every_eq]; simp
  unfold x46
  simp only [go_sem]
  refine AX.iter (S := List U × List U × Int) ttOk (fun a => [(1, .ptr H.n 0), (3, .int .i64 a.2.2), (4, .int .i64 a.1.length)]) (fun a => H.push (.cells u.cs 27)) (fun a => a.2.1.length)
    (fun a => a.1 ++ a.2.1 = u.kids ∧ 0 ≤ a.2.2 ∧ a.2.2 ≤ (every u).length) ([], u.kids, 0) ?_ rfl ⟨rfl, by simp, by simp⟩ ?_
  · simp only [go_sem]
  · rintro ⟨pre, post, d⟩ ⟨h2, h3, h4⟩ hk hwf' K R' hK hQ
    simp only at h2 h3 h4 hK ⊢
    unfold l46_0
    rcases post with _ | ⟨k, ks⟩
    · have hb := ge_of h2 eU
      simp only [go_sem, U.cs, hb]
      refine hQ _ _ _ ?_
      simp only [go_sem]
      exact hR _ _ _ rfl (.same (.push (.refl hwf) _) rfl (h d h3 h4))
    · have hb'' := lt_of h2 eU
      have ha := at_of h2 eU
      have hl := len_of h2
      have hsum : everyL u.kids = everyL pre ++ (every k ++ everyL ks) := by rw [← h2, everyL_append]; rfl
      have hle : (every k).length + 1 ≤ (every u).length := by rw [hu1, hsum, List.length_append, List.length_append]; omega
      have hw : IntKind.i64.wrap ((pre.length : Int) + 1) = pre.length + 1 := wrap_i64.2 (by omega)
      simp only [go_sem, U.cs, hb'', ha, hw]
      refine ⟨by omega, ?_⟩
      refine spec46 k (by omega) _ _ fun dk q1 q2 => ?_
      simp only [go_sem, hw]
      rw [wrap_i64.2 (by omega)]
      refine hK _ _ (pre ++ [k], ks, if d < 1 + dk then 1 + dk else d) (by simp) ⟨snoc_of h2, ?_, ?_⟩ (.refl hwf') (Nat.le_refl _) (Nat.le_refl _) ?_
      · simp only; split <;> omega
      · simp only; split <;> omega
      · simp only [go_sem, len_snoc]
        simp
termination_by SizeOf.sizeOf u
decreasing_by exact kid_lt (mem_of h2)
theorem spec47 (u : U) (hb : (every u).length ≤ 1000) (H : AH) (Q : AV → AH → Prop) (h : ∀ d : Int, 0 ≤ d → d ≤ (every u).length → Q (.int .i64 d) H) : ACalls Tryz.prog w0 47 [eU u] H Q := by
  refine enter47 (by simp) fun hwf hok R hR hR0 => ?_
  have hkl := len_everyL u.kids
  have hu1 : (every u).length = (everyL u.kids).length + 1 := by rw [every_eq]; simp
  unfold x47
  simp only [go_sem]
  refine AX.iter (S := List U × List U × Int) ttOk (fun a => [(1, .ptr H.n 0), (3, .int .i64 a.2.2), (4, .int .i64 a.1.length)]) (fun a => H.push (.cells u.cs 27)) (fun a => a.2.1.length)
    (fun a => a.1 ++ a.2.1 = u.kids ∧ 0 ≤ a.2.2 ∧ a.2.2 ≤ (everyL a.1).length + 1) ([], u.kids, 1) ?_ rfl ⟨rfl, by simp, by simp only; omega⟩ ?_
  · simp only [go_sem]
  · rintro ⟨pre, post, d⟩ ⟨h2, h3, h4⟩ hk hwf' K R' hK hQ
    simp only at h2 h3 h4 hK ⊢
    unfold l47_0
    rcases post with _ | ⟨k, ks⟩
    · have hb := ge_of h2 eU
      simp only [go_sem, U.cs, hb]
      refine hQ _ _ _ ?_
      simp only [go_sem]
      rw [List.append_nil] at h2
      exact hR _ _ _ rfl (.same (.push (.refl hwf) _) rfl (h d h3 (by rw [hu1, ← h2]; omega)))
    · have hb'' := lt_of h2 eU
      have ha := at_of h2 eU
      have hl := len_of h2
      have hsum : everyL u.kids = everyL pre ++ (every k ++ everyL ks) := by rw [← h2, everyL_append]; rfl
      have hle : (everyL pre).length + (every k).length + 1 ≤ (every u).length := by rw [hu1, hsum, List.length_append, List.length_append]; omega
      have hw : IntKind.i64.wrap ((pre.length : Int) + 1) = pre.length + 1 := wrap_i64.2 (by omega)
      simp only [go_sem, U.cs, hb'', ha, hw]
      refine ⟨by omega, ?_⟩
      refine spec47 k (by omega) _ _ fun dk q1 q2 => ?_
      simp only [go_sem, hw]
      rw [wrap_i64.2 (by omega)]
      refine hK _ _ (pre ++ [k], ks, d + dk) (by simp) ⟨snoc_of h2, by simp only; omega, by simp only; rw [everyL_snoc, List.length_append]; omega⟩ (.refl hwf') (Nat.le_refl _) (Nat.le_refl _) ?_
      simp only [go_sem, len_snoc]
      simp
termination_by SizeOf.sizeOf u
decreasing_by exact kid_lt (mem_of h2)
theorem spec74 (u : U) (hb : (every u).length ≤ 1000) (H : AH) (Q : AV → AH → Prop) (h : Q (.slice ((idsOf (every u)).map eId)) H) : ACalls Tryz.prog w0 74 [eU u] H Q := by
  refine enter74 (by simp) fun hwf hok R hR hR0 => ?_
  have hkl := len_everyL u.kids
  have hu1 : (every u).length = (everyL u.kids).length + 1 := by rw [every_eq]; simp
  unfold x74
  simp only [go_sem]
  refine ⟨by omega, ?_⟩
  refine AX.iter (S := List U × List U) ttOk (fun a => [(1, .ptr H.n 0), (3, .own ((idsOf (u :: everyL a.1)).map eId) H.m), (4, .int .i64 a.1.length)]) (fun a => (H.push (.cells u.cs 27)).pushTok ⟨((idsOf (u :: everyL a.1)).map eId).length, 23, 3⟩) (fun a => a.2.length)
    (fun a => a.1 ++ a.2 = u.kids) ([], u.kids) ?_ rfl rfl ?_
  · simp only [go_sem, everyL, idsOf]
  · rintro ⟨pre, post⟩ h2 hk hwf' K R' hK hQ
    simp only at h2 hK ⊢
    unfold l74_0
    rcases post with _ | ⟨k, ks⟩
    · have hb := ge_of h2 eU
      simp only [go_sem, U.cs, hb]
      refine hQ _ _ _ ?_
      simp only [go_sem]
      rw [List.append_nil] at h2
      refine hR _ _ _ rfl (.forget (.pushTok (.push (.refl hwf) _) _) ?_ ?_)
      · simp only [go_sem, AV.forget]
      · simp only [go_sem, AV.forget]
        rw [h2, ← every_eq]; exact h
    · have hb'' := lt_of h2 eU
      have ha := at_of h2 eU
      have hl := len_of h2
      have hsum : everyL u.kids = everyL pre ++ (every k ++ everyL ks) := by rw [← h2, everyL_append]; rfl
      have hle : (everyL pre).length + (every k).length + 1 ≤ (every u).length := by rw [hu1, hsum, List.length_append, List.length_append]; omega
      have hw : IntKind.i64.wrap ((pre.length : Int) + 1) = pre.length + 1 := wrap_i64.2 (by omega)
      simp only [go_sem, U.cs, hb'', ha, hw]
      refine ⟨by omega, ?_⟩
      refine spec74 k (by omega) _ _ ?_
      simp only [go_sem, hw]
      refine ⟨elem_eId _, ⟨by simp only [List.length_map, idsOf_len, List.length_cons]; omega, by simp only [List.length_map, idsOf_len, List.length_cons]; omega⟩, ?_⟩
      have e : (idsOf (u :: everyL (pre ++ [k]))).map eId = (idsOf (u :: everyL pre)).map eId ++ (idsOf (every k)).map eId := by rw [everyL_snoc]; simp [idsOf]
      refine hK _ _ (pre ++ [k], ks) (by simp) (snoc_of h2) ?_ (Nat.le_refl _) (Nat.le_refl _) ?_
      · rw [e]
        refine .refl (WF_pushTok (WF_push_cells hwf _ _ ?_) _)
        simp only [go_sem, U.cs]
      · simp only [go_sem, len_snoc, e]
        simp
termination_by SizeOf.sizeOf u
decreasing_by exact kid_lt (mem_of h2)
end Go.Ai.Tryz

set_option linter.unusedVariables false
set_option linter.unusedSimpArgs false
namespace Go.Ai
open Go Go.Ai.Tryz
def distM (pre : List Id) : List Id → Bool
  | [] => true
  | k :: ks => !(pre.any fun y => decide (y = k)) && distM (pre ++ [k]) ks
def zerosM (l : List Id) : Bool := l.all fun y => decide (y = zeroId)
def idsOkM (u : U) : Bool := zerosM (idsOf (every u)) || (decide (u.id = zeroId) == decide (u.kind = 0)) && distM [] (idsOf (every u))
theorem distM_nodup (pre l : List Id) (hp : pre.Nodup) (h : distM pre l = true) : (pre ++ l).Nodup := by
  induction l generalizing pre with
  | nil => simpa using hp
  | cons k ks ih =>
    simp only [distM, Bool.and_eq_true, Bool.not_eq_true', List.any_eq_false, decide_eq_true_eq] at h
    have := ih (pre ++ [k]) (by
      rw [List.nodup_append]
      refine ⟨hp, by simp, fun a ha b hb => ?_⟩
      simp at hb; subst hb
      exact h.1 a ha) h.2
    simpa using this
end Go.Ai
namespace Go.Ai.Tryz
open Go Go.Ai Go.Proofs
variable {w0 : World}
theorem spec48 (u : U) (hb : (every u).length ≤ 1000) (H : AH) (Q : AV → AH → Prop) (h : Q (.bool (idsOkM u)) H) : ACalls Tryz.prog w0 48 [eU u] H Q := by
  refine enter48 (by simp) fun hwf hok R hR hR0 => ?_
  have fin : ∀ b env' H', look 2 env' = .bool b → H.Sub H' → idsOkM u = b → R .ret env' H' := fun b env' H' h2 h3 h4 => hR _ _ _ rfl (.same h3 (by rw [h2]; rfl) (by rw [h2, ← h4]; exact h))
  have hT : (H.push (.cells u.cs 27)).WF := WF_push_cells hwf _ _ (by simp only [go_sem, U.cs])
  unfold x48
  simp only [go_sem]
  refine spec74 u hb _ _ ?_
  simp only [go_sem]
  have hlen : (idsOf (every u)).length ≤ 1000 := by rw [idsOf_len]; exact hb
  have hne : ∃ r, idsOf (every u) = u.id :: r := ⟨_, by rw [every_eq]; rfl⟩
  have hok : idsOkM u = (zerosM (idsOf (every u)) || (decide (u.id = zeroId) == decide (u.kind = 0)) && distM [] (idsOf (every u))) := rfl
  generalize idsOf (every u) = l at hlen hne hok ⊢
  refine AX.iter (S := List Id × List Id × Bool) ttOk (fun a => [(1, .ptr H.n 0), (3, .slice (l.map eId)), (4, .bool a.2.2), (5, .int .i64 a.1.length)]) (fun a => H.push (.cells u.cs 27)) (fun a => a.2.1.length)
    (fun a => a.1 ++ a.2.1 = l ∧ a.2.2 = zerosM a.1) ([], l, true) ?_ rfl ⟨rfl, rfl⟩ ?_
  · simp only [go_sem]
  · rintro ⟨pre, post, b⟩ ⟨h2, h3⟩ hk hwf' K R' hK hQ
    simp only at h2 h3 hK ⊢
    unfold l48_0
    rcases post with _ | ⟨k, ks⟩
    · have hb := ge_of h2 eId
      simp only [go_sem, U.cs, hb]
      refine hQ _ _ _ ?_
      cases b with
      | true =>
        simp only [go_sem]
        exact fin true _ _ (by simp only [go_sem]) (.push (.refl hwf) _) (by rw [hok, ← h2, List.append_nil, ← h3]; rfl)
      | false =>
        obtain ⟨r0, hir⟩ := hne
        have ha0 : (l.map eId)[0]? = some (eId u.id) := by rw [hir]; rfl
        have hz : zerosM l = false := by rw [← h2, List.append_nil]; exact h3.symm
        simp only [go_sem, dr48_0, ha0]
        refine ⟨fun e => fin false _ _ (by simp only [go_sem]) (.push (.refl hwf) _) (by rw [hok, hz]; revert e; cases decide (u.id = zeroId) <;> cases decide (u.kind = 0) <;> simp), fun e => ?_⟩
        have hok2 : idsOkM u = distM [] l := by rw [hok, hz]; revert e; cases decide (u.id = zeroId) <;> cases decide (u.kind = 0) <;> simp
        refine AX.iter (S := List Id × List Id) ttOk (fun a => [(3, .slice (l.map eId)), (6, .int .i64 a.1.length)]) (fun a => H.push (.cells u.cs 27)) (fun a => a.2.length)
          (fun a => a.1 ++ a.2 = l ∧ distM a.1 a.2 = distM [] l) ([], l) ?_ rfl ⟨rfl, rfl⟩ ?_
        · simp only [go_sem]
        · rintro ⟨pre2, post2⟩ ⟨g2, g3⟩ hk2 hwf2 K2 R2 hK2 hQ2
          simp only at g2 g3 hK2 ⊢
          unfold l48_2
          rcases post2 with _ | ⟨k, ks⟩
          · have hb := ge_of g2 eId
            simp only [go_sem, hb]
            refine hQ2 _ _ _ ?_
            simp only [go_sem]
            exact fin true _ _ (by simp only [go_sem]) (.push (.refl hwf) _) (by rw [hok2, ← g3]; rfl)
          · have hb := lt_of g2 eId
            have ha := at_of g2 eId
            have hl := len_of g2
            have hw : IntKind.i64.wrap ((pre2.length : Int) + 1) = pre2.length + 1 := wrap_i64.2 (by omega)
            simp only [go_sem, hb]
            refine AX.iter (S := List Id × List Id) ttOk (fun a => [(3, .slice (l.map eId)), (6, .int .i64 pre2.length), (7, .int .i64 a.1.length)]) (fun a => H.push (.cells u.cs 27)) (fun a => a.2.length)
              (fun a => a.1 ++ a.2 = pre2 ∧ (pre2.any fun y => decide (y = k)) = (a.2.any fun y => decide (y = k))) ([], pre2) ?_ rfl ⟨rfl, rfl⟩ ?_
            · simp only [go_sem]
            · rintro ⟨p1, p2⟩ ⟨f2, f3⟩ hk3 hwf3 K3 R3 hK3 hQ3
              simp only at f2 f3 hK3 ⊢
              unfold l48_1
              rcases p2 with _ | ⟨y, p2⟩
              · have e1 : decide ((p1.length : Int) < (pre2.length : Int)) = false := by rw [← f2]; simp
                simp only [go_sem, e1]
                refine hQ3 _ _ _ ?_
                simp only [go_sem, hw]
                refine hK2 _ _ (pre2 ++ [k], ks) (by simp) ⟨snoc_of g2, by rw [← g3, distM, f3]; rfl⟩ (.refl hwf2) (Nat.le_refl _) (Nat.le_refl _) ?_
                simp only [go_sem, len_snoc]
              · have e1 : decide ((p1.length : Int) < (pre2.length : Int)) = true := by rw [← f2]; simp; omega
                have hl2 : p1.length < pre2.length := by rw [← f2]; simp
                have hkids : p1 ++ y :: (p2 ++ k :: ks) = l := by rw [← g2, ← f2]; simp
                have ha2 := at_of hkids eId
                have hw2 : IntKind.i64.wrap ((p1.length : Int) + 1) = p1.length + 1 := wrap_i64.2 (by omega)
                simp only [go_sem, e1, dr48_1, ha, ha2, hw2]
                refine ⟨by omega, by omega, fun e => ?_, fun e => ?_⟩
                · refine hQ3 _ _ _ ?_
                  simp only [go_sem]
                  refine hQ2 _ _ _ ?_
                  simp only [go_sem]
                  exact fin false _ _ (by simp only [go_sem]) (.push (.refl hwf) _) (by rw [hok2, ← g3, distM, f3, List.any_cons, e]; rfl)
                · refine hK3 _ _ (p1 ++ [y], p2) (by simp) ⟨snoc_of f2, by rw [f3, List.any_cons, e]; rfl⟩ (.refl hwf3) (Nat.le_refl _) (Nat.le_refl _) ?_
                  simp only [go_sem, len_snoc]
    · have hb := lt_of h2 eId
      have ha := at_of h2 eId
      have hl := len_of h2
      have hw : IntKind.i64.wrap ((pre.length : Int) + 1) = pre.length + 1 := wrap_i64.2 (by omega)
      have go : ∀ b' env' H', b' = zerosM (pre ++ [k]) → look 1 env' = .ptr H.n 0 → look 3 env' = .slice (l.map eId) → look 4 env' = .bool b' → look 5 env' = .int .i64 (pre.length + 1) → H' = H.push (.cells u.cs 27) → K env' H' := fun b' env' H' q0 q1 q2 q3 q4 q5 => by
        subst q5
        refine hK _ _ (pre ++ [k], ks, b') (by simp) ⟨snoc_of h2, q0⟩ (.refl hwf') (Nat.le_refl _) (Nat.le_refl _) ?_
        simp only [go_sem, q1, q2, q3, q4, len_snoc]
        simp
      cases b with
      | true =>
        simp only [go_sem, hb, ha, hw]
        refine ⟨by omega, ?_⟩
        exact go (decide (k = zeroId)) _ _ (by rw [zerosM, List.all_append, ← zerosM, ← h3]; simp) (by simp only [go_sem]) (by simp only [go_sem]) (by simp only [go_sem]) (by simp only [go_sem]) rfl
      | false =>
        simp only [go_sem, hb, ha, hw]
        exact go false _ _ (by rw [zerosM, List.all_append, ← zerosM, ← h3]; simp) (by simp only [go_sem]) (by simp only [go_sem]) (by simp only [go_sem]) (by simp only [go_sem]) rfl
end Go.Ai.Tryz

set_option linter.unusedVariables false
set_option linter.unusedSimpArgs false
set_option maxRecDepth 20000
namespace Go.Ai.Tryz
open Go Go.Ai Go.Proofs
variable {w0 : World}
mutual
def sizeM : U → Int → Int → Int
  | ⟨_, _, _, _, _, kids⟩, deep, most => if 20 < deep then most + 1 else sizeL kids deep most 1
def sizeL : List U → Int → Int → Int → Int
  | [], _, _, n => n
  | k :: ks, deep, most, n => if n ≤ most then sizeL ks deep most (n + sizeM k (deep + 1) (most - n)) else n
end
theorem sizeM_eq (u : U) (deep most : Int) : sizeM u deep most = if 20 < deep then most + 1 else sizeL u.kids deep most 1 := by cases u; rfl
mutual
theorem sizeM_bd : (u : U) → ∀ deep most, 0 ≤ most → 1 ≤ sizeM u deep most ∧ sizeM u deep most ≤ most + 1
  | ⟨_, _, _, _, _, kids⟩, deep, most, h => by
    simp only [sizeM]
    split
    · omega
    · exact sizeL_bd kids deep most 1 (by omega) (by omega)
theorem sizeL_bd : (l : List U) → ∀ deep most n, 1 ≤ n → n ≤ most + 1 → 1 ≤ sizeL l deep most n ∧ sizeL l deep most n ≤ most + 1
  | [], deep, most, n, h1, h2 => by simp only [sizeL]; omega
  | k :: ks, deep, most, n, h1, h2 => by
    simp only [sizeL]
    split
    · have := sizeM_bd k (deep + 1) (most - n) (by omega)
      exact sizeL_bd ks deep most _ (by omega) (by omega)
    · omega
end
theorem spec43 (u : U) (deep most : Int) (hd0 : 0 ≤ deep) (hd : deep ≤ 21) (hm0 : 0 ≤ most) (hm : most ≤ 1000000000) (H : AH) (Q : AV → AH → Prop) (h : Q (.int .i64 (sizeM u deep most)) H) : ACalls Tryz.prog w0 43 [eU u, .int .i64 deep, .int .i64 most] H Q := by
  refine enter43 (by simp) fun hwf hok R hR hR0 => ?_
  have hu := U.good (hok (eU u) (by simp))
  have hlen := hu.kids
  unfold x43
  simp only [go_sem, Nat.reduceEqDiff, ↓reduceIte, Nat.reduceAdd, Int.reduceLE, Int.reduceNeg, Nat.reduceLeDiff, Nat.reduceLT]
  have hs := sizeM_eq u deep most
  refine ⟨fun h1 => hR _ _ _ rfl ?_, fun h1 => ?_⟩
  · simp at h1
    rw [if_pos h1] at hs
    rw [hs] at h
    exact .same (.push (.refl hwf) _) rfl (by simp only [look]; simp; rw [wrap_i64.2 (by omega)]; exact h)
  · simp at h1
    rw [if_neg (by omega)] at hs
    rw [hs] at h
    refine AX.iter0 (S := List U × List U × Int) ttOk (fun s => [(1, .int .i64 deep), (2, .int .i64 most), (3, .ptr H.n 0), (7, .int .i64 s.2.2), (8, .int .i64 s.1.length)]) (fun s => s.2.1.length)
      (fun s => s.1 ++ s.2.1 = u.kids ∧ sizeL s.2.1 deep most s.2.2 = sizeL u.kids deep most 1 ∧ 1 ≤ s.2.2 ∧ s.2.2 ≤ most + 1) ([], u.kids, 1) ?_ ⟨rfl, rfl, by simp, by simp; omega⟩ ?_
    · simp [go_sem]
    · rintro ⟨pre, post, n⟩ ⟨h2, h3, h4, h5⟩ hk hwf' K R' hK hQ
      simp only at h2 h3 h4 h5 ⊢
      unfold l43_0
      have hend : R' .normal = R' .normal := rfl
      rcases post with _ | ⟨k, ks⟩
      · have hb := ge_of h2 eU
        simp only [go_sem, Nat.reduceEqDiff, ↓reduceIte, Nat.reduceAdd, Int.reduceLE, Int.reduceNeg, Nat.reduceLeDiff, Nat.reduceLT, hb]
        refine hQ _ _ _ ?_
        simp only [go_sem, Nat.reduceEqDiff, ↓reduceIte, Nat.reduceAdd, Int.reduceLE, Int.reduceNeg, Nat.reduceLeDiff, Nat.reduceLT, hb]
        refine hR _ _ _ rfl (.same (.push (.refl hwf) _) rfl ?_)
        simp only [look, sizeL] at h3 ⊢
        simp
        rw [h3]; exact h
      · have hb := lt_of h2 eU
        have ha := at_of h2 eU
        have hl := len_of h2
        simp only [sizeL] at h3
        simp only [go_sem, Nat.reduceEqDiff, ↓reduceIte, Nat.reduceAdd, Int.reduceLE, Int.reduceNeg, Nat.reduceLeDiff, Nat.reduceLT, hb, ha]
        refine ⟨fun h6 => ⟨by simp, ?_⟩, fun h6 => ?_⟩
        · simp at h6
          rw [if_pos h6] at h3
          rw [wrap_i64.2 (by omega), wrap_i64.2 (by omega)]
          have hbd := sizeM_bd k (deep + 1) (most - n) (by omega)
          refine spec43 k (deep + 1) (most - n) (by omega) (by omega) (by omega) (by omega) _ _ ?_
          simp only [go_sem, Nat.reduceEqDiff, ↓reduceIte, Nat.reduceAdd, Int.reduceLE, Int.reduceNeg, Nat.reduceLeDiff, Nat.reduceLT, hb, ha]
          rw [wrap_i64.2 (by omega), wrap_i64.2 (by omega)]
          refine hK _ _ (pre ++ [k], ks, _) (by simp) ⟨snoc_of h2, h3, by dsimp only; omega, by dsimp only; omega⟩ (.refl hwf') ?_
          simp only [go_sem, Nat.reduceEqDiff, ↓reduceIte, len_snoc]
          simp
        · simp at h6
          rw [if_neg (by omega)] at h3
          refine hQ _ _ _ ?_
          simp only [go_sem, Nat.reduceEqDiff, ↓reduceIte, Nat.reduceAdd, Int.reduceLE, Int.reduceNeg, Nat.reduceLeDiff, Nat.reduceLT, hb]
          refine hR _ _ _ rfl (.same (.push (.refl hwf) _) rfl ?_)
          simp only [look]
          simp
          rw [h3]; exact h
termination_by SizeOf.sizeOf u
decreasing_by exact kid_lt (mem_of h2)
end Go.Ai.Tryz
