/- A part of the proof: no statement of the seat is proved in this text. -/
import Derived.Test.YtcphpaeebaacgaaFnT
set_option linter.unusedVariables false
set_option linter.unusedSimpArgs false
set_option maxRecDepth 20000
namespace Go.Ai.Try
open Go Go.Ai Go.Proofs
variable {w0 : World}

mutual
def sizeM : U → Int → Int → Int
  | ⟨_, _, _, _, _, kids⟩, deep, most => if 20 < deep then most + 1 else sizeL kids deep most 1
def sizeL : List U → Int → Int → Int → Int
  | [], _, _, n => n
  | k :: ks, deep, most, n => if n ≤ most then sizeL ks deep most (n + sizeM k (deep + 1) (most - n)) else n
end
theorem sizeM_eq (u : U) (deep most : Int) : sizeM u deep most = if 20 < deep then most + 1 else sizeL u.kids deep most 1 := by cases u; rfl
mutual
theorem sizeM_bd : (u : U) → ∀ deep most, 0 ≤ most → 1 ≤ sizeM u deep most ∧ sizeM u deep most ≤ most + 1
  | ⟨_, _, _, _, _, kids⟩, deep, most, h => by
    simp only [sizeM]
    split
    · omega
    · exact sizeL_bd kids deep most 1 (by omega) (by omega)
theorem sizeL_bd : (l : List U) → ∀ deep most n, 1 ≤ n → n ≤ most + 1 → 1 ≤ sizeL l deep most n ∧ sizeL l deep most n ≤ most + 1
  | [], deep, most, n, h1, h2 => by simp only [sizeL]; omega
  | k :: ks, deep, most, n, h1, h2 => by
    simp only [sizeL]
    split
    · have := sizeM_bd k (deep + 1) (most - n) (by omega)
      exact sizeL_bd ks deep most _ (by omega) (by omega)
    · omega
end


theorem spec28 (u : U) (deep most : Int) (hd0 : 0 ≤ deep) (hd : deep ≤ 21) (hm0 : 0 ≤ most) (hm : most ≤ 1000000000) (H : AH) (Q : AV → AH → Prop) (h : Q (.int .i64 (sizeM u deep most)) H) : ACalls Try.prog w0 28 [eU u, .int .i64 deep, .int .i64 most] H Q := by
  refine enter28 (by simp) fun hwf hok R hR hR0 => ?_
  have hu := U.good (hok (eU u) (by simp))
  have hlen := hu.kids
  unfold x28
  simp only [go_sem, Nat.reduceEqDiff, ↓reduceIte, Nat.reduceAdd, Int.reduceLE, Int.reduceNeg, Nat.reduceLeDiff, Nat.reduceLT]
  have hs := sizeM_eq u deep most
  refine ⟨fun h1 => hR _ _ _ rfl ?_, fun h1 => ?_⟩
  · simp at h1
    rw [if_pos h1] at hs
    rw [hs] at h
    exact .same (.push (.refl hwf) _) rfl (by simp only [look]; simp; rw [wrap_i64.2 (by omega)]; exact h)
  · simp at h1
    rw [if_neg (by omega)] at hs
    rw [hs] at h
    refine AX.iter0 (S := List U × List U × Int) ttOk (fun s => [(1, .int .i64 deep), (2, .int .i64 most), (3, .ptr H.n 0), (7, .int .i64 s.2.2), (8, .int .i64 s.1.length)]) (fun s => s.2.1.length)
      (fun s => s.1 ++ s.2.1 = u.kids ∧ sizeL s.2.1 deep most s.2.2 = sizeL u.kids deep most 1 ∧ 1 ≤ s.2.2 ∧ s.2.2 ≤ most + 1) ([], u.kids, 1) ?_ ⟨rfl, rfl, by simp, by simp; omega⟩ ?_
    · simp [go_sem]
    · rintro ⟨pre, post, n⟩ ⟨h2, h3, h4, h5⟩ hk hwf' K R' hK hQ
      simp only at h2 h3 h4 h5 ⊢
      unfold l28_0
      have hend : R' .normal = R' .normal := rfl
      rcases post with _ | ⟨k, ks⟩
      · have hb := ge_of h2 eU
        simp only [go_sem, Nat.reduceEqDiff, ↓reduceIte, Nat.reduceAdd, Int.reduceLE, Int.reduceNeg, Nat.reduceLeDiff, Nat.reduceLT, hb]
        refine hQ _ _ _ ?_
        simp only [go_sem, Nat.reduceEqDiff, ↓reduceIte, Nat.reduceAdd, Int.reduceLE, Int.reduceNeg, Nat.reduceLeDiff, Nat.reduceLT, hb]
        refine hR _ _ _ rfl (.same (.push (.refl hwf) _) rfl ?_)
        simp only [look, sizeL] at h3 ⊢
        simp
        rw [h3]; exact h
      · have hb := lt_of h2 eU
        have ha := at_of h2 eU
        have hl := len_of h2
        simp only [sizeL] at h3
        simp only [go_sem, Nat.reduceEqDiff, ↓reduceIte, Nat.reduceAdd, Int.reduceLE, Int.reduceNeg, Nat.reduceLeDiff, Nat.reduceLT, hb, ha]
        refine ⟨fun h6 => ⟨by simp, ?_⟩, fun h6 => ?_⟩
        · simp at h6
          rw [if_pos h6] at h3
          rw [wrap_i64.2 (by omega), wrap_i64.2 (by omega)]
          have hbd := sizeM_bd k (deep + 1) (most - n) (by omega)
          refine spec28 k (deep + 1) (most - n) (by omega) (by omega) (by omega) (by omega) _ _ ?_
          simp only [go_sem, Nat.reduceEqDiff, ↓reduceIte, Nat.reduceAdd, Int.reduceLE, Int.reduceNeg, Nat.reduceLeDiff, Nat.reduceLT, hb, ha]
          rw [wrap_i64.2 (by omega), wrap_i64.2 (by omega)]
          refine hK _ _ (pre ++ [k], ks, _) (by simp) ⟨snoc_of h2, h3, by dsimp only; omega, by dsimp only; omega⟩ (.refl hwf') ?_
          simp only [go_sem, Nat.reduceEqDiff, ↓reduceIte, len_snoc]
          simp
        · simp at h6
          rw [if_neg (by omega)] at h3
          refine hQ _ _ _ ?_
          simp only [go_sem, Nat.reduceEqDiff, ↓reduceIte, Nat.reduceAdd, Int.reduceLE, Int.reduceNeg, Nat.reduceLeDiff, Nat.reduceLT, hb]
          refine hR _ _ _ rfl (.same (.push (.refl hwf) _) rfl ?_)
          simp only [look]
          simp
          rw [h3]; exact h
termination_by SizeOf.sizeOf u
decreasing_by exact kid_lt (mem_of h2)
end Go.Ai.Try
