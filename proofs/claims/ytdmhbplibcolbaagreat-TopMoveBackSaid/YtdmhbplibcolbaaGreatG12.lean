/- A part of the proof: no statement of the seat is proved in this text. -/
import Derived.Test.YtdmhbplibcolbaaGreatG10
set_option linter.unusedVariables false
set_option linter.unusedSimpArgs false
set_option maxRecDepth 20000
set_option maxHeartbeats 1000000
namespace Go.Ai
open Go Go.Ai.Tryz
def belowM (u : U) (id t : Id) : Bool := !decide (t = id) && decide (id ∈ ancM u t)
def besM (w : Int) : Bool := decide (w = 2) || decide (w = 3)
def goesM (u : U) (id t : Id) (w : Int) : Id × Int × Int :=
  if (!(parentM u id).2.2 || belowM u id t || (decide (t = id) && !besM w)) = true then (zeroId, 0, 9)
  else if t = id then ((parentM u id).1, (parentM u id).2.1, 0)
  else if (decide ((leadM w u t).2.2 = 0) && decide ((leadM w u t).1 = (parentM u id).1) && decide ((parentM u id).2.1 < (leadM w u t).2.1)) = true then ((leadM w u t).1, (leadM w u t).2.1 - 1, (leadM w u t).2.2)
  else leadM w u t
theorem leadM_bd (w : Int) (u : U) (id : Id) (hb : (every u).length ≤ 1000) : -1 ≤ (leadM w u id).2.1 ∧ (leadM w u id).2.1 ≤ 1001 := by
  have h1 := findM_kids u id hb
  have h2 := parentM_bd u id hb
  unfold leadM
  split
  · simp
  · split
    · simp only; omega
    · split
      · simp only; split <;> omega
      · simp
theorem ancM_len (u : U) (t : Id) (hb : (every u).length ≤ 1000) : (ancM u t).length ≤ 1000000 := by
  have := wayM_len t u
  simp [ancM, idsOf]; omega
end Go.Ai
namespace Go.Ai.Tryz
open Go Go.Ai Go.Proofs
variable {w0 : World}
theorem spec41 (u : U) (id t : Id) (w : Int) (hb : (every u).length ≤ 1000) (hs : small (every u)) (hw : 0 ≤ w ∧ w ≤ 3) (H : AH) (Q : AV → AH → Prop) (h : Q (.tup [eSp (goesM u id t w).1 (goesM u id t w).2.1, .int .i64 (goesM u id t w).2.2]) H) :
    ACalls Tryz.prog w0 41 [eU u, eId id, eId t, .int .i64 w] H Q := by
  refine enter41 (by simp) fun hwf hok R hR hR0 => ?_
  have fin : ∀ (i : Id) (a e : Int) env' H', goesM u id t w = (i, a, e) → look 8 env' = .ptr (H.n + 1 + 1 + 1) 0 → look 9 env' = .int .i64 e → H.Sub H' → H'.obj (H.n + 1 + 1 + 1) = some (.cells [.int .i64 i.act, .int .i64 i.item, .int .i64 i.n, .int .i64 a] 82) → R .ret env' H' := fun i a e env' H' h1 h2 h3 h5 h6 => by
    rw [h1] at h
    exact hR _ _ _ (ares_ct (ares1_cell (v := eSp i a) (cs := [.int .i64 i.act, .int .i64 i.item, .int .i64 i.n, .int .i64 a]) (e := 82) tt_82 h2 h6 (by decide) (by simp only [go_sem]) rfl) h3) (.same h5 rfl h)
  have hpb := parentM_bd u id hb
  have hlb := leadM_bd w u t hb
  have hbes : (if decide (w = 2) = true then true else decide (w = 3)) = besM w := by unfold besM; cases decide (w = 2) <;> rfl
  unfold x41
  obtain ⟨f, hf, hidx⟩ : ∃ f, [AV.fn 83 [], AV.fn 86 [], AV.fn 88 [], AV.fn 90 []][w.toNat]? = some (.fn f []) ∧ List.take 1 (List.drop (w.toNat * 1) [AV.fn 83 [], AV.fn 86 [], AV.fn 88 [], AV.fn 90 []]) = [.fn f []] := by
    rcases (show w = 0 ∨ w = 1 ∨ w = 2 ∨ w = 3 by omega) with rfl | rfl | rfl | rfl <;> exact ⟨_, rfl, rfl⟩
  have hg : ∀ q, parentM u id = q → ∀ x, leadM w u t = x → goesM u id t w = if (!q.2.2 || belowM u id t || (decide (t = id) && !besM w)) = true then (zeroId, 0, 9) else if t = id then (q.1, q.2.1, 0) else if (decide (x.2.2 = 0) && decide (x.1 = q.1) && decide (q.2.1 < x.2.1)) = true then (x.1, x.2.1 - 1, x.2.2) else x := fun q hq x hx => by rw [← hq, ← hx]; rfl
  have hlead := fun (H : AH) (Q : AV → AH → Prop) h => lead_of (w0 := w0) w u t hb hs hw f hf H Q h
  have hpar := fun (H : AH) (Q : AV → AH → Prop) h => spec68 (w0 := w0) u id hb H Q h
  generalize parentM u id = q at hg hpb hpar
  generalize leadM w u t = x at hg hlb hlead
  specialize hg q rfl x rfl
  obtain ⟨pi, pa, po⟩ := q
  obtain ⟨xi, xa, xe⟩ := x
  simp only at hg hpb hlb hpar hlead
  have eb0 : besM 0 = false := rfl
  have eb1 : besM 1 = false := rfl
  have eb2 : besM 2 = true := rfl
  have eb3 : besM 3 = true := rfl
  rcases (show w = 0 ∨ w = 1 ∨ w = 2 ∨ w = 3 by omega) with rfl | rfl | rfl | rfl
  all_goals
    simp only [go_sem]
    refine hpar _ _ ?_
    simp only [go_sem, dr41_0]
    simp only [eb0, eb1, eb2, eb3, belowM] at hg
  all_goals
    by_cases ht : t = id
    · have htd : decide (t = id) = true := by simp [ht]
      cases po with
      | false =>
        simp only [go_sem, htd, Bool.not_true, Bool.not_false]
        exact fin zeroId 0 9 _ _ (by rw [hg]; simp) (by simp only [go_sem]) (by simp only [go_sem]) (.push (.push (.push (.push (.push (.refl hwf) _) _) _) _) _) (by simp only [go_sem]; rfl)
      | true =>
        simp only [go_sem, htd, Bool.not_true, Bool.not_false]
        first
          | exact fin zeroId 0 9 _ _ (by rw [hg]; simp [ht]) (by simp only [go_sem]) (by simp only [go_sem]) (.push (.push (.push (.push (.push (.refl hwf) _) _) _) _) _) (by simp only [go_sem]; rfl)
          | exact fin pi pa 0 _ _ (by rw [hg]; simp [ht]) (by simp only [go_sem]) (by simp only [go_sem]) (.push (.push (.push (.push (.push (.refl hwf) _) _) _) _) _) (by simp only [go_sem])
    · have htd : decide (t = id) = false := by simp [ht]
      simp only [go_sem, htd, Bool.not_false]
      refine PCalls.of (r := .slice ((ancM u t).map eId)) (fun H' => spec70 u t hb _ _ ⟨rfl, rfl⟩) ?_
      simp only [go_sem]
      refine PCalls.of (r := .bool (decide (id ∈ ancM u t))) (fun H' => spec69 _ id (ancM_len u t hb) _ _ ⟨rfl, rfl⟩) ?_
      cases hm : decide (id ∈ ancM u t) with
      | true =>
        cases po with
        | false =>
          simp only [go_sem, htd, Bool.not_true, Bool.not_false]
          exact fin zeroId 0 9 _ _ (by rw [hg]; simp) (by simp only [go_sem]) (by simp only [go_sem]) (.push (.push (.push (.push (.push (.refl hwf) _) _) _) _) _) (by simp only [go_sem]; rfl)
        | true =>
          simp only [go_sem, htd, Bool.not_true, Bool.not_false]
          exact fin zeroId 0 9 _ _ (by rw [hg, htd, hm]; simp) (by simp only [go_sem]) (by simp only [go_sem]) (.push (.push (.push (.push (.push (.refl hwf) _) _) _) _) _) (by simp only [go_sem]; rfl)
      | false =>
        cases po with
        | false =>
          simp only [go_sem, htd, Bool.not_true, Bool.not_false]
          exact fin zeroId 0 9 _ _ (by rw [hg]; simp) (by simp only [go_sem]) (by simp only [go_sem]) (.push (.push (.push (.push (.push (.refl hwf) _) _) _) _) _) (by simp only [go_sem]; rfl)
        | true =>
          simp only [go_sem, htd, Bool.not_true, Bool.not_false, dr41_1]
          refine PCalls.of (r := .agg [.fn 83 [], .fn 86 [], .fn 88 [], .fn 90 []]) (fun H' => spec67 _ _ ⟨rfl, rfl⟩) ?_
          cases hf
          simp only [Int.reduceToNat] at hidx
          simp only [go_sem, hidx]
          refine ⟨⟨by omega, by omega⟩, ?_⟩
          refine PCalls.of (r := .tup [eSp xi xa, .int .i64 xe]) (fun H' => hlead _ _ ⟨rfl, rfl⟩) ?_
          have hxw : IntKind.i64.wrap (xa - 1) = xa - 1 := wrap_i64.2 (by omega)
          have hg1 : goesM u id t _ = _ := hg
          rw [htd, hm, if_neg (by simp), if_neg ht] at hg1
          cases c1 : decide (xe = 0) with
          | false =>
            simp only [go_sem, c1]
            exact ⟨by omega, fin xi xa xe _ _ (by rw [hg1, c1]; simp) (by simp only [go_sem]) (by simp only [go_sem]) (.push (.push (.push (.push (.push (.push (.refl hwf) _) _) _) _) _) _) (by simp only [go_sem])⟩
          | true =>
            cases c2 : decide (xi = pi) with
            | false =>
              simp only [go_sem, c1, c2]
              exact ⟨by omega, fin xi xa xe _ _ (by rw [hg1, c1, c2]; simp) (by simp only [go_sem]) (by simp only [go_sem]) (.push (.push (.push (.push (.push (.push (.refl hwf) _) _) _) _) _) _) (by simp only [go_sem])⟩
            | true =>
              cases c3 : decide (pa < xa) with
              | false =>
                simp only [go_sem, c1, c2, c3]
                exact ⟨by omega, fin xi xa xe _ _ (by rw [hg1, c1, c2, c3]; simp) (by simp only [go_sem]) (by simp only [go_sem]) (.push (.push (.push (.push (.push (.push (.refl hwf) _) _) _) _) _) _) (by simp only [go_sem])⟩
              | true =>
                simp only [go_sem, c1, c2, c3, hxw]
                exact ⟨by omega, fin xi (xa - 1) xe _ _ (by rw [hg1, c1, c2, c3]; simp) (by simp only [go_sem]) (by simp only [go_sem]) (.push (.push (.push (.push (.push (.push (.refl hwf) _) _) _) _) _) _) (by simp only [go_sem])⟩
end Go.Ai.Tryz

set_option linter.unusedVariables false
set_option linter.unusedSimpArgs false
set_option maxRecDepth 20000
set_option maxHeartbeats 1000000
namespace Go.Ai
open Go Go.Ai.Tryz
def destM (u : U) (x : It) : Id × Int × Int :=
  if x.kind = 0 then insM u x.at' x.wh else if (!decide (x.kind = 6) || !(decide (0 ≤ x.wh) && decide (x.wh ≤ 3))) = true then (zeroId, 0, 1) else
  if (oneM (idsM u x.at')).2 = 0 then
    if (oneM (idsM u x.to)).2 = 0 then
      if (goesM u (oneM (idsM u x.at')).1 (oneM (idsM u x.to)).1 x.wh).2.2 = 0 then goesM u (oneM (idsM u x.at')).1 (oneM (idsM u x.to)).1 x.wh else (zeroId, 0, (goesM u (oneM (idsM u x.at')).1 (oneM (idsM u x.to)).1 x.wh).2.2)
    else (zeroId, 0, (oneM (idsM u x.to)).2)
  else (zeroId, 0, (oneM (idsM u x.at')).2)
theorem destM_eq (u : U) (x : It) : destM u x =
  if x.kind = 0 then insM u x.at' x.wh else if (!decide (x.kind = 6) || !(decide (0 ≤ x.wh) && decide (x.wh ≤ 3))) = true then (zeroId, 0, 1) else
  if (oneM (idsM u x.at')).2 = 0 then
    if (oneM (idsM u x.to)).2 = 0 then
      if (goesM u (oneM (idsM u x.at')).1 (oneM (idsM u x.to)).1 x.wh).2.2 = 0 then goesM u (oneM (idsM u x.at')).1 (oneM (idsM u x.to)).1 x.wh else (zeroId, 0, (goesM u (oneM (idsM u x.at')).1 (oneM (idsM u x.to)).1 x.wh).2.2)
    else (zeroId, 0, (oneM (idsM u x.to)).2)
  else (zeroId, 0, (oneM (idsM u x.at')).2) := rfl
end Go.Ai
namespace Go.Ai.Tryz
open Go Go.Ai Go.Proofs
variable {w0 : World}
theorem spec12 (u : U) (x : It) (hb : (every u).length ≤ 1000) (hs : small (every u)) (H : AH) (Q : AV → AH → Prop) (h : Q (.tup [eId (destM u x).1, .int .i64 (destM u x).2.1, .int .i64 (destM u x).2.2]) H) :
    ACalls Tryz.prog w0 12 [eU u, eIt x] H Q := by
  refine enter12 (by simp) fun hwf hok R hR hR0 => ?_
  have fin : ∀ (i : Id) (e b : Int) env' H', destM u x = (i, e, b) → look 4 env' = .ptr (H.n + 1 + 1) 0 → look 5 env' = .int .i64 e → look 6 env' = .int .i64 b → H.Sub H' → H'.obj (H.n + 1 + 1) = some (.cells [.int .i64 i.act, .int .i64 i.item, .int .i64 i.n] 23) → R .ret env' H' := fun i e b env' H' h1 h2 h3 h4 h5 h6 => by
    rw [h1] at h
    exact hR _ _ _ (ares_ctt (ares1_cell (v := eId i) (cs := [.int .i64 i.act, .int .i64 i.item, .int .i64 i.n]) (e := 23) tt_23 h2 h6 (by decide) (by simp only [go_sem]) rfl) h3 h4) (.same h5 rfl h)
  unfold x12
  cases k0 : decide (x.kind = 0) with
  | true =>
    simp only [go_sem, k0]
    refine spec39 u x.at' x.wh hb hs _ _ ?_
    simp only [go_sem]
    refine fin (insM u x.at' x.wh).1 (insM u x.at' x.wh).2.1 (insM u x.at' x.wh).2.2 _ _ (by rw [destM, if_pos (by simpa using k0)]) (by simp only [go_sem]) (by simp only [go_sem]) (by simp only [go_sem]) (.push (.push (.push (.refl hwf) _) _) _) (by simp only [go_sem])
  | false =>
    have hd0 := destM_eq u x
    rw [if_neg (by simpa using k0)] at hd0
    cases k6 : decide (x.kind = 6) with
    | false =>
      simp only [go_sem, k0, k6, Bool.not_false]
      exact fin zeroId 0 1 _ _ (by rw [hd0, k6]; rfl) (by simp only [go_sem]) (by simp only [go_sem]) (by simp only [go_sem]) (.push (.push (.push (.refl hwf) _) _) _) (by simp only [go_sem])
    | true =>
      simp only [go_sem, k0, k6, Bool.not_true]
      refine spec40 x.wh _ _ ?_
      cases hw : (decide (0 ≤ x.wh) && decide (x.wh ≤ 3)) with
      | false =>
        simp only [go_sem, hw, Bool.not_false]
        exact fin zeroId 0 1 _ _ (by rw [hd0, k6, hw]; rfl) (by simp only [go_sem]) (by simp only [go_sem]) (by simp only [go_sem]) (.push (.push (.push (.refl hwf) _) _) _) (by simp only [go_sem])
      | true =>
        rw [k6, hw, if_neg (by simp)] at hd0
        have hw' : 0 ≤ x.wh ∧ x.wh ≤ 3 := by simpa using hw
        simp only [go_sem, hw, Bool.not_true]
        refine spec37 u x.at' hb _ _ ?_
        simp only [go_sem]
        by_cases he : (oneM (idsM u x.at')).2 = 0
        · rw [if_pos he] at hd0
          simp only [go_sem, he, Bool.not_true]
          refine spec37 u x.to hb _ _ ?_
          simp only [go_sem]
          by_cases hf : (oneM (idsM u x.to)).2 = 0
          · rw [if_pos hf] at hd0
            simp only [go_sem, hf, Bool.not_true]
            refine spec41 u _ _ x.wh hb hs hw' _ _ ?_
            simp only [go_sem]
            generalize goesM u (oneM (idsM u x.at')).1 (oneM (idsM u x.to)).1 x.wh = g at hd0
            by_cases hg : g.2.2 = 0
            · rw [if_pos hg] at hd0
              simp only [go_sem, hg, Bool.not_true, dr12_0]
              exact fin g.1 g.2.1 0 _ _ (by rw [hd0]; exact Prod.ext rfl (Prod.ext rfl hg)) (by simp only [go_sem]) (by simp only [go_sem]) (by simp only [go_sem]) (.push (.push (.push (.push (.push (.push (.refl hwf) _) _) _) _) _) _) (by simp only [go_sem])
            · rw [if_neg hg] at hd0
              simp only [go_sem, hg, Bool.not_false]
              exact fin zeroId 0 g.2.2 _ _ hd0 (by simp only [go_sem]) (by simp only [go_sem]) (by simp only [go_sem]) (.push (.push (.push (.push (.push (.push (.refl hwf) _) _) _) _) _) _) (by simp only [go_sem])
          · rw [if_neg hf] at hd0
            simp only [go_sem, hf, Bool.not_false]
            exact fin zeroId 0 (oneM (idsM u x.to)).2 _ _ hd0 (by simp only [go_sem]) (by simp only [go_sem]) (by simp only [go_sem]) (.push (.push (.push (.push (.push (.refl hwf) _) _) _) _) _) (by simp only [go_sem])
        · rw [if_neg he] at hd0
          simp only [go_sem, he, Bool.not_false]
          exact fin zeroId 0 (oneM (idsM u x.at')).2 _ _ hd0 (by simp only [go_sem]) (by simp only [go_sem]) (by simp only [go_sem]) (.push (.push (.push (.push (.refl hwf) _) _) _) _) (by simp only [go_sem])
end Go.Ai.Tryz
