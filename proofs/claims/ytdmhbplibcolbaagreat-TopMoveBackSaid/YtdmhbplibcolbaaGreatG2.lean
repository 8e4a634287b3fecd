/- A part of the proof: no statement of the seat is proved in this text. -/
import Derived.Test.YtdmhbplibcolbaaGreatIns
set_option linter.unusedVariables false
set_option linter.unusedSimpArgs false
namespace Go.Ai
open Go Go.Ai.Tryz
def nestsM (p k : Int) : Bool :=
  if p = 0 then decide (k = 1) || decide (k = 2) else if p = 1 then decide (k = 2) else if p = 2 ∨ p = 3 then decide (k = 3) || decide (k = 4) || decide (k = 7)
  else if p = 4 then decide (k = 5) else if p = 5 then decide (k = 6) else false
def aloneM (u : U) : Bool :=
  if u.kind < 0 ∨ 7 < u.kind ∨ 64 < u.kids.length ∨ rowOk u.head = false ∨ rowOk u.words = false then false
  else if u.kind = 0 then decide (u.label = ⟨#[]⟩) && decide (u.head.length = 0) && decide (u.words.length = 0) else labelOk u.label
end Go.Ai
namespace Go.Ai.Tryz
open Go Go.Ai Go.Proofs
variable {w0 : World}
theorem spec73 (p k : Int) (H : AH) (Q : AV → AH → Prop) (h : Q (.bool (nestsM p k)) H) : ACalls Tryz.prog w0 73 [.int .i64 p, .int .i64 k] H Q := by
  refine enter73 (by simp) fun hwf hok R hR hR0 => ?_
  have fin : ∀ b env', look 4 env' = .bool b → nestsM p k = b → R .ret env' H := fun b env' h2 h1 => hR _ _ _ rfl (.same (.refl hwf) (by rw [h2]; rfl) (by rw [h2, ← h1]; exact h))
  unfold x73
  by_cases p0 : p = 0
  · subst p0
    simp only [go_sem]
    refine ⟨fun h1 => fin _ _ (by simp only [go_sem]; rfl) ?_, fun h1 => fin _ _ (by simp only [go_sem]; rfl) ?_⟩ <;> simp at h1 <;> simp [nestsM, h1]
  by_cases p1 : p = 1
  · subst p1
    simp only [go_sem]
    exact fin _ _ (by simp only [go_sem]; rfl) (by simp [nestsM])
  by_cases p2 : p = 2
  · subst p2
    by_cases k3 : k = 3
    · simp only [go_sem, k3]
      exact fin true _ (by simp only [go_sem]) (by simp [nestsM, k3])
    by_cases k4 : k = 4
    · simp only [go_sem, k4]
      exact fin true _ (by simp only [go_sem]) (by simp [nestsM, k4])
    simp only [go_sem, k3, k4]
    exact fin (decide (k = 7)) _ (by simp only [go_sem]) (by simp [nestsM, k3, k4])
  by_cases p3 : p = 3
  · subst p3
    by_cases k3 : k = 3
    · simp only [go_sem, k3]
      exact fin true _ (by simp only [go_sem]) (by simp [nestsM, k3])
    by_cases k4 : k = 4
    · simp only [go_sem, k4]
      exact fin true _ (by simp only [go_sem]) (by simp [nestsM, k4])
    simp only [go_sem, k3, k4]
    exact fin (decide (k = 7)) _ (by simp only [go_sem]) (by simp [nestsM, k3, k4])
  by_cases p4 : p = 4
  · subst p4
    simp only [go_sem]
    exact fin _ _ (by simp only [go_sem]; rfl) (by simp [nestsM])
  by_cases p5 : p = 5
  · subst p5
    simp only [go_sem]
    exact fin _ _ (by simp only [go_sem]; rfl) (by simp [nestsM])
  simp only [go_sem, p0, p1, p2, p3, p4, p5]
  exact fin _ _ (by simp only [go_sem]; rfl) (by simp [nestsM, p0, p1, p2, p3, p4, p5])
theorem spec72 (u : U) (hs : u.head.length ≤ 1000000 ∧ u.words.length ≤ 1000000) (H : AH) (Q : AV → AH → Prop) (h : Q (.bool (aloneM u)) H) : ACalls Tryz.prog w0 72 [eU u] H Q := by
  refine enter72 (by simp) fun hwf hok R hR hR0 => ?_
  have fin : ∀ b env' H', look 2 env' = .bool b → H.Sub H' → aloneM u = b → R .ret env' H' := fun b env' H' h2 h3 h1 => hR _ _ _ rfl (.same h3 (by rw [h2]; rfl) (by rw [h2, ← h1]; exact h))
  unfold x72
  by_cases h1 : u.kind < 0
  · simp only [go_sem, h1]
    exact fin false _ _ (by simp only [go_sem]) (.push (.refl hwf) _) (by simp [aloneM, h1])
  by_cases h2 : 7 < u.kind
  · simp only [go_sem, h1, h2]
    exact fin false _ _ (by simp only [go_sem]) (.push (.refl hwf) _) (by simp [aloneM, h2])
  by_cases h3 : 64 < u.kids.length
  · have e3 : decide (64 < (((u.kids.map eU).length : Nat) : Int)) = true := by simp; omega
    simp only [go_sem, h1, h2, e3]
    exact fin false _ _ (by simp only [go_sem]) (.push (.refl hwf) _) (by simp [aloneM, h3])
  have e3 : decide (64 < (((u.kids.map eU).length : Nat) : Int)) = false := by simp; omega
  simp only [go_sem, h1, h2, e3]
  refine spec95 u.head hs.1 _ _ ?_
  by_cases h4 : rowOk u.head = true
  · simp only [go_sem, h4, Bool.not_true]
    refine spec95 u.words hs.2 _ _ ?_
    by_cases h5 : rowOk u.words = true
    · have hrest : aloneM u = if u.kind = 0 then decide (u.label = ⟨#[]⟩) && decide (u.head.length = 0) && decide (u.words.length = 0) else labelOk u.label := by simp [aloneM, h1, h2, h3, h4, h5]
      simp only [go_sem, h5, Bool.not_true]
      by_cases h6 : u.kind = 0
      · rw [if_pos h6] at hrest
        simp only [go_sem, h6]
        simp only [decide_eq_true_eq, decide_eq_false_iff_not, List.length_map]
        refine ⟨fun g1 => ⟨fun g2 => ?_, fun g2 => ?_⟩, fun g1 => ?_⟩
        · exact fin (decide (u.words.length = 0)) _ _ (by simp only [go_sem]; simp) (.push (.refl hwf) _) (by rw [hrest]; simp at g2; simp [g1, g2])
        · exact fin false _ _ (by simp only [go_sem]) (.push (.refl hwf) _) (by rw [hrest]; simp at g2; simp [g1, g2])
        · exact fin false _ _ (by simp only [go_sem]) (.push (.refl hwf) _) (by rw [hrest]; simp [g1])
      · rw [if_neg h6] at hrest
        simp only [go_sem, h6]
        refine spec25 u.label _ _ ?_
        simp only [go_sem]
        exact fin (labelOk u.label) _ _ (by simp only [go_sem]) (.push (.refl hwf) _) hrest
    · have h5' : rowOk u.words = false := by simpa using h5
      simp only [go_sem, h5', Bool.not_false]
      exact fin false _ _ (by simp only [go_sem]) (.push (.refl hwf) _) (by simp [aloneM, h5'])
  · have h4' : rowOk u.head = false := by simpa using h4
    simp only [go_sem, h4', Bool.not_false]
    exact fin false _ _ (by simp only [go_sem]) (.push (.refl hwf) _) (by simp [aloneM, h4'])
end Go.Ai.Tryz

set_option linter.unusedVariables false
set_option linter.unusedSimpArgs false
namespace Go.Ai
open Go Go.Ai.Tryz
def sameName (x k : U) : Bool := decide (x.kind = k.kind) && decide (x.label = k.label)
mutual
def rightM : U → Bool
  | ⟨a, kind, c, d, e, kids⟩ => aloneM ⟨a, kind, c, d, e, kids⟩ && rightL kind [] kids
def rightL (kind : Int) (pre : List U) : List U → Bool
  | [] => true
  | k :: ks => nestsM kind k.kind && rightM k && !(pre.any fun x => sameName x k) && rightL kind (pre ++ [k]) ks
end
theorem rightM_eq (u : U) : rightM u = (aloneM u && rightL u.kind [] u.kids) := by cases u; simp only [rightM]
end Go.Ai
namespace Go.Ai.Tryz
open Go Go.Ai Go.Proofs
variable {w0 : World}
theorem spec45 (u : U) (hb : (every u).length ≤ 1000) (hs : small (every u)) (H : AH) (Q : AV → AH → Prop) (h : Q (.bool (rightM u)) H) : ACalls Tryz.prog w0 45 [eU u] H Q := by
  refine enter45 (by simp) fun hwf hok R hR hR0 => ?_
  have hsu := hs u (by rw [every_eq]; exact List.mem_cons_self ..)
  have hkl := len_everyL u.kids
  rw [every_eq] at hb hs
  simp only [List.length_cons] at hb
  have fin : ∀ b env' H', look 2 env' = .bool b → H.Sub H' → rightM u = b → R .ret env' H' := fun b env' H' h2 h3 h1 => hR _ _ _ rfl (.same h3 (by rw [h2]; rfl) (by rw [h2, ← h1]; exact h))
  unfold x45
  simp only [go_sem]
  refine spec72 u hsu _ _ ?_
  by_cases ha0 : aloneM u = true
  · have hr : rightM u = rightL u.kind [] u.kids := by rw [rightM_eq, ha0]; rfl
    simp only [go_sem, ha0, Bool.not_true]
    refine AX.iter (S := List U × List U) ttOk (fun a => [(1, .ptr H.n 0), (3, .int .i64 a.1.length)]) (fun a => H.push (.cells u.cs 27)) (fun a => a.2.length)
      (fun a => a.1 ++ a.2 = u.kids ∧ rightL u.kind a.1 a.2 = rightM u) ([], u.kids) ?_ rfl ⟨rfl, hr.symm⟩ ?_
    · simp only [go_sem]
    · rintro ⟨pre, post⟩ ⟨h2, h3⟩ hk hwf' K R' hK hQ
      simp only at h2 h3 hK ⊢
      unfold l45_1
      rcases post with _ | ⟨k, ks⟩
      · have hb := ge_of h2 eU
        simp only [go_sem, U.cs, hb]
        refine hQ _ _ _ ?_
        simp only [go_sem]
        exact fin true _ _ (by simp only [go_sem]) (.push (.refl hwf) _) (by rw [← h3]; rfl)
      · have hb'' := lt_of h2 eU
        have ha := at_of h2 eU
        have hl := len_of h2
        have hbk : (every k).length ≤ 1000 := by have := kid_le (mem_of h2); rw [every_eq u, List.length_cons] at this; omega
        have hsum : everyL u.kids = everyL pre ++ (every k ++ everyL ks) := by rw [← h2, everyL_append]; rfl
        have hsk : small (every k) := fun x hx => hs x (List.mem_cons_of_mem _ (by rw [hsum]; simp [hx]))
        have hw : IntKind.i64.wrap ((pre.length : Int) + 1) = pre.length + 1 := wrap_i64.2 (by omega)
        have stop : ∀ env' H', look 2 env' = .bool false → H.Sub H' → rightL u.kind pre (k :: ks) = false → R' .ret env' H' := fun env' H' h5 h6 h7 => by
          refine hQ _ _ _ ?_
          simp only [go_sem]
          exact fin false _ _ h5 h6 (by rw [← h3, h7])
        simp only [go_sem, U.cs, hb'', ha, hw, dr45_0]
        refine ⟨by omega, ?_⟩
        refine PCalls.of (r := .bool (nestsM u.kind k.kind)) (fun H' => spec73 _ _ _ _ ⟨rfl, rfl⟩) ?_
        by_cases hn : nestsM u.kind k.kind = true
        · simp only [go_sem, hn, Bool.not_true, ha]
          refine ⟨by omega, ?_⟩
          refine PCalls.of (r := .bool (rightM k)) (fun H' => spec45 k hbk hsk _ _ ⟨rfl, rfl⟩) ?_
          by_cases hrk : rightM k = true
          · have hstep : rightL u.kind pre (k :: ks) = (!(pre.any fun x => sameName x k) && rightL u.kind (pre ++ [k]) ks) := by simp only [rightL, hn, hrk]; rfl
            simp only [go_sem, hrk, Bool.not_true]
            refine AX.iter (S := List U × List U) ttOk (fun a => [(1, .ptr H.n 0), (3, .int .i64 pre.length), (4, .int .i64 a.1.length)]) (fun a => H.push (.cells u.cs 27)) (fun a => a.2.length)
              (fun a => a.1 ++ a.2 = pre ∧ (pre.any fun x => sameName x k) = (a.2.any fun x => sameName x k)) ([], pre) ?_ rfl ⟨rfl, rfl⟩ ?_
            · simp only [go_sem]
            · rintro ⟨p1, p2⟩ ⟨g2, g3⟩ hk2 hwf2 K2 R2 hK2 hQ2
              simp only at g2 g3 hK2 ⊢
              unfold l45_0
              rcases p2 with _ | ⟨y, p2⟩
              · have e1 : decide ((p1.length : Int) < (pre.length : Int)) = false := by rw [← g2]; simp
                simp only [go_sem, e1]
                refine hQ2 _ _ _ ?_
                simp only [go_sem, hw]
                refine hK _ _ (pre ++ [k], ks) (by simp) ⟨snoc_of h2, ?_⟩ (.refl hwf') (Nat.le_refl _) (Nat.le_refl _) ?_
                · rw [← h3, hstep, g3]; rfl
                · simp only [go_sem, len_snoc]
                  simp
              · have e1 : decide ((p1.length : Int) < (pre.length : Int)) = true := by rw [← g2]; simp; omega
                have hl2 : p1.length < pre.length := by rw [← g2]; simp
                have hkids : p1 ++ y :: (p2 ++ k :: ks) = u.kids := by rw [← h2, ← g2]; simp
                have ha2 := at_of hkids eU
                have hw2 : IntKind.i64.wrap ((p1.length : Int) + 1) = p1.length + 1 := wrap_i64.2 (by omega)
                have hsn : ((y :: p2).any fun x => sameName x k) = (sameName y k || p2.any fun x => sameName x k) := rfl
                have go : ∀ env' H', look 1 env' = .ptr H.n 0 → look 3 env' = .int .i64 pre.length → look 4 env' = .int .i64 (p1.length + 1) → H' = H.push (.cells u.cs 27) → sameName y k = false → K2 env' H' := fun env' H' q1 q2 q3 q4 q5 => by
                  subst q4
                  refine hK2 _ _ (p1 ++ [y], p2) (by simp) ⟨snoc_of g2, by rw [g3, hsn, q5]; rfl⟩ (.refl hwf') (Nat.le_refl _) (Nat.le_refl _) ?_
                  simp only [go_sem, q1, q2, q3, len_snoc]
                  simp
                simp only [go_sem, e1, dr45_1, U.cs, ha, ha2]
                refine ⟨by omega, by omega, ?_⟩
                by_cases c1 : y.kind = k.kind
                · by_cases c2 : y.label = k.label
                  · simp only [go_sem, c1, c2, ha, ha2]
                    refine ⟨by omega, by omega, ?_⟩
                    refine hQ2 _ _ _ ?_
                    simp only [go_sem]
                    refine stop _ _ (by simp only [go_sem]) (.push (.refl hwf) _) ?_
                    rw [hstep, g3, hsn]; simp [sameName, c1, c2]
                  · simp only [go_sem, c1, c2, ha, ha2, hw2]
                    refine ⟨by omega, by omega, ?_⟩
                    exact go _ _ (by simp only [go_sem]) (by simp only [go_sem]) (by simp only [go_sem]) (by simp only [U.cs]) (by simp [sameName, c2])
                · simp only [go_sem, c1, ha, ha2, hw2]
                  exact go _ _ (by simp only [go_sem]) (by simp only [go_sem]) (by simp only [go_sem]) (by simp only [U.cs]) (by simp [sameName, c1])
          · have hrk' : rightM k = false := by simpa using hrk
            simp only [go_sem, hrk', Bool.not_false]
            refine stop _ _ (by simp only [go_sem]) (.push (.refl hwf) _) (by simp only [rightL, hrk']; simp)
        · have hn' : nestsM u.kind k.kind = false := by simpa using hn
          simp only [go_sem, hn', Bool.not_false]
          refine stop _ _ (by simp only [go_sem]) (.push (.refl hwf) _) (by simp only [rightL, hn']; simp)
  · have ha0' : aloneM u = false := by simpa using ha0
    simp only [go_sem, ha0', Bool.not_false]
    exact fin false _ _ (by simp only [go_sem]) (.push (.refl hwf) _) (by rw [rightM_eq, ha0']; rfl)
termination_by SizeOf.sizeOf u
decreasing_by exact kid_lt (mem_of h2)
end Go.Ai.Tryz
