/- A part of the proof: no statement of the seat is proved in this text. -/
import Derived.Test.YtdmhbplibcolbaaGreatG4
set_option linter.unusedVariables false
set_option linter.unusedSimpArgs false
namespace Go.Ai
open Go Go.Ai.Tryz
mutual
theorem sizeM_every (u : U) (deep most : Int) (h : sizeM u deep most ≤ most) : sizeM u deep most = (every u).length := by
  cases u with
  | mk a b c d e kids =>
    simp only [sizeM, every, List.length_cons] at h ⊢
    split at h
    · omega
    · rename_i hd
      rw [if_neg hd, sizeL_every kids deep most 1 h]; omega
theorem sizeL_every (l : List U) (deep most n : Int) (h : sizeL l deep most n ≤ most) : sizeL l deep most n = n + (everyL l).length := by
  cases l with
  | nil => simp [sizeL, everyL]
  | cons k ks =>
    simp only [sizeL] at h ⊢
    split at h
    · rename_i hn
      rw [if_pos hn]
      have h1 := sizeL_every ks deep most _ h
      rw [h1] at h ⊢
      have h2 := sizeM_every k (deep + 1) (most - n) (by omega)
      simp only [everyL, List.length_append]
      omega
    · omega
end
mutual
def namedM : U → Bool
  | ⟨a, kind, c, d, e, kids⟩ => !(!decide (kind = 0) && decide (a = zeroId)) && namedL kids
def namedL : List U → Bool
  | [] => true
  | k :: ks => namedM k && namedL ks
end
theorem namedM_eq (u : U) : namedM u = (!(!decide (u.kind = 0) && decide (u.id = zeroId)) && namedL u.kids) := by cases u; simp only [namedM]
def standsP (u : U) : Prop := rightM u = true ∧ idsOkM u = true ∧ namedM u = true
theorem stands_nodup {u : U} (h : standsP u) : (idsOf (every u)).Nodup := by
  obtain ⟨h1, h2, h3⟩ := h
  rw [idsOkM, Bool.or_eq_true] at h2
  rcases h2 with h2 | h2
  · have hk : u.kids = [] := by
      rcases hk : u.kids with _ | ⟨k, ks⟩
      · rfl
      · exfalso
        have e1 : ∀ x ∈ every u, x.id = zeroId := by
          intro x hx
          simpa using List.all_eq_true.1 h2 x.id (List.mem_map_of_mem hx)
        have e2 : u.id = zeroId := e1 u (by rw [every_eq]; simp)
        have e3 : k.id = zeroId := e1 k (by rw [every_eq, hk]; simp [everyL, every_eq k])
        rw [namedM_eq, Bool.and_eq_true] at h3
        have h4 := h3.2
        rw [hk, namedL, Bool.and_eq_true, namedM_eq, Bool.and_eq_true] at h4
        have h5 := h3.1
        have h6 := h4.1.1
        simp only [e2, e3, decide_true, Bool.and_true, Bool.not_not, decide_eq_true_eq] at h5 h6
        rw [rightM_eq, Bool.and_eq_true, hk, rightL] at h1
        have h7 := h1.2
        simp only [Bool.and_eq_true, h5, h6] at h7
        have := h7.1.1.1
        simp [nestsM] at this
    rw [every_eq, hk]
    simp [everyL, idsOf]
  · rw [Bool.and_eq_true] at h2
    simpa using distM_nodup [] _ (by simp) h2.2
end Go.Ai
namespace Go.Ai.Tryz
open Go Go.Ai Go.Proofs
variable {w0 : World}
theorem spec15 (u : U) (hb : (every u).length ≤ 1000) (hs : small (every u)) (H : AH) (Q : AV → AH → Prop) (h : ∀ b, (b = true → rightM u = true ∧ idsOkM u = true) → Q (.bool b) H) : ACalls Tryz.prog w0 15 [eU u] H Q := by
  refine enter15 (by simp) fun hwf hok R hR hR0 => ?_
  have fin : ∀ b env' H', look 2 env' = .bool b → H.Sub H' → (b = true → rightM u = true ∧ idsOkM u = true) → R .ret env' H' := fun b env' H' h2 h3 h4 => hR _ _ _ rfl (.same h3 (by rw [h2]; rfl) (by rw [h2]; exact h b h4))
  unfold x15
  simp only [go_sem]
  refine spec45 u hb hs _ _ ?_
  cases hr : rightM u with
  | false =>
    simp only [go_sem]
    exact fin false _ _ (by simp only [go_sem]) (.push (.refl hwf) _) (by simp)
  | true =>
    simp only [go_sem]
    refine spec46 u hb _ _ fun d d1 d2 => ?_
    cases hd : decide (d ≤ 8) with
    | false =>
      simp only [go_sem, hd]
      exact fin false _ _ (by simp only [go_sem]) (.push (.refl hwf) _) (by simp)
    | true =>
      simp only [go_sem, hd]
      refine spec47 u hb _ _ fun n n1 n2 => ?_
      cases hn : decide (n ≤ 1024) with
      | false =>
        simp only [go_sem, hn]
        exact fin false _ _ (by simp only [go_sem]) (.push (.refl hwf) _) (by simp)
      | true =>
        simp only [go_sem, hn]
        refine spec48 u hb _ _ ?_
        simp only [go_sem]
        exact fin (idsOkM u) _ _ (by simp only [go_sem]) (.push (.refl hwf) _) fun e => ⟨hr, e⟩
theorem spec71 (l : List Wd) (H : AH) (Q : AV → AH → Prop) (h : ∀ b, (b = true → l.length ≤ 300) → Q (.bool b) H) : ACalls Tryz.prog w0 71 [.slice (l.map eW)] H Q := by
  refine enter71 (by simp) fun hwf hok R hR hR0 => ?_
  have hlen := (hok (.slice (l.map eW)) (by simp)).slice
  rw [List.length_map] at hlen
  have fin : ∀ b env' H', look 2 env' = .bool b → H.Sub H' → (b = true → l.length ≤ 300) → R .ret env' H' := fun b env' H' h2 h3 h4 => hR _ _ _ rfl (.same h3 (by rw [h2]; rfl) (by rw [h2]; exact h b h4))
  unfold x71
  simp only [go_sem]
  refine AX.iter0 (S := List Wd × List Wd) ttOk (fun a => [(0, .slice (l.map eW)), (3, .int .i64 a.1.length)]) (fun a => a.2.length)
    (fun a => a.1 ++ a.2 = l) ([], l) ?_ rfl ?_
  · simp only [go_sem]
  · rintro ⟨pre, post⟩ h2 hk hwf' K R' hK hQ
    simp only at h2 hK ⊢
    unfold l71_0
    rcases post with _ | ⟨k, ks⟩
    · have hb := ge_of h2 eW
      simp only [go_sem, hb]
      refine hQ _ _ _ ?_
      simp only [go_sem]
      exact fin (decide ((((l.map eW).length : Nat) : Int) ≤ 300)) _ _ (by simp only [go_sem]) (.refl hwf) (by simp; omega)
    · have hb := lt_of h2 eW
      have ha := at_of h2 eW
      have hl := len_of h2
      have hw : IntKind.i64.wrap ((pre.length : Int) + 1) = pre.length + 1 := wrap_i64.2 (by omega)
      simp only [go_sem, hb, ha, hw]
      refine ⟨by omega, fun _ => ?_, fun _ => ?_⟩
      · refine hQ _ _ _ ?_
        simp only [go_sem]
        exact fin false _ _ (by simp only [go_sem]) (.refl hwf) (by simp)
      · refine hK _ _ (pre ++ [k], ks) (by simp) (snoc_of h2) (.refl hwf') ?_
        simp only [go_sem, len_snoc]
theorem spec44 (u : U) (H : AH) (Q : AV → AH → Prop) (h : ∀ b, (b = true → small (every u)) → Q (.bool b) H) : ACalls Tryz.prog w0 44 [eU u] H Q := by
  refine enter44 (by simp) fun hwf hok R hR hR0 => ?_
  have hu := U.good (hok (eU u) (by simp))
  have hkl := hu.kids
  have fin : ∀ b env' H', look 2 env' = .bool b → H.Sub H' → (b = true → small (every u)) → R .ret env' H' := fun b env' H' h2 h3 h4 => hR _ _ _ rfl (.same h3 (by rw [h2]; rfl) (by rw [h2]; exact h b h4))
  unfold x44
  cases h30 : decide (30 < ((u.label.size : Nat) : Int)) with
  | true =>
    simp only [go_sem, h30]
    exact fin false _ _ (by simp only [go_sem]) (.push (.refl hwf) _) (by simp)
  | false =>
    simp only [go_sem, h30]
    refine spec71 u.head _ _ fun b1 hb1 => ?_
    cases b1 with
    | false =>
      simp only [go_sem, Bool.not_false]
      exact fin false _ _ (by simp only [go_sem]) (.push (.refl hwf) _) (by simp)
    | true =>
      simp only [go_sem, Bool.not_true]
      refine spec71 u.words _ _ fun b2 hb2 => ?_
      cases b2 with
      | false =>
        simp only [go_sem, Bool.not_false]
        exact fin false _ _ (by simp only [go_sem]) (.push (.refl hwf) _) (by simp)
      | true =>
        simp only [go_sem, Bool.not_true]
        have g1 := hb1 rfl
        have g2 := hb2 rfl
        refine AX.iter (S := List U × List U) ttOk (fun a => [(1, .ptr H.n 0), (3, .int .i64 a.1.length)]) (fun a => H.push (.cells u.cs 27)) (fun a => a.2.length)
          (fun a => a.1 ++ a.2 = u.kids ∧ small (everyL a.1)) ([], u.kids) ?_ rfl ⟨rfl, by intro x hx; cases hx⟩ ?_
        · simp only [go_sem]
        · rintro ⟨pre, post⟩ ⟨h2, h3⟩ hk hwf' K R' hK hQ
          simp only at h2 h3 hK ⊢
          unfold l44_0
          rcases post with _ | ⟨k, ks⟩
          · have hb := ge_of h2 eU
            simp only [go_sem, U.cs, hb]
            refine hQ _ _ _ ?_
            simp only [go_sem]
            refine fin true _ _ (by simp only [go_sem]) (.push (.refl hwf) _) fun _ => ?_
            rw [List.append_nil] at h2
            rw [every_eq, ← h2]
            intro x hx
            rcases List.mem_cons.1 hx with rfl | hx
            · omega
            · exact h3 x hx
          · have hb'' := lt_of h2 eU
            have ha := at_of h2 eU
            have hl := len_of h2
            have hw : IntKind.i64.wrap ((pre.length : Int) + 1) = pre.length + 1 := wrap_i64.2 (by omega)
            simp only [go_sem, U.cs, hb'', ha, hw]
            refine ⟨by omega, ?_⟩
            refine spec44 k _ _ fun b hb => ?_
            cases b with
            | true =>
              simp only [go_sem, Bool.not_true, hw]
              refine hK _ _ (pre ++ [k], ks) (by simp) ⟨snoc_of h2, ?_⟩ (.refl hwf') (Nat.le_refl _) (Nat.le_refl _) ?_
              · intro x hx
                rw [everyL_snoc] at hx
                rcases List.mem_append.1 hx with hx | hx
                · exact h3 x hx
                · exact hb rfl x hx
              · simp only [go_sem, len_snoc]
                simp
            | false =>
              simp only [go_sem, Bool.not_false]
              refine hQ _ _ _ ?_
              simp only [go_sem]
              exact fin false _ _ (by simp only [go_sem]) (.push (.refl hwf) _) (by simp)
termination_by SizeOf.sizeOf u
decreasing_by exact kid_lt (mem_of h2)
theorem spec14 (u : U) (H : AH) (Q : AV → AH → Prop) (h : ∀ b, (b = true → (every u).length ≤ 30 ∧ small (every u)) → Q (.bool b) H) : ACalls Tryz.prog w0 14 [eU u, .int .i64 30] H Q := by
  refine enter14 (by simp) fun hwf hok R hR hR0 => ?_
  have fin : ∀ b env' H', look 4 env' = .bool b → H.Sub H' → (b = true → (every u).length ≤ 30 ∧ small (every u)) → R .ret env' H' := fun b env' H' h2 h3 h4 => hR _ _ _ rfl (.same h3 (by rw [h2]; rfl) (by rw [h2]; exact h b h4))
  unfold x14
  simp only [go_sem]
  refine spec43 u 0 30 (by omega) (by omega) (by omega) (by omega) _ _ ?_
  cases hd : decide (sizeM u 0 30 ≤ 30) with
  | false =>
    simp only [go_sem, hd]
    exact fin false _ _ (by simp only [go_sem]) (.push (.refl hwf) _) (by simp)
  | true =>
    simp only [go_sem, hd]
    refine spec44 u _ _ fun b hb => ?_
    simp only [go_sem]
    refine fin b _ _ (by simp only [go_sem]) (.push (.refl hwf) _) fun e => ?_
    have h1 : sizeM u 0 30 ≤ 30 := by simpa using hd
    have h2 := sizeM_every u 0 30 h1
    exact ⟨by omega, hb e⟩
end Go.Ai.Tryz
