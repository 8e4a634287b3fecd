/- A part of the proof: no statement of the seat is proved in this text. -/
import Derived.Test.YtdmhbplibcolbaaGreatM5
set_option linter.unusedVariables false
set_option linter.unusedSimpArgs false
set_option maxRecDepth 20000
set_option maxHeartbeats 1000000
namespace Go.Ai.Tryz
open Go Go.Ai Go.Proofs
variable {w0 : World}
theorem spec20 (s : ByteArray) (H : AH) (Q : AV → AH → Prop) (h : ∀ b, Q (.bool b) H) : ACalls Tryz.prog w0 20 [.str s] H Q := by
  refine enter20 (by simp) fun hwf hok R hR hR0 => ?_
  have hlen := (hok (.str s) (by simp)).str
  have fin : ∀ b env', look 2 env' = .bool b → R .ret env' H := fun b env' h2 => hR _ _ _ rfl (.same (.refl hwf) (by rw [h2]; rfl) (by rw [h2]; exact h b))
  unfold x20
  by_cases h1 : s.size < 1
  · have e1 : decide ((s.size : Int) < 1) = true := by simp; omega
    simp only [go_sem, e1]
    exact fin false _ (by simp only [go_sem])
  have e1 : decide ((s.size : Int) < 1) = false := by simp; omega
  by_cases h2 : 16 < s.size
  · have e2 : decide (16 < (s.size : Int)) = true := by simp; omega
    simp only [go_sem, e1, e2]
    exact fin false _ (by simp only [go_sem])
  have e2 : decide (16 < (s.size : Int)) = false := by simp; omega
  obtain ⟨c0, cs, hcs⟩ : ∃ c0 cs, bts s = c0 :: cs := by
    rcases hb : bts s with _ | ⟨c0, cs⟩
    · have := bts_len s; rw [hb] at this; simp at this; omega
    · exact ⟨_, _, rfl⟩
  have ha0 : byteAt s 0 = c0 := byteAt_of' (show ([] : List Int) ++ c0 :: cs = bts s by rw [hcs]; rfl)
  cases g1 : decide (c0 < 97) with
  | true =>
    simp only [go_sem, e1, e2, ha0, g1]
    refine ⟨by omega, ?_⟩
    exact fin false _ (by simp only [go_sem])
  | false =>
    cases g2 : decide (122 < c0) with
    | true =>
      simp only [go_sem, e1, e2, ha0, g1, g2]
      refine ⟨by omega, by omega, ?_⟩
      exact fin false _ (by simp only [go_sem])
    | false =>
      simp only [go_sem, e1, e2, ha0, g1, g2]
      refine ⟨by omega, by omega, ?_⟩
      refine AX.iter0 (S := List Int × List Int) ttOk (fun s' => [(0, .str s), (3, .int .i64 s'.1.length)]) (fun s => s.2.length)
        (fun s' => s'.1 ++ s'.2 = bts s) ([], bts s) ?_ rfl ?_
      · simp only [go_sem]
      · rintro ⟨pre, post⟩ h3 hk hwf' K R' hK hQ
        simp only at h3 hK ⊢
        unfold l20_0
        rcases post with _ | ⟨c, ks⟩
        · have hb := sge_of h3
          simp only [go_sem, hb]
          refine hQ _ _ _ ?_
          simp only [go_sem]
          exact fin true _ (by simp only [go_sem])
        · have hb := slt_of h3
          have hb' := slt_of' h3
          have ha := byteAt_of h3
          have hw : IntKind.i64.wrap ((pre.length : Int) + 1) = pre.length + 1 := wrap_i64.2 (by omega)
          have stop : ∀ env', look 2 env' = .bool false → R' .ret env' H := fun env' h6 => by
            refine hQ _ _ _ ?_
            simp only [go_sem]
            exact fin false _ h6
          have go : ∀ env', look 0 env' = .str s → look 3 env' = .int .i64 (pre.length + 1) → K env' H := fun env' h5 h6 => by
            refine hK _ _ (pre ++ [c], ks) (by simp) (snoc_of h3) (.refl hwf') ?_
            simp only [go_sem, h5, h6, len_snoc]
            try simp
          cases d1 : decide (97 ≤ c) <;> cases d2 : decide (c ≤ 122) <;> cases d3 : decide (48 ≤ c) <;> cases d4 : decide (c ≤ 57) <;> cases d5 : decide (c = 45)
          all_goals
            simp only [go_sem, hb, ha, hw, d1, d2, d3, d4, d5, Bool.not_true, Bool.not_false]
            refine ⟨⟨by omega, by omega⟩, ?_⟩
            first
              | exact go _ (by simp only [go_sem]) (by simp only [go_sem])
              | exact stop _ (by simp only [go_sem])
theorem spec24 (l : List ByteArray) (n : Int) (H : AH) (Q : AV → AH → Prop) (h : ∀ b, Q (.bool b) H) : ACalls Tryz.prog w0 24 [.slice (l.map AV.str), .int .i64 n] H Q := by
  refine enter24 (by simp) fun hwf hok R hR hR0 => ?_
  have fin : ∀ b env', look 4 env' = .bool b → R .ret env' H := fun b env' h2 => hR _ _ _ rfl (.same (.refl hwf) (by rw [h2]; rfl) (by rw [h2]; exact h b))
  unfold x24
  simp only [go_sem]
  refine spec55 l _ _ ?_
  cases c : textsOk l with
  | true =>
    simp only [go_sem]
    exact fin _ _ (by simp only [go_sem]; rfl)
  | false =>
    simp only [go_sem]
    exact fin false _ (by simp only [go_sem])
theorem spec21 (k d : Int) (e : ByteArray) (H : AH) (Q : AV → AH → Prop) (h : ∀ b, (k = 0 → d = 0 → e = ⟨#[]⟩ → b = true) → Q (.bool b) H) : ACalls Tryz.prog w0 21 [.agg [.int .i64 k, .int .i64 d, .str e]] H Q := by
  refine enter21 (by simp) fun hwf hok R hR hR0 => ?_
  have fin : ∀ b env' H', look 2 env' = .bool b → H.Sub H' → (k = 0 → d = 0 → e = ⟨#[]⟩ → b = true) → R .ret env' H' := fun b env' H' h2 h3 h4 => hR _ _ _ rfl (.same h3 (by rw [h2]; rfl) (by rw [h2]; exact h b h4))
  unfold x21
  cases k1 : decide (k = 1) with
  | true =>
    have hk : k ≠ 0 := by have : k = 1 := by simpa using k1
                          omega
    simp only [go_sem, k1]
    refine spec16 _ _ _ _ _ ?_
    cases c : (decide ((0 : Int) ≤ d) && decide (d ≤ 1048576)) with
    | true =>
      simp only [go_sem, c]
      exact fin _ _ _ (by simp only [go_sem]; rfl) (.push (.refl hwf) _) fun h => absurd h hk
    | false =>
      simp only [go_sem, c]
      exact fin false _ _ (by simp only [go_sem]) (.push (.refl hwf) _) fun h => absurd h hk
  | false =>
    cases k3 : decide (k = 3) with
    | true =>
      have hk : k ≠ 0 := by have : k = 3 := by simpa using k3
                            omega
      cases c : decide (d = 0) with
      | true =>
        simp only [go_sem, k1, k3, c]
        refine spec20 _ _ _ fun b => ?_
        simp only [go_sem]
        exact fin b _ _ (by simp only [go_sem]) (.push (.refl hwf) _) fun h => absurd h hk
      | false =>
        simp only [go_sem, k1, k3, c]
        exact fin false _ _ (by simp only [go_sem]) (.push (.refl hwf) _) fun h => absurd h hk
    | false =>
      cases k0 : decide (k = 0) with
      | true =>
        cases c : decide (d = 0) with
        | true =>
          simp only [go_sem, k1, k3, k0, c]
          exact fin (decide (e = ⟨#[]⟩)) _ _ (by simp only [go_sem]) (.push (.refl hwf) _) fun _ _ h => by simp [h]
        | false =>
          simp only [go_sem, k1, k3, k0, c]
          exact fin false _ _ (by simp only [go_sem]) (.push (.refl hwf) _) fun _ h => by rw [h] at c; cases c
      | false =>
        have hk : k ≠ 0 := by simpa using k0
        cases k2 : decide (k = 2) with
        | true =>
          cases c : decide (d = 0) with
          | true =>
            simp only [go_sem, k1, k3, k0, k2, c]
            exact fin _ _ _ (by simp only [go_sem]; rfl) (.push (.refl hwf) _) fun h => absurd h hk
          | false =>
            simp only [go_sem, k1, k3, k0, k2, c]
            exact fin false _ _ (by simp only [go_sem]) (.push (.refl hwf) _) fun h => absurd h hk
        | false =>
          simp only [go_sem, k1, k3, k0, k2]
          exact fin false _ _ (by simp only [go_sem]) (.push (.refl hwf) _) fun h => absurd h hk
end Go.Ai.Tryz

set_option linter.unusedVariables false
set_option linter.unusedSimpArgs false
set_option maxRecDepth 20000
set_option maxHeartbeats 1000000
namespace Go.Ai
open Go Go.Ai.Tryz
mutual
def sameU : U → U → Bool
  | ⟨a, b, c, d, e, ks⟩, y => decide (a = y.id) && (decide (b = y.kind) && (decide (c = y.label) && (sameQ d y.head && (sameQ e y.words && (decide (ks.length = y.kids.length) && sameUL ks y.kids)))))
def sameUL : List U → List U → Bool
  | [], _ => true
  | _ :: _, [] => true
  | k :: ks, y :: ys => sameU k y && sameUL ks ys
end
theorem sameU_eq (x y : U) : sameU x y = (decide (x.id = y.id) && (decide (x.kind = y.kind) && (decide (x.label = y.label) && (sameQ x.head y.head && (sameQ x.words y.words && (decide (x.kids.length = y.kids.length) && sameUL x.kids y.kids)))))) := by cases x; simp only [sameU]
mutual
theorem sameU_self (x : U) : sameU x x = true := by
  cases x with
  | mk a b c d e ks => simp [sameU, sameQ_self, sameUL_self ks]
theorem sameUL_self (l : List U) : sameUL l l = true := by
  cases l with
  | nil => simp only [sameUL]
  | cons k ks => simp [sameUL, sameU_self k, sameUL_self ks]
end
end Go.Ai
namespace Go.Ai.Tryz
open Go Go.Ai Go.Proofs
variable {w0 : World}
theorem spec13 (u y : U) (hb : (every u).length ≤ 1000) (hs : small (every u)) (H : AH) (Q : AV → AH → Prop) (h : Q (.bool (sameU u y)) H) : ACalls Tryz.prog w0 13 [eU u, eU y] H Q := by
  refine enter13 (by simp) fun hwf hok R hR hR0 => ?_
  have hkl := len_everyL u.kids
  have hb0 := hb
  have hsu := hs u (by rw [every_eq]; exact List.mem_cons_self ..)
  rw [every_eq, List.length_cons] at hb
  have fin : ∀ b env' H', look 4 env' = .bool b → H.Sub H' → sameU u y = b → R .ret env' H' := fun b env' H' h2 h3 h4 => hR _ _ _ rfl (.same h3 (by rw [h2]; rfl) (by rw [h2, ← h4]; exact h))
  have he := sameU_eq u y
  unfold x13
  cases c1 : decide (u.id = y.id) with
  | false =>
    simp only [go_sem, c1, Bool.not_false]
    exact fin false _ _ (by simp only [go_sem]) (.push (.push (.refl hwf) _) _) (by rw [he, c1]; rfl)
  | true =>
    cases c2 : decide (u.kind = y.kind) with
    | false =>
      simp only [go_sem, c1, c2, Bool.not_true, Bool.not_false]
      exact fin false _ _ (by simp only [go_sem]) (.push (.push (.refl hwf) _) _) (by rw [he, c1, c2]; rfl)
    | true =>
      cases c3 : decide (u.label = y.label) with
      | false =>
        simp only [go_sem, c1, c2, c3, Bool.not_true, Bool.not_false]
        exact fin false _ _ (by simp only [go_sem]) (.push (.push (.refl hwf) _) _) (by rw [he, c1, c2, c3]; rfl)
      | true =>
        simp only [go_sem, c1, c2, c3, Bool.not_true, Bool.not_false]
        refine spec42 u.head y.head hsu.1 _ _ ?_
        cases c4 : sameQ u.head y.head with
        | false =>
          simp only [go_sem, Bool.not_true, Bool.not_false]
          exact fin false _ _ (by simp only [go_sem]) (.push (.push (.refl hwf) _) _) (by rw [he, c1, c2, c3, c4]; rfl)
        | true =>
          simp only [go_sem, Bool.not_true, Bool.not_false]
          refine spec42 u.words y.words hsu.2 _ _ ?_
          cases c5 : sameQ u.words y.words with
          | false =>
            simp only [go_sem, Bool.not_true, Bool.not_false]
            exact fin false _ _ (by simp only [go_sem]) (.push (.push (.refl hwf) _) _) (by rw [he, c1, c2, c3, c4, c5]; rfl)
          | true =>
            cases c6 : decide (u.kids.length = y.kids.length) with
            | false =>
              have c6' : decide (((u.kids.map eU).length : Int) = ((y.kids.map eU).length : Int)) = false := by simp at c6 ⊢; omega
              simp only [go_sem, c6', Bool.not_true, Bool.not_false]
              exact fin false _ _ (by simp only [go_sem]) (.push (.push (.refl hwf) _) _) (by rw [he, c1, c2, c3, c4, c5, c6]; rfl)
            | true =>
              have hlm : u.kids.length = y.kids.length := by simpa using c6
              have c6' : decide (((u.kids.map eU).length : Int) = ((y.kids.map eU).length : Int)) = true := by simp; omega
              have hq : sameU u y = sameUL u.kids y.kids := by rw [he, c1, c2, c3, c4, c5, c6]; simp
              simp only [go_sem, c6', Bool.not_true, Bool.not_false]
              refine AX.iter (S := List U × List U × List U × List U) ttOk (fun a => [(2, .ptr H.n 0), (3, .ptr (H.n + 1) 0), (5, .int .i64 a.1.length)]) (fun _ => (H.push (.cells u.cs 27)).push (.cells y.cs 27)) (fun a => a.2.1.length) (fun a => a.1 ++ a.2.1 = u.kids ∧ a.2.2.1 ++ a.2.2.2 = y.kids ∧ a.1.length = a.2.2.1.length ∧ sameUL a.2.1 a.2.2.2 = sameUL u.kids y.kids) ([], u.kids, [], y.kids) ?_ rfl ⟨rfl, rfl, rfl, rfl⟩ ?_
              · simp only [go_sem]
              rintro ⟨pre, post, pre', post'⟩ ⟨h2, h3, h4, h5⟩ hk2 hwf2 K2 R2 hK2 hQ2
              simp only at h2 h3 h4 h5 hK2
              unfold l13_0
              rcases post with _ | ⟨k, ks⟩
              · have hb := ge_of h2 eU
                simp only [go_sem, U.cs, hb]
                refine hQ2 _ _ _ ?_
                simp only [go_sem]
                exact fin true _ _ (by simp only [go_sem]) (.push (.push (.refl hwf) _) _) (by rw [hq, ← h5]; simp only [sameUL])
              · rcases post' with _ | ⟨k', ks'⟩
                · exfalso; rw [← h2, ← h3] at hlm; simp at hlm; omega
                have hb'' := lt_of h2 eU
                have ha := at_of h2 eU
                have ha' := at_of h3 eU
                rw [← h4] at ha'
                have hl := len_of h2
                have hw : IntKind.i64.wrap ((pre.length : Int) + 1) = pre.length + 1 := wrap_i64.2 (by omega)
                have hst : sameUL (k :: ks) (k' :: ks') = (sameU k k' && sameUL ks ks') := by simp only [sameUL]
                have hbk : (every k).length ≤ 1000 := by have := kid_le (mem_of h2); omega
                have hsum : everyL u.kids = everyL pre ++ (every k ++ everyL ks) := by rw [← h2, everyL_append]; rfl
                have hsk : small (every k) := fun x hx => hs x (by rw [every_eq, hsum]; simp [hx])
                simp only [go_sem, U.cs, hb'', dr13_0, ha, ha', hw]
                refine ⟨by omega, by omega, ?_⟩
                refine PCalls.of (r := .bool (sameU k k')) (fun H' => spec13 k k' hbk hsk _ _ ⟨rfl, rfl⟩) ?_
                cases cc : sameU k k' with
                | true =>
                  simp only [go_sem, hw, Bool.not_true]
                  refine hK2 _ _ (pre ++ [k], ks, pre' ++ [k'], ks') (by simp) ⟨snoc_of h2, snoc_of h3, by simp [h4], by rw [← h5, hst, cc]; rfl⟩ (.refl hwf2) (Nat.le_refl _) (Nat.le_refl _) ?_
                  simp only [go_sem, len_snoc]
                  try simp
                  try omega
                | false =>
                  simp only [go_sem, hw, Bool.not_false]
                  refine hQ2 _ _ _ ?_
                  simp only [go_sem]
                  exact fin false _ _ (by simp only [go_sem]) (.push (.push (.refl hwf) _) _) (by rw [hq, ← h5, hst, cc]; rfl)
termination_by SizeOf.sizeOf u
decreasing_by exact kid_lt (mem_of h2)
end Go.Ai.Tryz
