/- A part of the proof: no statement of the seat is proved in this text. -/
import Derived.Test.YtdmhbplibcolbaaGreatWay
set_option linter.unusedVariables false
set_option linter.unusedSimpArgs false
namespace Go.Ai
open Go Go.Ai.Tryz
theorem wayL_skip {id : Id} {pre post : List U} (h : ∀ x ∈ pre, wayM id x = []) : wayL id (pre ++ post) = wayL id post := by
  induction pre with
  | nil => rfl
  | cons k ks ih => simp only [List.cons_append, wayL, h k (List.mem_cons_self ..)]; exact ih fun x hx => h x (List.mem_cons_of_mem _ hx)
theorem wayL_hit {id : Id} {k : U} {ks : List U} (h : wayM id k ≠ []) : wayL id (k :: ks) = wayM id k := by
  simp only [wayL]
  split
  · rename_i e; exact absurd e h
  · rename_i e; exact e.symm
theorem wayM_kid {id : Id} {u k : U} {pre ks : List U} (hu : u.id ≠ id) (hk : pre ++ k :: ks = u.kids) (hp : ∀ x ∈ pre, wayM id x = []) (h : wayM id k ≠ []) : wayM id u = u :: wayM id k := by
  rw [wayM_eq, if_neg hu, ← hk, wayL_skip hp, wayL_hit h]
  cases hw : wayM id k with
  | nil => exact absurd hw h
  | cons w ws => rfl
theorem wayM_none {id : Id} {u : U} (hu : u.id ≠ id) (hp : ∀ x ∈ u.kids, wayM id x = []) : wayM id u = [] := by
  rw [wayM_eq, if_neg hu]
  have := wayL_skip (post := []) hp
  rw [List.append_nil] at this
  rw [this]; rfl
theorem findM_self {id : Id} {u : U} (hu : u.id = id) : findM u id = (u, true) := by simp [findM, wayM_eq, hu]
theorem findM_none {id : Id} {u : U} (h : wayM id u = []) : findM u id = (zeroU, false) := by simp [findM, h]
theorem findM_kid {id : Id} {u k : U} {pre ks : List U} (hu : u.id ≠ id) (hk : pre ++ k :: ks = u.kids) (hp : ∀ x ∈ pre, wayM id x = []) (h : wayM id k ≠ []) : findM u id = findM k id := by
  simp only [findM, wayM_kid hu hk hp h]
  cases hw : wayM id k with
  | nil => exact absurd hw h
  | cons w ws => simp
theorem findM_ok (u : U) (id : Id) : (findM u id).2 = !(wayM id u).isEmpty := by
  cases hw : wayM id u with
  | nil => simp [findM, hw]
  | cons w ws =>
    obtain ⟨p, hp⟩ : ∃ p, (w :: ws)[ws.length]? = some p := ⟨_, List.getElem?_eq_getElem (by simp)⟩
    simp only [findM, hw, List.length_cons, Nat.add_sub_cancel, hp]; rfl
theorem wayM_ne {id : Id} {u : U} (h : (findM u id).2 = true) : wayM id u ≠ [] := by
  rw [findM_ok] at h
  intro e; rw [e] at h; simp at h
theorem wayM_nil {id : Id} {u : U} (h : (findM u id).2 = false) : wayM id u = [] := by
  rw [findM_ok] at h
  simpa using h
theorem idxW_skip {id : Id} {pre post : List U} {n : Nat} (h : ∀ x ∈ pre, wayM id x = []) : idxW id (pre ++ post) n = idxW id post (n + pre.length) := by
  induction pre generalizing n with
  | nil => rfl
  | cons k ks ih =>
    simp only [List.cons_append, idxW, h k (List.mem_cons_self ..), List.isEmpty_nil, if_true, List.length_cons]
    rw [ih fun x hx => h x (List.mem_cons_of_mem _ hx)]
    congr 1; omega
theorem wayM_self {id : Id} {u : U} (h : u.id = id) : wayM id u = [u] := by rw [wayM_eq, if_pos h]
theorem parentM_self {id : Id} {u : U} (h : u.id = id) : parentM u id = (zeroId, -1, false) := by simp [parentM, wayM_self h]
theorem parentM_none {id : Id} {u : U} (h : wayM id u = []) : parentM u id = (zeroId, -1, false) := by simp [parentM, h]
theorem parentM_kid {id : Id} {u k : U} {pre ks : List U} (hu : u.id ≠ id) (hk : pre ++ k :: ks = u.kids) (hp : ∀ x ∈ pre, wayM id x = []) (h : k.id = id) : parentM u id = (u.id, ((pre.length : Nat) : Int), true) := by
  have hw : wayM id k = [k] := wayM_self h
  have hne : wayM id k ≠ [] := by rw [hw]; simp
  have e := wayM_kid hu hk hp hne
  rw [hw] at e
  have hi : idxW id u.kids 0 = pre.length := by
    rw [← hk, idxW_skip hp]
    simp [idxW, hw]
  simp [parentM, e, hi]
theorem parentM_deep {id : Id} {u k : U} {pre ks : List U} (hu : u.id ≠ id) (hk : pre ++ k :: ks = u.kids) (hp : ∀ x ∈ pre, wayM id x = []) (h : k.id ≠ id) (hne : wayM id k ≠ []) : parentM u id = parentM k id := by
  have e := wayM_kid hu hk hp hne
  rw [wayM_eq, if_neg h] at hne
  have e2 := wayM_eq id k
  rw [if_neg h] at e2
  cases hl : wayL id k.kids with
  | nil => rw [hl] at hne; exact absurd rfl hne
  | cons w ws =>
    rw [hl] at e2
    simp only at e2
    rw [e2] at e
    simp only [parentM, e, e2, List.length_cons]
    rw [if_neg (by omega), if_neg (by omega), show ws.length + 1 + 1 + 1 - 2 = ws.length + 1 by omega, show ws.length + 1 + 1 - 2 = ws.length by omega, List.getElem?_cons_succ]
end Go.Ai
namespace Go.Ai.Tryz
open Go Go.Ai Go.Proofs
variable {w0 : World}
theorem spec10 (u : U) (id : Id) (hb : (every u).length ≤ 1000) (H : AH) (Q : AV → AH → Prop) (h : Q (.tup [eU (findM u id).1, .bool (findM u id).2]) H) : ACalls Tryz.prog w0 10 [eU u, eId id] H Q := by
  refine enter10 (by simp) fun hwf hok R hR hR0 => ?_
  have hkl := len_everyL u.kids
  rw [every_eq, List.length_cons] at hb
  have fin : ∀ (x : U) env' H', findM u id = (x, true) → look 4 env' = .ptr (H.n + 1 + 1) 0 → look 5 env' = .bool true → H.Sub H' → H'.obj (H.n + 1 + 1) = some (.cells x.cs 27) → R .ret env' H' := fun x env' H' h1 h2 h3 h4 h5 => by
    rw [h1] at h
    exact hR _ _ _ (ares_ct (ares1_cell (v := eU x) (cs := x.cs) (e := 27) tt_27 h2 h5 (by decide) (by simp only [go_sem, U.cs]) (by rw [eU_eq]; rfl)) h3) (.same h4 (by simp only [go_sem, AV.fit, AV.fitL, Bool.and_true]) h)
  unfold x10
  simp only [go_sem]
  simp only [decide_eq_true_eq, decide_eq_false_iff_not]
  refine ⟨fun h1 => ?_, fun h1 => ?_⟩
  · exact fin u _ _ (findM_self h1) (by simp only [go_sem]) (by simp only [go_sem]) (.push (.push (.push (.refl hwf) _) _) _) (by simp only [go_sem, U.cs])
  · refine AX.iter (S := List U × List U) ttOk (fun a => [(2, .ptr H.n 0), (3, .ptr (H.n + 1) 0), (4, .ptr (H.n + 1 + 1) 0), (6, .int .i64 a.1.length)])
      (fun a => ((H.push (.cells u.cs 27)).push (.cells id.cs 23)).push (.cells [.int .i64 0, .int .i64 0, .int .i64 0, .int .i64 0, .str ByteArray.empty, .nilS, .nilS, .nilS] 27)) (fun a => a.2.length)
      (fun a => a.1 ++ a.2 = u.kids ∧ ∀ x ∈ a.1, wayM id x = []) ([], u.kids) ?_ rfl ⟨rfl, by simp⟩ ?_
    · simp only [go_sem]
    · rintro ⟨pre, post⟩ ⟨h2, h3⟩ hk hwf' K R' hK hQ
      simp only at h2 h3 hK ⊢
      unfold l10_0
      rcases post with _ | ⟨k, ks⟩
      · have hb := ge_of h2 eU
        simp only [go_sem, U.cs, Id.cs, hb]
        refine hQ _ _ _ ?_
        simp only [go_sem]
        rw [List.append_nil] at h2
        rw [findM_none (wayM_none h1 (by rw [← h2]; exact h3))] at h
        refine hR _ _ _ (ares_ct (ares1_cell (v := .agg [.int .i64 0, .int .i64 0, .int .i64 0, .int .i64 0, .str ByteArray.empty, .nilS, .nilS, .nilS]) (id := H.n + 1 + 1) (off := 0) (cs := [.int .i64 0, .int .i64 0, .int .i64 0, .int .i64 0, .str ByteArray.empty, .nilS, .nilS, .nilS]) (e := 27) tt_27 (by simp only [go_sem]) (by simp only [go_sem]) (by decide) (by simp only [go_sem]) rfl) (w := .bool false) (by simp only [go_sem]))
          (.inl ⟨_, H, ?_, ?_, .push (.push (.push (.refl hwf) _) _) _, rfl, rfl, h⟩)
        · refine .tup rfl fun j c d h1 h2 => ?_
          match j with
          | 0 => simp at h1 h2; subst h1; subst h2; rw [eU_eq]; exact AV.Weak.cells _
          | 1 => simp at h1 h2; subst h1; subst h2; exact .refl _
          | j + 2 => simp at h1
        · simp only [go_sem, AV.fit, AV.fitL, Bool.and_true]
      · have hb'' := lt_of h2 eU
        have ha := at_of h2 eU
        have hl := len_of h2
        have hbk : (every k).length ≤ 1000 := by have := kid_le (mem_of h2); rw [every_eq u, List.length_cons] at this; omega
        have hw : IntKind.i64.wrap ((pre.length : Int) + 1) = pre.length + 1 := wrap_i64.2 (by omega)
        simp only [go_sem, U.cs, Id.cs, hb'', ha, hw, dr10_0]
        refine ⟨by omega, ?_⟩
        refine PCalls.of (r := .tup [eU (findM k id).1, .bool (findM k id).2]) (fun H' => spec10 k id hbk _ _ ⟨rfl, rfl⟩) ?_
        simp only [go_sem]
        by_cases hf : (findM k id).2 = true
        · simp only [go_sem, hf]
          refine hQ _ _ _ ?_
          simp only [go_sem]
          have hfk := findM_kid h1 h2 h3 (wayM_ne hf)
          exact fin (findM k id).1 _ _ (by rw [hfk]; exact Prod.ext rfl hf) (by simp only [go_sem]) (by simp only [go_sem]) (.push (.push (.push (.push (.refl hwf) _) _) _) _) (by simp only [go_sem, U.cs])
        · have hf' : (findM k id).2 = false := by simpa using hf
          simp only [go_sem, hf', hw]
          refine hK _ _ (pre ++ [k], ks) (by simp) ⟨snoc_of h2, ?_⟩ ?_ (Nat.le_refl _) (Nat.le_refl _) ?_
          · intro x hx
            rcases List.mem_append.1 hx with hx | hx
            · exact h3 x hx
            · simp at hx; subst hx; exact wayM_nil hf'
          · refine .push (.refl (WF_push_cells (WF_push_cells (WF_push_cells hwf _ _ ?_) _ _ ?_) _ _ ?_)) _
            · simp only [go_sem, U.cs]
            · simp only [go_sem, Id.cs]
            · simp only [go_sem]
          · simp only [go_sem, len_snoc]
            simp; omega
termination_by SizeOf.sizeOf u
decreasing_by exact kid_lt (mem_of h2)
theorem spec9 (u : U) (id : Id) (hb : (every u).length ≤ 1000) (H : AH) (Q : AV → AH → Prop) (h : Q (.tup [eId (parentM u id).1, .int .i64 (parentM u id).2.1, .bool (parentM u id).2.2]) H) : ACalls Tryz.prog w0 9 [eU u, eId id] H Q := by
  refine enter9 (by simp) fun hwf hok R hR hR0 => ?_
  have hkl := len_everyL u.kids
  rw [every_eq, List.length_cons] at hb
  have fin : ∀ (i : Id) (e : Int) (b : Bool) env' H', parentM u id = (i, e, b) → look 4 env' = .ptr (H.n + 1 + 1) 0 → look 5 env' = .int .i64 e → look 6 env' = .bool b → H.Sub H' → H'.obj (H.n + 1 + 1) = some (.cells [.int .i64 i.act, .int .i64 i.item, .int .i64 i.n] 23) → R .ret env' H' := fun i e b env' H' h1 h2 h3 h4 h5 h6 => by
    rw [h1] at h
    exact hR _ _ _ (ares_ctt (ares1_cell (v := eId i) (cs := [.int .i64 i.act, .int .i64 i.item, .int .i64 i.n]) (e := 23) tt_23 h2 h6 (by decide) (by simp only [go_sem]) rfl) h3 h4) (.same h5 rfl h)
  unfold x9
  simp only [go_sem]
  simp only [decide_eq_true_eq, decide_eq_false_iff_not]
  refine ⟨fun h1 => ?_, fun h1 => ?_⟩
  · exact fin zeroId (-1) false _ _ (parentM_self h1) (by simp only [go_sem]) (by simp only [go_sem]) (by simp only [go_sem]) (.push (.push (.push (.refl hwf) _) _) _) (by simp only [go_sem])
  · refine AX.iter (S := List U × List U) ttOk (fun a => [(2, .ptr H.n 0), (3, .ptr (H.n + 1) 0), (4, .ptr (H.n + 1 + 1) 0), (7, .int .i64 a.1.length)])
      (fun a => ((H.push (.cells u.cs 27)).push (.cells id.cs 23)).push (.cells [.int .i64 0, .int .i64 0, .int .i64 0] 23)) (fun a => a.2.length)
      (fun a => a.1 ++ a.2 = u.kids ∧ ∀ x ∈ a.1, wayM id x = []) ([], u.kids) ?_ rfl ⟨rfl, by simp⟩ ?_
    · simp only [go_sem]
    · rintro ⟨pre, post⟩ ⟨h2, h3⟩ hk hwf' K R' hK hQ
      simp only at h2 h3 hK ⊢
      unfold l9_0
      rcases post with _ | ⟨k, ks⟩
      · have hb := ge_of h2 eU
        simp only [go_sem, U.cs, Id.cs, hb]
        refine hQ _ _ _ ?_
        simp only [go_sem]
        rw [List.append_nil] at h2
        exact fin zeroId (-1) false _ _ (parentM_none (wayM_none h1 (by rw [← h2]; exact h3))) (by simp only [go_sem]) (by simp only [go_sem]) (by simp only [go_sem]) (.push (.push (.push (.refl hwf) _) _) _) (by simp only [go_sem])
      · have hb'' := lt_of h2 eU
        have ha := at_of h2 eU
        have hl := len_of h2
        have hbk : (every k).length ≤ 1000 := by have := kid_le (mem_of h2); rw [every_eq u, List.length_cons] at this; omega
        have hw : IntKind.i64.wrap ((pre.length : Int) + 1) = pre.length + 1 := wrap_i64.2 (by omega)
        simp only [go_sem, U.cs, Id.cs, hb'', ha, hw, dr9_0]
        refine ⟨by omega, ?_⟩
        by_cases hki : k.id = id
        · simp only [go_sem, hki]
          refine hQ _ _ _ ?_
          simp only [go_sem]
          exact fin u.id pre.length true _ _ (parentM_kid h1 h2 h3 hki) (by simp only [go_sem]) (by simp only [go_sem]) (by simp only [go_sem]) (.push (.push (.push (.refl hwf) _) _) _) (by simp only [go_sem])
        · simp only [go_sem, hki, dr9_1, ha, hb'']
          refine ⟨by omega, ?_⟩
          refine PCalls.of (r := .tup [eU (findM k id).1, .bool (findM k id).2]) (fun H' => spec10 k id hbk _ _ ⟨rfl, rfl⟩) ?_
          simp only [go_sem]
          by_cases hf : (findM k id).2 = true
          · simp only [go_sem, hf, dr9_2, ha]
            refine ⟨by omega, ?_⟩
            refine PCalls.of (r := .tup [eId (parentM k id).1, .int .i64 (parentM k id).2.1, .bool (parentM k id).2.2]) (fun H' => spec9 k id hbk _ _ ⟨rfl, rfl⟩) ?_
            simp only [go_sem]
            refine hQ _ _ _ ?_
            simp only [go_sem]
            have hfk := parentM_deep h1 h2 h3 hki (wayM_ne hf)
            exact fin (parentM k id).1 (parentM k id).2.1 (parentM k id).2.2 _ _ hfk (by simp only [go_sem]) (by simp only [go_sem]) (by simp only [go_sem]) (.push (.push (.push (.push (.refl hwf) _) _) _) _) (by simp only [go_sem])
          · have hf' : (findM k id).2 = false := by simpa using hf
            simp only [go_sem, hf', hw]
            refine hK _ _ (pre ++ [k], ks) (by simp) ⟨snoc_of h2, ?_⟩ ?_ (Nat.le_refl _) (Nat.le_refl _) ?_
            · intro x hx
              rcases List.mem_append.1 hx with hx | hx
              · exact h3 x hx
              · simp at hx; subst hx; exact wayM_nil hf'
            · refine .push (.refl (WF_push_cells (WF_push_cells (WF_push_cells hwf _ _ ?_) _ _ ?_) _ _ ?_)) _
              · simp only [go_sem, U.cs]
              · simp only [go_sem, Id.cs]
              · simp only [go_sem]
            · simp only [go_sem, len_snoc]
              simp; omega
termination_by SizeOf.sizeOf u
decreasing_by exact kid_lt (mem_of h2)
end Go.Ai.Tryz
