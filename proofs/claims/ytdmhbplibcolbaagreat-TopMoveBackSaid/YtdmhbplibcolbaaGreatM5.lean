/- A part of the proof: no statement of the seat is proved in this text. -/
import Derived.Test.YtdmhbplibcolbaaGreatM2
set_option linter.unusedVariables false
set_option linter.unusedSimpArgs false
set_option maxRecDepth 20000
set_option maxHeartbeats 1000000
namespace Go.Ai
open Go Go.Ai.Tryz
theorem atM_skip {id : Id} {pre post : List U} (h : ∀ x ∈ pre, x.id ≠ id) (n : Nat) : atM (pre ++ post) id n = atM post id ((n + pre.length : Nat) : Int) := by
  induction pre generalizing n with
  | nil => rfl
  | cons k ks ih =>
    simp only [List.cons_append, atM, if_neg (h k (List.mem_cons_self ..)), List.length_cons]
    rw [show ((n : Int) + 1) = ((n + 1 : Nat) : Int) by omega, ih (fun x hx => h x (List.mem_cons_of_mem _ hx))]
    congr 2; omega
theorem atM_none {id : Id} {l : List U} (h : ∀ x ∈ l, x.id ≠ id) : atM l id 0 = -1 := by
  have := atM_skip (post := []) h 0
  rw [List.append_nil] at this
  rw [show (0 : Int) = ((0 : Nat) : Int) from rfl, this]; rfl
theorem atM_hit {id : Id} {pre ks : List U} {k : U} (h : ∀ x ∈ pre, x.id ≠ id) (hk : k.id = id) : atM (pre ++ k :: ks) id 0 = pre.length := by
  have := atM_skip (post := k :: ks) h 0
  rw [show (0 : Int) = ((0 : Nat) : Int) from rfl, this, atM, if_pos hk]; simp
theorem parL_skip {id : Id} {pre post : List U} (h : ∀ x ∈ pre, (parM id x).2.2 < 0) : parL id (pre ++ post) = parL id post := by
  induction pre with
  | nil => rfl
  | cons k ks ih =>
    have := h k (List.mem_cons_self ..)
    simp only [List.cons_append, parL]
    rw [if_neg (by omega)]
    exact ih fun x hx => h x (List.mem_cons_of_mem _ hx)
end Go.Ai
namespace Go.Ai.Tryz
open Go Go.Ai Go.Proofs
variable {w0 : World}
theorem spec31 (u : U) (id : Id) (hb : (every u).length ≤ 1000) (H : AH) (Q : AV → AH → Prop) (h : Q (.tup [eU (parM id u).1, .int .i64 (parM id u).2.1, .int .i64 (parM id u).2.2]) H) : ACalls Tryz.prog w0 31 [eU u, eId id] H Q := by
  refine enter31 (by simp) fun hwf hok R hR hR0 => ?_
  have hkl := len_everyL u.kids
  have hb0 := hb
  rw [every_eq, List.length_cons] at hb
  have fin : ∀ (x : U) (d n : Int) env' H', parM id u = (x, d, n) → look 4 env' = .ptr (H.n + 1 + 1) 0 → look 5 env' = .int .i64 d → look 6 env' = .int .i64 n → H.Sub H' → H'.obj (H.n + 1 + 1) = some (.cells x.cs 27) → R .ret env' H' := fun x d n env' H' h1 h2 h3 h3' h4 h5 => by
    rw [h1] at h
    exact hR _ _ _ (ares_ctt (ares1_cell (v := eU x) (cs := x.cs) (e := 27) tt_27 h2 h5 (by decide) (by simp only [go_sem, U.cs]) (by rw [eU_eq]; rfl)) h3 h3') (.same h4 (by simp only [go_sem, AV.fit, AV.fitL, Bool.and_true]) h)
  unfold x31
  simp only [go_sem]
  refine AX.iter (S := List U × List U) ttOk (fun a => [(2, .ptr H.n 0), (3, .ptr (H.n + 1) 0), (4, .ptr (H.n + 1 + 1) 0), (7, .int .i64 a.1.length)])
      (fun a => ((H.push (.cells u.cs 27)).push (.cells id.cs 23)).push (.cells [.int .i64 0, .int .i64 0, .int .i64 0, .int .i64 0, .str ByteArray.empty, .nilS, .nilS, .nilS] 27)) (fun a => a.2.length)
      (fun a => a.1 ++ a.2 = u.kids ∧ ∀ x ∈ a.1, x.id ≠ id) ([], u.kids) ?_ rfl ⟨rfl, by simp⟩ ?_
  · simp only [go_sem]
  rintro ⟨pre, post⟩ ⟨h2, h3⟩ hk hwf' K R' hK hQ
  simp only at h2 h3 hK ⊢
  unfold l31_0
  rcases post with _ | ⟨k, ks⟩
  rotate_left
  · have hb'' := lt_of h2 eU
    have ha := at_of h2 eU
    have hl := len_of h2
    have hw : IntKind.i64.wrap ((pre.length : Int) + 1) = pre.length + 1 := wrap_i64.2 (by omega)
    cases c : decide (k.id = id) with
    | true =>
      simp only [go_sem, U.cs, Id.cs, hb'', ha, dr31_0, c]
      refine ⟨by omega, hQ _ _ _ ?_⟩
      simp only [go_sem]
      have e := atM_hit (ks := ks) h3 (by simpa using c)
      rw [h2] at e
      exact fin u 0 pre.length _ _ (by rw [parM_eq, e, if_pos (by omega)]) (by simp only [go_sem]) (by simp only [go_sem]) (by simp only [go_sem]) (.push (.push (.push (.refl hwf) _) _) _) (by simp only [go_sem, U.cs])
    | false =>
      have hne : ¬k.id = id := by simpa using c
      simp only [go_sem, U.cs, Id.cs, hb'', ha, dr31_0, c, hw]
      refine ⟨by omega, ?_⟩
      refine hK _ _ (pre ++ [k], ks) (by simp) ⟨snoc_of h2, ?_⟩ (.refl hwf') (Nat.le_refl _) (Nat.le_refl _) ?_
      · intro x hx
        rcases List.mem_append.1 hx with hx | hx
        · exact h3 x hx
        · simp at hx; subst hx; exact hne
      · simp only [go_sem, len_snoc]
        try simp
        try omega
  have hb := ge_of h2 eU
  rw [List.append_nil] at h2
  have hp : parM id u = parL id u.kids := by rw [parM_eq, atM_none (by rw [← h2]; exact h3), if_neg (by decide)]
  simp only [go_sem, U.cs, Id.cs, hb]
  refine hQ _ _ _ ?_
  simp only [go_sem]
  clear h2 h3 hb hK hQ hk hwf'
  refine AX.iter (S := List U × List U) ttOk (fun a => [(2, .ptr H.n 0), (3, .ptr (H.n + 1) 0), (4, .ptr (H.n + 1 + 1) 0), (8, .int .i64 a.1.length)])
      (fun a => ((H.push (.cells u.cs 27)).push (.cells id.cs 23)).push (.cells [.int .i64 0, .int .i64 0, .int .i64 0, .int .i64 0, .str ByteArray.empty, .nilS, .nilS, .nilS] 27)) (fun a => a.2.length)
      (fun a => a.1 ++ a.2 = u.kids ∧ ∀ x ∈ a.1, (parM id x).2.2 < 0) ([], u.kids) ?_ rfl ⟨rfl, by simp⟩ ?_
  · simp only [go_sem, U.cs, Id.cs]
  rintro ⟨pre, post⟩ ⟨h2, h3⟩ hk hwf' K R' hK hQ
  simp only at h2 h3 hK ⊢
  unfold l31_1
  rcases post with _ | ⟨k, ks⟩
  · have hb := ge_of h2 eU
    simp only [go_sem, U.cs, Id.cs, hb]
    refine hQ _ _ _ ?_
    simp only [go_sem]
    have e : parL id u.kids = (zeroU, 0, -1) := by rw [← h2, parL_skip h3]; rfl
    rw [hp, e] at h
    refine hR _ _ _ (ares_ctt (ares1_cell (v := .agg [.int .i64 0, .int .i64 0, .int .i64 0, .int .i64 0, .str ByteArray.empty, .nilS, .nilS, .nilS]) (id := H.n + 1 + 1) (off := 0) (cs := [.int .i64 0, .int .i64 0, .int .i64 0, .int .i64 0, .str ByteArray.empty, .nilS, .nilS, .nilS]) (e := 27) tt_27 (by simp only [go_sem]) (by simp only [go_sem]) (by decide) (by simp only [go_sem]) rfl) (w := .int .i64 0) (x := .int .i64 (-1)) (by simp only [go_sem]) (by simp only [go_sem]))
      (.inl ⟨_, H, ?_, ?_, .push (.push (.push (.refl hwf) _) _) _, rfl, rfl, h⟩)
    · refine .tup rfl fun j c d h1 h2 => ?_
      match j with
      | 0 => simp at h1 h2; subst h1; subst h2; rw [eU_eq]; exact AV.Weak.cells _
      | 1 => simp at h1 h2; subst h1; subst h2; exact .refl _
      | 2 => simp at h1 h2; subst h1; subst h2; exact .refl _
      | j + 3 => simp at h1
    · simp only [go_sem, AV.fit, AV.fitL, Bool.and_true]
  · have hb'' := lt_of h2 eU
    have ha := at_of h2 eU
    have hl := len_of h2
    have hbk : (every k).length ≤ 1000 := by have := kid_le (mem_of h2); omega
    have hw : IntKind.i64.wrap ((pre.length : Int) + 1) = pre.length + 1 := wrap_i64.2 (by omega)
    have hpb := parM_bd id k
    have hw2 : IntKind.i64.wrap ((parM id k).2.1 + 1) = (parM id k).2.1 + 1 := wrap_i64.2 (by omega)
    simp only [go_sem, U.cs, Id.cs, hb'', ha, hw, dr31_1]
    refine ⟨by omega, ?_⟩
    refine PCalls.of (r := .tup [eU (parM id k).1, .int .i64 (parM id k).2.1, .int .i64 (parM id k).2.2]) (fun H' => spec31 k id hbk _ _ ⟨rfl, rfl⟩) ?_
    cases c : decide ((0 : Int) ≤ (parM id k).2.2) with
    | true =>
      simp only [go_sem, c, hw2]
      refine hQ _ _ _ ?_
      simp only [go_sem]
      exact fin (parM id k).1 ((parM id k).2.1 + 1) (parM id k).2.2 _ _ (by rw [hp, ← h2, parL_skip h3, parL, if_pos (by simpa using c)]) (by simp only [go_sem]) (by simp only [go_sem]) (by simp only [go_sem]) (.push (.push (.push (.push (.refl hwf) _) _) _) _) (by simp only [go_sem, U.cs])
    | false =>
      have hneg : (parM id k).2.2 < 0 := by simpa using c
      simp only [go_sem, c, hw]
      refine hK _ _ (pre ++ [k], ks) (by simp) ⟨snoc_of h2, ?_⟩ ?_ (Nat.le_refl _) (Nat.le_refl _) ?_
      · intro x hx
        rcases List.mem_append.1 hx with hx | hx
        · exact h3 x hx
        · simp at hx; subst hx; exact hneg
      · refine .push (.refl (WF_push_cells (WF_push_cells (WF_push_cells hwf _ _ ?_) _ _ ?_) _ _ ?_)) _
        · simp only [go_sem, U.cs]
        · simp only [go_sem, Id.cs]
        · simp only [go_sem]
      · simp only [go_sem, len_snoc]
        try simp
        try omega
termination_by SizeOf.sizeOf u
decreasing_by exact kid_lt (mem_of h2)
end Go.Ai.Tryz

set_option linter.unusedVariables false
set_option linter.unusedSimpArgs false
set_option maxRecDepth 20000
set_option maxHeartbeats 1000000
namespace Go.Ai
open Go Go.Ai.Tryz
def stp (u : U) : Step := ⟨u.kind, u.label⟩
def stepsM (id : Id) (u : U) : List Step := (wayM id u).tail.map stp
def wholeM (u : U) (id : Id) : List Step := if wayM id u = [] then [] else ⟨0, ByteArray.empty⟩ :: stepsM id u
theorem elem_eS (l : List Step) : ∀ z, z ∈ l.map eS → z.cells.length = 2 ∧ z.cells.all AV.scal = true := by
  intro z hz
  obtain ⟨w, _, rfl⟩ := List.mem_map.1 hz
  exact ⟨rfl, rfl⟩
theorem ares_tt {tt : TT} {env : Env} {H : AH} {a b : Nat} {v w : AV} (h1 : look a env = v) (h2 : look b env = w) : ares tt env H [.tmp a, .tmp b] (.tup [v, w]) := ⟨_, ⟨_, _, h1, ⟨_, _, h2, rfl, rfl⟩, rfl⟩, rfl⟩
theorem Weak_tup2 {a b c d : AV} (h1 : a.Weak c) (h2 : b.Weak d) : (AV.tup [a, b]).Weak (.tup [c, d]) := .tup rfl fun j x y h3 h4 => by
  match j with
  | 0 => simp at h3 h4; subst h3; subst h4; exact h1
  | 1 => simp at h3 h4; subst h3; subst h4; exact h2
  | j + 2 => simp at h3
theorem fold_stp (k : U) : AV.agg [.int .i64 k.kind, .str k.label] = eS (stp k) := rfl
theorem stepsM_len (id : Id) (u : U) : (stepsM id u).length ≤ (every u).length := by
  have := wayM_len id u
  simp [stepsM]; omega
end Go.Ai
namespace Go.Ai.Tryz
open Go Go.Ai Go.Proofs
variable {w0 : World}
theorem spec38 (u : U) (id : Id) (hb : (every u).length ≤ 1000) (H : AH) (Q : AV → AH → Prop) (h : Q (.tup [.slice ((stepsM id u).map eS), .bool (!(wayM id u).isEmpty)]) H) : ACalls Tryz.prog w0 38 [eU u, eId id] H Q := by
  refine enter38 (by simp) fun hwf hok R hR hR0 => ?_
  have hkl := len_everyL u.kids
  have hb0 := hb
  rw [every_eq, List.length_cons] at hb
  unfold x38
  simp only [go_sem]
  simp only [decide_eq_true_eq, decide_eq_false_iff_not]
  refine ⟨fun h1 => ?_, fun h1 => ?_⟩
  · simp only [stepsM, wayM_self h1] at h
    refine ⟨by omega, ?_⟩
    refine hR _ _ _ (ares_tt (v := .own [] H.m) (w := .bool true) (by simp only [go_sem]) (by simp only [go_sem])) (.inl ⟨_, H, Weak_tup2 (AV.Weak.forget (.own [] H.m)) (.refl _), ?_, .pushTok (.push (.push (.refl hwf) _) _) _, rfl, rfl, h⟩)
    simp only [go_sem, AV.fit, AV.fitL, Bool.and_true]
  · refine AX.iter (S := List U × List U) ttOk (fun a => [(2, .ptr H.n 0), (3, .ptr (H.n + 1) 0), (6, .int .i64 a.1.length)])
      (fun a => (H.push (.cells u.cs 27)).push (.cells id.cs 23)) (fun a => a.2.length)
      (fun a => a.1 ++ a.2 = u.kids ∧ ∀ x ∈ a.1, wayM id x = []) ([], u.kids) ?_ rfl ⟨rfl, by simp⟩ ?_
    · simp only [go_sem]
    · rintro ⟨pre, post⟩ ⟨h2, h3⟩ hk hwf' K R' hK hQ
      simp only at h2 h3 hK ⊢
      unfold l38_0
      rcases post with _ | ⟨k, ks⟩
      · have hb := ge_of h2 eU
        simp only [go_sem, U.cs, Id.cs, hb]
        refine hQ _ _ _ ?_
        simp only [go_sem]
        rw [List.append_nil] at h2
        have hn := wayM_none h1 (by rw [← h2]; exact h3)
        simp only [stepsM, hn] at h
        refine hR _ _ _ (ares_tt (v := .nilS) (w := .bool false) (by simp only [go_sem]) (by simp only [go_sem])) (.inl ⟨_, H, Weak_tup2 (AV.Weak.forget .nilS) (.refl _), ?_, .push (.push (.refl hwf) _) _, rfl, rfl, h⟩)
        simp only [go_sem, AV.fit, AV.fitL, Bool.and_true]
      · have hb'' := lt_of h2 eU
        have ha := at_of h2 eU
        have hl := len_of h2
        have hbk : (every k).length ≤ 1000 := by have := kid_le (mem_of h2); omega
        have hsl := stepsM_len id k
        have hw : IntKind.i64.wrap ((pre.length : Int) + 1) = pre.length + 1 := wrap_i64.2 (by omega)
        simp only [go_sem, U.cs, Id.cs, hb'', ha, hw, dr38_0]
        refine ⟨by omega, ?_⟩
        refine PCalls.of (r := .tup [.slice ((stepsM id k).map eS), .bool (!(wayM id k).isEmpty)]) (fun H' => spec38 k id hbk _ _ ⟨rfl, rfl⟩) ?_
        cases c : (wayM id k).isEmpty with
        | true =>
          simp only [go_sem, Bool.not_true, hw]
          refine hK _ _ (pre ++ [k], ks) (by simp) ⟨snoc_of h2, ?_⟩ (.refl hwf') (Nat.le_refl _) (Nat.le_refl _) ?_
          · intro x hx
            rcases List.mem_append.1 hx with hx | hx
            · exact h3 x hx
            · simp at hx; subst hx; simpa using c
          · simp only [go_sem, len_snoc]
            try simp
            try omega
        | false =>
          simp only [go_sem, Bool.not_false, dr38_1, ha]
          refine ⟨by omega, by omega, by omega, elem_eS _, ⟨by simp only [List.length_map]; omega, by simp only [List.length_map]; omega⟩, ?_⟩
          refine hQ _ _ _ ?_
          simp only [go_sem]
          have hne : wayM id k ≠ [] := by intro e; rw [e] at c; cases c
          have hway := wayM_kid h1 h2 h3 hne
          have e1 : (stepsM id u).map eS = eS (stp k) :: (stepsM id k).map eS := by
            obtain ⟨w, ws, hwk⟩ := List.exists_cons_of_ne_nil hne
            have hk0 : w = k := by
              rw [wayM_eq] at hwk
              split at hwk
              · simp at hwk; exact hwk.1.symm
              · split at hwk
                · cases hwk
                · simp at hwk; exact hwk.1.symm
            subst hk0
            simp [stepsM, hway, hwk]
          have e2 : (!(wayM id u).isEmpty) = true := by rw [hway]; rfl
          rw [e1, e2] at h
          refine hR _ _ _ (ares_tt (v := .slice (eS (stp k) :: (stepsM id k).map eS)) (w := .bool true) (by simp only [go_sem, fold_stp]) (by simp only [go_sem])) (.same (.push (.push (.refl hwf) _) _) ?_ h)
          rw [← List.map_cons]
          simp only [go_sem, AV.fit, AV.fitL, Bool.and_true]
termination_by SizeOf.sizeOf u
decreasing_by exact kid_lt (mem_of h2)
theorem spec11 (u : U) (id : Id) (hb : (every u).length ≤ 1000) (H : AH) (Q : AV → AH → Prop) (h : Q (.tup [.slice ((wholeM u id).map eS), .bool (!(wayM id u).isEmpty)]) H) : ACalls Tryz.prog w0 11 [eU u, eId id] H Q := by
  refine enter11 (by simp) fun hwf hok R hR hR0 => ?_
  have hsl := stepsM_len id u
  unfold x11
  simp only [go_sem]
  refine spec38 u id hb _ _ ?_
  cases c : (wayM id u).isEmpty with
  | true =>
    have hw : wayM id u = [] := by simpa using c
    rw [wholeM, if_pos hw, c] at h
    simp only [go_sem, Bool.not_true, Bool.not_false]
    refine hR _ _ _ (ares_tt (v := .nilS) (w := .bool false) (by simp only [go_sem]) (by simp only [go_sem])) (.inl ⟨_, H, Weak_tup2 (AV.Weak.forget .nilS) (.refl _), ?_, .push (.push (.refl hwf) _) _, rfl, rfl, h⟩)
    simp only [go_sem, AV.fit, AV.fitL, Bool.and_true]
  | false =>
    have hw : ¬wayM id u = [] := by intro e; rw [e] at c; cases c
    rw [wholeM, if_neg hw, c] at h
    simp only [go_sem, Bool.not_true, Bool.not_false]
    refine ⟨by omega, elem_eS _, ⟨by simp only [List.length_map]; omega, by simp only [List.length_map]; omega⟩, ?_⟩
    refine hR _ _ _ (ares_tt (v := .own (eS ⟨0, ByteArray.empty⟩ :: (stepsM id u).map eS) H.m) (w := .bool true) (by simp only [go_sem]; rfl) (by simp only [go_sem])) (.inl ⟨_, H, Weak_tup2 (AV.Weak.forget (.own _ _)) (.refl _), ?_, .pushTok (.push (.push (.refl hwf) _) _) _, rfl, rfl, h⟩)
    rw [AV.forget, ← List.map_cons]
    simp only [go_sem, AV.fit, AV.fitL, Bool.and_true]
end Go.Ai.Tryz
