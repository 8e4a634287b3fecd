/- A part of the proof: no statement of the seat is proved in this text. -/
import Derived.Test.YtdmhbplibcolbaaGreatM1
set_option linter.unusedVariables false
set_option linter.unusedSimpArgs false
set_option maxRecDepth 20000
set_option maxHeartbeats 1000000
namespace Go.Ai
open Go Go.Ai.Tryz
mutual
def depthM : U → Nat
  | ⟨_, _, _, _, _, kids⟩ => depthL kids
def depthL : List U → Nat
  | [] => 0
  | k :: ks => max (1 + depthM k) (depthL ks)
end
theorem depthM_eq (u : U) : depthM u = depthL u.kids := by cases u; simp only [depthM]
mutual
theorem depthM_le (u : U) : depthM u + 1 ≤ (every u).length := by
  cases u with
  | mk a b c d e kids =>
    have := depthL_le kids
    simp only [depthM, every, List.length_cons]; omega
theorem depthL_le (l : List U) : depthL l ≤ (everyL l).length := by
  cases l with
  | nil => simp [depthL]
  | cons k ks =>
    have h1 := depthM_le k
    have h2 := depthL_le ks
    simp only [depthL, everyL, List.length_append]; omega
end
mutual
def parM (id : Id) : U → U × Int × Int
  | ⟨a, b, c, d, e, kids⟩ => if 0 ≤ atM kids id 0 then (⟨a, b, c, d, e, kids⟩, 0, atM kids id 0) else parL id kids
def parL (id : Id) : List U → U × Int × Int
  | [] => (zeroU, 0, -1)
  | k :: ks => if 0 ≤ (parM id k).2.2 then ((parM id k).1, (parM id k).2.1 + 1, (parM id k).2.2) else parL id ks
end
theorem parM_eq (id : Id) (u : U) : parM id u = if 0 ≤ atM u.kids id 0 then (u, 0, atM u.kids id 0) else parL id u.kids := by cases u; simp only [parM]
mutual
theorem parM_bd (id : Id) (u : U) : 0 ≤ (parM id u).2.1 ∧ (parM id u).2.1 + 1 ≤ (every u).length := by
  cases u with
  | mk a b c d e kids =>
    have := parL_bd id kids
    simp only [parM, every, List.length_cons]
    split
    · simp only; omega
    · omega
theorem parL_bd (id : Id) (l : List U) : 0 ≤ (parL id l).2.1 ∧ (parL id l).2.1 ≤ (everyL l).length := by
  cases l with
  | nil => simp [parL]
  | cons k ks =>
    have h1 := parM_bd id k
    have h2 := parL_bd id ks
    have h3 : 1 ≤ (every k).length := by rw [every_eq]; simp
    simp only [parL, everyL, List.length_append]
    split
    · simp only; omega
    · omega
end
theorem atM_bd (l : List U) (id : Id) (n : Nat) : -1 ≤ atM l id n ∧ atM l id n ≤ n + l.length := by
  induction l generalizing n with
  | nil => simp [atM]
  | cons k ks ih =>
    have := ih (n + 1)
    rw [show ((n + 1 : Nat) : Int) = (n : Int) + 1 by omega] at this
    simp only [atM, List.length_cons]
    split <;> omega
end Go.Ai
namespace Go.Ai.Tryz
open Go Go.Ai Go.Proofs
variable {w0 : World}
theorem spec60 (u : U) (hb : (every u).length ≤ 1000) (H : AH) (Q : AV → AH → Prop) (h : Q (.int .i64 (depthM u)) H) : ACalls Tryz.prog w0 60 [eU u] H Q := by
  refine enter60 (by simp) fun hwf hok R hR hR0 => ?_
  have hkl := len_everyL u.kids
  have hu1 : (every u).length = (everyL u.kids).length + 1 := by rw [every_eq]; simp
  unfold x60
  simp only [go_sem]
  refine AX.iter (S := List U × List U × Nat) ttOk (fun a => [(1, .ptr H.n 0), (3, .int .i64 a.2.2), (4, .int .i64 a.1.length)]) (fun a => H.push (.cells u.cs 27)) (fun a => a.2.1.length)
    (fun a => a.1 ++ a.2.1 = u.kids ∧ max a.2.2 (depthL a.2.1) = depthM u) ([], u.kids, 0) ?_ rfl ⟨rfl, by rw [depthM_eq]; simp⟩ ?_
  · simp only [go_sem]
    try simp
  · rintro ⟨pre, post, d⟩ ⟨h2, h3⟩ hk hwf' K R' hK hQ
    simp only at h2 h3 hK ⊢
    have hdu := depthM_le u
    unfold l60_0
    rcases post with _ | ⟨k, ks⟩
    · have hb := ge_of h2 eU
      simp only [go_sem, U.cs, hb]
      refine hQ _ _ _ ?_
      simp only [go_sem]
      rw [depthL, Nat.max_eq_left (Nat.zero_le _)] at h3
      rw [← h3] at h
      exact hR _ _ _ rfl (.same (.push (.refl hwf) _) rfl h)
    · have hb'' := lt_of h2 eU
      have ha := at_of h2 eU
      have hl := len_of h2
      have hsum : everyL u.kids = everyL pre ++ (every k ++ everyL ks) := by rw [← h2, everyL_append]; rfl
      have hle : (every k).length + 1 ≤ (every u).length := by rw [hu1, hsum, List.length_append, List.length_append]; omega
      have hw : IntKind.i64.wrap ((pre.length : Int) + 1) = pre.length + 1 := wrap_i64.2 (by omega)
      have hdk := depthM_le k
      have hw2 : IntKind.i64.wrap (1 + (depthM k : Int)) = 1 + depthM k := wrap_i64.2 (by omega)
      rw [depthL] at h3
      simp only [go_sem, U.cs, hb'', ha, hw]
      refine ⟨by omega, ?_⟩
      refine spec60 k (by omega) _ _ ?_
      cases c : decide ((d : Int) < 1 + (depthM k : Int)) with
      | true =>
        have c' : d < 1 + depthM k := by simp at c; omega
        simp only [go_sem, hw, hw2, c]
        refine hK _ _ (pre ++ [k], ks, 1 + depthM k) (by simp) ⟨snoc_of h2, by rw [← h3]; simp only; omega⟩ (.refl hwf') (Nat.le_refl _) (Nat.le_refl _) ?_
        simp only [go_sem, len_snoc]
        try simp
        all_goals exact .refl _
      | false =>
        have c' : ¬d < 1 + depthM k := by simp at c; omega
        simp only [go_sem, hw, hw2, c]
        refine hK _ _ (pre ++ [k], ks, d) (by simp) ⟨snoc_of h2, by rw [← h3]; simp only; omega⟩ (.refl hwf') (Nat.le_refl _) (Nat.le_refl _) ?_
        simp only [go_sem, len_snoc]
        try simp
termination_by SizeOf.sizeOf u
decreasing_by exact kid_lt (mem_of h2)
theorem spec46d (u : U) (hb : (every u).length ≤ 1000) (H : AH) (Q : AV → AH → Prop) (h : Q (.int .i64 (depthM u)) H) : ACalls Tryz.prog w0 46 [eU u] H Q := by
  refine enter46 (by simp) fun hwf hok R hR hR0 => ?_
  have hkl := len_everyL u.kids
  have hu1 : (every u).length = (everyL u.kids).length + 1 := by rw [every_eq]; simp
  unfold x46
  simp only [go_sem]
  refine AX.iter (S := List U × List U × Nat) ttOk (fun a => [(1, .ptr H.n 0), (3, .int .i64 a.2.2), (4, .int .i64 a.1.length)]) (fun a => H.push (.cells u.cs 27)) (fun a => a.2.1.length)
    (fun a => a.1 ++ a.2.1 = u.kids ∧ max a.2.2 (depthL a.2.1) = depthM u) ([], u.kids, 0) ?_ rfl ⟨rfl, by rw [depthM_eq]; simp⟩ ?_
  · simp only [go_sem]
    try simp
  · rintro ⟨pre, post, d⟩ ⟨h2, h3⟩ hk hwf' K R' hK hQ
    simp only at h2 h3 hK ⊢
    have hdu := depthM_le u
    unfold l46_0
    rcases post with _ | ⟨k, ks⟩
    · have hb := ge_of h2 eU
      simp only [go_sem, U.cs, hb]
      refine hQ _ _ _ ?_
      simp only [go_sem]
      rw [depthL, Nat.max_eq_left (Nat.zero_le _)] at h3
      rw [← h3] at h
      exact hR _ _ _ rfl (.same (.push (.refl hwf) _) rfl h)
    · have hb'' := lt_of h2 eU
      have ha := at_of h2 eU
      have hl := len_of h2
      have hsum : everyL u.kids = everyL pre ++ (every k ++ everyL ks) := by rw [← h2, everyL_append]; rfl
      have hle : (every k).length + 1 ≤ (every u).length := by rw [hu1, hsum, List.length_append, List.length_append]; omega
      have hw : IntKind.i64.wrap ((pre.length : Int) + 1) = pre.length + 1 := wrap_i64.2 (by omega)
      have hdk := depthM_le k
      have hw2 : IntKind.i64.wrap (1 + (depthM k : Int)) = 1 + depthM k := wrap_i64.2 (by omega)
      rw [depthL] at h3
      simp only [go_sem, U.cs, hb'', ha, hw]
      refine ⟨by omega, ?_⟩
      refine spec46d k (by omega) _ _ ?_
      simp only [go_sem, hw, hw2]
      refine hK _ _ (pre ++ [k], ks, max d (1 + depthM k)) (by simp) ⟨snoc_of h2, by rw [← h3]; simp only; omega⟩ (.refl hwf') (Nat.le_refl _) (Nat.le_refl _) ?_
      have e : (((max d (1 + depthM k) : Nat)) : Int) = if (d : Int) < 1 + (depthM k : Int) then 1 + (depthM k : Int) else d := by split <;> omega
      simp only [go_sem, len_snoc, e]
      try simp
termination_by SizeOf.sizeOf u
decreasing_by exact kid_lt (mem_of h2)
theorem spec61 (u : U) (hb : (every u).length ≤ 1000) (H : AH) (Q : AV → AH → Prop) (h : Q (.int .i64 (every u).length) H) : ACalls Tryz.prog w0 61 [eU u] H Q := by
  refine enter61 (by simp) fun hwf hok R hR hR0 => ?_
  have hkl := len_everyL u.kids
  have hu1 : (every u).length = (everyL u.kids).length + 1 := by rw [every_eq]; simp
  unfold x61
  simp only [go_sem]
  refine AX.iter (S := List U × List U) ttOk (fun a => [(1, .ptr H.n 0), (3, .int .i64 (((everyL a.1).length + 1 : Nat) : Int)), (4, .int .i64 a.1.length)]) (fun a => H.push (.cells u.cs 27)) (fun a => a.2.length)
    (fun a => a.1 ++ a.2 = u.kids) ([], u.kids) ?_ rfl rfl ?_
  · simp only [go_sem, everyL]
    try simp
  · rintro ⟨pre, post⟩ h2 hk hwf' K R' hK hQ
    simp only at h2 hK ⊢
    unfold l61_0
    rcases post with _ | ⟨k, ks⟩
    · have hb := ge_of h2 eU
      simp only [go_sem, U.cs, hb]
      refine hQ _ _ _ ?_
      simp only [go_sem]
      rw [List.append_nil] at h2
      rw [hu1, ← h2] at h
      exact hR _ _ _ rfl (.same (.push (.refl hwf) _) rfl h)
    · have hb'' := lt_of h2 eU
      have ha := at_of h2 eU
      have hl := len_of h2
      have hsum : everyL u.kids = everyL pre ++ (every k ++ everyL ks) := by rw [← h2, everyL_append]; rfl
      have hle : (everyL pre).length + (every k).length + 1 ≤ (every u).length := by rw [hu1, hsum, List.length_append, List.length_append]; omega
      have hw : IntKind.i64.wrap ((pre.length : Int) + 1) = pre.length + 1 := wrap_i64.2 (by omega)
      have hw2 : IntKind.i64.wrap ((((everyL pre).length + 1 : Nat) : Int) + ((every k).length : Int)) = (((everyL (pre ++ [k])).length + 1 : Nat) : Int) := by rw [everyL_snoc, List.length_append, wrap_i64.2 (by omega)]; omega
      simp only [go_sem, U.cs, hb'', ha, hw]
      refine ⟨by omega, ?_⟩
      refine spec61 k (by omega) _ _ ?_
      simp only [go_sem, hw, hw2]
      refine hK _ _ (pre ++ [k], ks) (by simp) (snoc_of h2) (.refl hwf') (Nat.le_refl _) (Nat.le_refl _) ?_
      simp only [go_sem, len_snoc]
      try simp
termination_by SizeOf.sizeOf u
decreasing_by exact kid_lt (mem_of h2)
end Go.Ai.Tryz

set_option linter.unusedVariables false
set_option linter.unusedSimpArgs false
set_option maxRecDepth 20000
set_option maxHeartbeats 1000000
namespace Go.Ai
open Go Go.Ai.Tryz
theorem cut_lo {α : Type} (f : α → AV) (l : List α) (n : Nat) : List.take ((n : Int).toNat - 0) (l.map f) = (l.take n).map f := by simp
theorem cut_hi {α : Type} (f : α → AV) (l : List α) (n : Nat) : List.take (((l.map f).length : Int).toNat - ((n : Int) + 1).toNat) (List.drop ((n : Int) + 1).toNat (l.map f)) = (l.drop (n + 1)).map f := by
  rw [show ((n : Int) + 1).toNat = n + 1 by omega, List.take_of_length_le (by simp), List.map_drop]
theorem cut_hi0 {α : Type} (f : α → AV) (l : List α) (n : Nat) : List.take (((l.map f).length : Int).toNat - (n : Int).toNat) (List.drop (n : Int).toNat (l.map f)) = (l.drop n).map f := by
  rw [show (n : Int).toNat = n by omega, List.take_of_length_le (by simp), List.map_drop]
def withM (x : U) : U → U
  | ⟨a, b, c, d, e, kids⟩ => if a = x.id then x else ⟨a, b, c, d, e, withL x kids⟩
where withL (x : U) : List U → List U
  | [] => []
  | k :: ks => withM x k :: withL x ks
theorem withL_eq (x : U) (l : List U) : withM.withL x l = l.map (withM x) := by induction l with
  | nil => simp [withM.withL]
  | cons k ks ih => simp [withM.withL, ih]
theorem withM_eq (x u : U) : withM x u = if u.id = x.id then x else { u with kids := u.kids.map (withM x) } := by
  cases u; simp only [withM, withL_eq]
def outM (l : List U) (n : Nat) : List U := l.take n ++ l.drop (n + 1)
def insL (l : List U) (n : Nat) (x : U) : List U := l.take n ++ x :: l.drop n
end Go.Ai
namespace Go.Ai.Tryz
open Go Go.Ai Go.Proofs
variable {w0 : World}
theorem spec32 (l : List U) (n : Nat) (hl : l.length ≤ 1000000) (hn : n < l.length) (H : AH) (Q : AV → AH → Prop) (h : Q (.slice ((outM l n).map eU)) H) : ACalls Tryz.prog w0 32 [.slice (l.map eU), .int .i64 n] H Q := by
  refine enter32 (by simp) fun hwf hok R hR hR0 => ?_
  have hw : IntKind.i64.wrap ((n : Int) + 1) = n + 1 := wrap_i64.2 (by omega)
  have h1 := cut_lo eU l n
  have h2 := cut_hi eU l n
  unfold x32
  simp only [go_sem, dr32_0, hw, h1, h2]
  have e1 : ∀ m, ((l.map eU).length = m) → m = l.length := fun m h => by rw [← h]; simp
  refine ⟨by omega, ⟨by omega, by simp; omega⟩, fun y hy => (elem_eU l y hy).1, elem_eU _, ⟨by simp; omega, by simp; omega⟩, ⟨by omega, by simp; omega, by omega⟩, fun y hy => (elem_eU l y hy).1, elem_eU _, ⟨by simp; omega, by simp; omega⟩, ?_⟩
  refine hR _ _ _ rfl (.forget (.pushTok (.refl hwf) _) ?_ ?_)
  · simp only [go_sem, AV.forget, fitL_append]
  · simp only [go_sem, AV.forget]
    rw [← List.map_append]; exact h
theorem spec63 (l : List U) (n : Nat) (x : U) (hl : l.length ≤ 1000000) (hn : n ≤ l.length) (H : AH) (Q : AV → AH → Prop) (h : Q (.slice ((insL l n x).map eU)) H) : ACalls Tryz.prog w0 63 [.slice (l.map eU), .int .i64 n, eU x] H Q := by
  refine enter63 (by simp) fun hwf hok R hR hR0 => ?_
  have h1 := cut_lo eU l n
  have h2 := cut_hi0 eU l n
  unfold x63
  simp only [go_sem, dr63_0, h1, h2]
  refine ⟨by omega, ⟨by omega, by simp; omega⟩, fun y hy => (elem_eU l y hy).1, elem_eU _, ⟨by simp; omega, by simp; omega⟩, by omega, ⟨by simp; omega, by simp; omega⟩, ⟨by omega, by simp; omega, by omega⟩, fun y hy => (elem_eU l y hy).1, elem_eU _, ⟨by simp; omega, by simp; omega⟩, ?_⟩
  refine hR _ _ _ rfl (.forget (.pushTok (.push (.refl hwf) _) _) ?_ ?_)
  · simp only [go_sem, AV.forget, fitL_append]
  · simp only [go_sem, AV.forget]
    have e : (l.take n).map eU ++ [eU x] ++ (l.drop n).map eU = (insL l n x).map eU := by simp [insL]
    rw [e]; exact h
end Go.Ai.Tryz

set_option linter.unusedVariables false
set_option linter.unusedSimpArgs false
set_option maxRecDepth 20000
set_option maxHeartbeats 1000000
namespace Go.Ai.Tryz
open Go Go.Ai Go.Proofs
variable {w0 : World}
theorem spec33 (u x : U) (hb : (every u).length ≤ 1000) (H : AH) (Q : AV → AH → Prop) (h : Q (eU (withM x u)) H) : ACalls Tryz.prog w0 33 [eU u, eU x] H Q := by
  refine enter33 (by simp) fun hwf hok R hR hR0 => ?_
  have hkl := len_everyL u.kids
  have hb0 := hb
  rw [every_eq, List.length_cons] at hb
  rw [withM_eq] at h
  unfold x33
  cases c0 : decide (u.id = x.id) with
  | true =>
    rw [if_pos (by simpa using c0)] at h
    simp only [go_sem, c0]
    exact hR _ _ _ (ares_c (ares1_cell (v := eU x) (id := H.n + 1 + 1) (off := 0) (cs := x.cs) (e := 27) tt_27 (by simp only [go_sem]) (by simp only [go_sem, U.cs]) (by decide) (by simp only [go_sem, U.cs]) (by rw [eU_eq]; rfl))) (.same (.push (.push (.push (.refl hwf) _) _) _) (fit_eU _ _ x) h)
  | false =>
    rw [if_neg (by simpa using c0)] at h
    simp only [go_sem, c0]
    refine ⟨by omega, ?_⟩
    refine AX.iter (S := List U × List U) ttOk (fun a => [(2, .ptr H.n 0), (3, .ptr (H.n + 1) 0), (4, .ptr (H.n + 1 + 1) 0), (5, .own ((a.1.map (withM x)).map eU) H.m), (6, .int .i64 a.1.length)])
      (fun a => (((H.push (.cells u.cs 27)).push (.cells x.cs 27)).push (.cells [.int .i64 0, .int .i64 0, .int .i64 0, .int .i64 0, .str ByteArray.empty, .nilS, .nilS, .nilS] 27)).pushTok ⟨((a.1.map (withM x)).map eU).length, 27, 8⟩) (fun a => a.2.length)
      (fun a => a.1 ++ a.2 = u.kids) ([], u.kids) ?_ rfl rfl ?_
    · simp only [go_sem]
    · rintro ⟨pre, post⟩ h2 hk hwf' K R' hK hQ
      simp only at h2 hK ⊢
      unfold l33_0
      rcases post with _ | ⟨k, ks⟩
      · have hb := ge_of h2 eU
        simp only [go_sem, U.cs, hb]
        refine hQ _ _ _ ?_
        simp only [go_sem]
        rw [List.append_nil] at h2
        refine hR _ _ (.agg [.int .i64 u.id.act, .int .i64 u.id.item, .int .i64 u.id.n, .int .i64 u.kind, .str u.label, .slice (u.head.map eW), .slice (u.words.map eW), .own ((pre.map (withM x)).map eU) H.m])
          (ares_c (ares1_cell (id := H.n + 1 + 1) (off := 0) (cs := [.int .i64 u.id.act, .int .i64 u.id.item, .int .i64 u.id.n, .int .i64 u.kind, .str u.label, .slice (u.head.map eW), .slice (u.words.map eW), .own ((pre.map (withM x)).map eU) H.m]) (e := 27) tt_27 (by simp only [go_sem]) (by simp only [go_sem]) (by decide) (by simp only [go_sem]) rfl))
          (.inl ⟨eU { u with kids := u.kids.map (withM x) }, H, ?_, fit_eU _ _ _, .pushTok (.push (.push (.push (.refl hwf) _) _) _) _, rfl, rfl, h⟩)
        rw [eU_eq, U.cs, ← h2]
        exact AV.Weak.cells _
      · have hb'' := lt_of h2 eU
        have ha := at_of h2 eU
        have hl := len_of h2
        have hbk : (every k).length ≤ 1000 := by have := kid_le (mem_of h2); omega
        have hw : IntKind.i64.wrap ((pre.length : Int) + 1) = pre.length + 1 := wrap_i64.2 (by omega)
        simp only [go_sem, U.cs, hb'', dr33_0, ha, hw]
        refine ⟨by omega, ?_⟩
        refine PCalls.of (r := eU (withM x k)) (fun H' => spec33 k x hbk _ _ ⟨rfl, rfl⟩) ?_
        simp only [go_sem, hw]
        refine ⟨by omega, ⟨by simp only [List.length_map]; omega, by simp only [List.length_map]; omega⟩, ?_⟩
        have e : ((pre ++ [k]).map (withM x)).map eU = (pre.map (withM x)).map eU ++ [eU (withM x k)] := by simp
        refine hK _ _ (pre ++ [k], ks) (by simp) (snoc_of h2) ?_ (Nat.le_refl _) (Nat.le_refl _) ?_
        · rw [e]
          refine .refl (WF_pushTok (WF_push_cells (WF_push_cells (WF_push_cells hwf _ _ ?_) _ _ ?_) _ _ ?_) _)
          · simp only [go_sem, U.cs]
          · simp only [go_sem, U.cs]
          · simp only [go_sem]
        · simp only [go_sem, len_snoc, e]
          try simp
          try omega
termination_by SizeOf.sizeOf u
decreasing_by exact kid_lt (mem_of h2)
theorem spec30 (u : U) (id : Id) (hb : (every u).length ≤ 1000) (H : AH) (Q : AV → AH → Prop) (h : Q (.tup [eU (findM u id).1, .int .i64 ((wayM id u).length - 1)]) H) : ACalls Tryz.prog w0 30 [eU u, eId id] H Q := by
  refine enter30 (by simp) fun hwf hok R hR hR0 => ?_
  have hkl := len_everyL u.kids
  have hb0 := hb
  have hwl0 := wayM_len id u
  rw [every_eq, List.length_cons] at hb
  have fin : ∀ (x : U) (d : Int) env' H', (findM u id).1 = x → ((wayM id u).length : Int) - 1 = d → look 4 env' = .ptr (H.n + 1 + 1) 0 → look 5 env' = .int .i64 d → H.Sub H' → H'.obj (H.n + 1 + 1) = some (.cells x.cs 27) → R .ret env' H' := fun x d env' H' h1 h1' h2 h3 h4 h5 => by
    rw [h1, h1'] at h
    exact hR _ _ _ (ares_ct (ares1_cell (v := eU x) (cs := x.cs) (e := 27) tt_27 h2 h5 (by decide) (by simp only [go_sem, U.cs]) (by rw [eU_eq]; rfl)) h3) (.same h4 (by simp only [go_sem, AV.fit, AV.fitL, Bool.and_true]) h)
  unfold x30
  simp only [go_sem]
  simp only [decide_eq_true_eq, decide_eq_false_iff_not]
  refine ⟨fun h1 => ?_, fun h1 => ?_⟩
  · exact fin u 0 _ _ (by rw [findM_self h1]) (by rw [wayM_self h1]; rfl) (by simp only [go_sem]) (by simp only [go_sem]) (.push (.push (.push (.refl hwf) _) _) _) (by simp only [go_sem, U.cs])
  · refine AX.iter (S := List U × List U) ttOk (fun a => [(2, .ptr H.n 0), (3, .ptr (H.n + 1) 0), (4, .ptr (H.n + 1 + 1) 0), (6, .int .i64 a.1.length)])
      (fun a => ((H.push (.cells u.cs 27)).push (.cells id.cs 23)).push (.cells [.int .i64 0, .int .i64 0, .int .i64 0, .int .i64 0, .str ByteArray.empty, .nilS, .nilS, .nilS] 27)) (fun a => a.2.length)
      (fun a => a.1 ++ a.2 = u.kids ∧ ∀ x ∈ a.1, wayM id x = []) ([], u.kids) ?_ rfl ⟨rfl, by simp⟩ ?_
    · simp only [go_sem]
    · rintro ⟨pre, post⟩ ⟨h2, h3⟩ hk hwf' K R' hK hQ
      simp only at h2 h3 hK ⊢
      unfold l30_0
      rcases post with _ | ⟨k, ks⟩
      · have hb := ge_of h2 eU
        simp only [go_sem, U.cs, Id.cs, hb]
        refine hQ _ _ _ ?_
        simp only [go_sem]
        rw [List.append_nil] at h2
        have hn := wayM_none h1 (by rw [← h2]; exact h3)
        rw [findM_none hn, hn] at h
        refine hR _ _ _ (ares_ct (ares1_cell (v := .agg [.int .i64 0, .int .i64 0, .int .i64 0, .int .i64 0, .str ByteArray.empty, .nilS, .nilS, .nilS]) (id := H.n + 1 + 1) (off := 0) (cs := [.int .i64 0, .int .i64 0, .int .i64 0, .int .i64 0, .str ByteArray.empty, .nilS, .nilS, .nilS]) (e := 27) tt_27 (by simp only [go_sem]) (by simp only [go_sem]) (by decide) (by simp only [go_sem]) rfl) (w := .int .i64 (-1)) (by simp only [go_sem]))
          (.inl ⟨_, H, ?_, ?_, .push (.push (.push (.refl hwf) _) _) _, rfl, rfl, h⟩)
        · refine .tup rfl fun j c d h1 h2 => ?_
          match j with
          | 0 => simp at h1 h2; subst h1; subst h2; rw [eU_eq]; exact AV.Weak.cells _
          | 1 => simp at h1 h2; subst h1; subst h2; exact .refl _
          | j + 2 => simp at h1
        · simp only [go_sem, AV.fit, AV.fitL, Bool.and_true]
      · have hb'' := lt_of h2 eU
        have ha := at_of h2 eU
        have hl := len_of h2
        have hbk : (every k).length ≤ 1000 := by have := kid_le (mem_of h2); omega
        have hwl := wayM_len id k
        have hw : IntKind.i64.wrap ((pre.length : Int) + 1) = pre.length + 1 := wrap_i64.2 (by omega)
        have hw2 : IntKind.i64.wrap (((wayM id k).length : Int) - 1 + 1) = (wayM id k).length := by rw [wrap_i64.2 (by omega)]; omega
        simp only [go_sem, U.cs, Id.cs, hb'', ha, hw, dr30_0]
        refine ⟨by omega, ?_⟩
        refine PCalls.of (r := .tup [eU (findM k id).1, .int .i64 ((wayM id k).length - 1)]) (fun H' => spec30 k id hbk _ _ ⟨rfl, rfl⟩) ?_
        by_cases hf : wayM id k = []
        · have e1 : decide ((0 : Int) ≤ ((wayM id k).length : Int) - 1) = false := by rw [hf]; rfl
          simp only [go_sem, e1, hw]
          refine hK _ _ (pre ++ [k], ks) (by simp) ⟨snoc_of h2, ?_⟩ ?_ (Nat.le_refl _) (Nat.le_refl _) ?_
          · intro x hx
            rcases List.mem_append.1 hx with hx | hx
            · exact h3 x hx
            · simp at hx; subst hx; exact hf
          · refine .push (.refl (WF_push_cells (WF_push_cells (WF_push_cells hwf _ _ ?_) _ _ ?_) _ _ ?_)) _
            · simp only [go_sem, U.cs]
            · simp only [go_sem, Id.cs]
            · simp only [go_sem]
          · simp only [go_sem, len_snoc]
            try simp
            try omega
        · have hpos : 0 < (wayM id k).length := List.length_pos_iff.2 hf
          have e1 : decide ((0 : Int) ≤ ((wayM id k).length : Int) - 1) = true := by simp; omega
          simp only [go_sem, e1, hw2]
          refine hQ _ _ _ ?_
          simp only [go_sem]
          exact fin (findM k id).1 ((wayM id k).length) _ _ (by rw [findM_kid h1 h2 h3 hf]) (by rw [wayM_kid h1 h2 h3 hf, List.length_cons]; omega) (by simp only [go_sem]) (by simp only [go_sem]) (.push (.push (.push (.push (.refl hwf) _) _) _) _) (by simp only [go_sem, U.cs])
termination_by SizeOf.sizeOf u
decreasing_by exact kid_lt (mem_of h2)
end Go.Ai.Tryz
