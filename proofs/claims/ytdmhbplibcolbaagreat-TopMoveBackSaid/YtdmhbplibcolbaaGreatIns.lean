/- A part of the proof: no statement of the seat is proved in this text. -/
import Derived.Test.YtdmhbplibcolbaaGreatTgt
set_option linter.unusedVariables false
set_option linter.unusedSimpArgs false
namespace Go.Ai
open Go Go.Ai.Tryz
theorem walkM_sub (u : U) (r : List Step) (l : List U) (h : ∀ x ∈ l, x ∈ every u) : ∀ x ∈ walkM r l, x ∈ every u := by
  induction r generalizing l with
  | nil => exact h
  | cons s r ih =>
    refine ih _ fun x hx => ?_
    simp only [stepM, List.mem_flatMap] at hx
    obtain ⟨y, hy, hx⟩ := hx
    have h1 : x ∈ y.kids := (List.mem_filter.1 hx).1
    refine every_sub (h y hy) x ?_
    rw [every_eq y]
    obtain ⟨a, b, hab⟩ := List.append_of_mem h1
    rw [hab, everyL_append]
    simp only [everyL, every_eq x]; simp
theorem foundM_sub (u : U) (p : List Step) : ∀ x ∈ foundM u p, x ∈ every u := by
  have hu : ∀ x ∈ [u], x ∈ every u := by intro x hx; simp at hx; subst hx; rw [every_eq]; simp
  unfold foundM
  split
  · split
    · exact hu
    · refine walkM_sub u _ _ ?_
      unfold startM
      split
      · exact hu
      · intro x hx; exact (List.mem_filter.1 hx).1
  · intro x hx; cases hx
mutual
theorem way_of_mem (id : Id) (u : U) : ∀ x ∈ every u, x.id = id → wayM id u ≠ [] := by
  cases u with
  | mk a b c d e kids =>
    intro x hx hxi
    simp only [every, List.mem_cons] at hx
    simp only [wayM]
    split
    · simp
    · rename_i hne
      rcases hx with rfl | hx
      · exact absurd hxi hne
      · have := wayL_of_mem id kids x hx hxi
        split
        · rename_i e; exact absurd e this
        · simp
theorem wayL_of_mem (id : Id) (l : List U) : ∀ x ∈ everyL l, x.id = id → wayL id l ≠ [] := by
  cases l with
  | nil => intro x hx; cases hx
  | cons k ks =>
    intro x hx hxi
    simp only [everyL, List.mem_append] at hx
    simp only [wayL]
    rcases hx with hx | hx
    · have := way_of_mem id k x hx hxi
      split
      · rename_i e; exact absurd e this
      · simp
    · split
      · exact wayL_of_mem id ks x hx hxi
      · simp
end
theorem oneM_way {u : U} {p : List Step} (h : (oneM (idsM u p)).2 = 0) : wayM (oneM (idsM u p)).1 u ≠ [] := by
  unfold idsM idsOf at h ⊢
  have hs := foundM_sub u p
  rcases hf : foundM u p with _ | ⟨x, _ | ⟨y, r⟩⟩
  · rw [hf] at h; simp [oneM] at h
  · rw [hf] at hs
    simp only [List.map_cons, List.map_nil, oneM]
    exact way_of_mem x.id u x (hs x (List.mem_cons_self ..)) rfl
  · rw [hf] at h; simp [oneM] at h
theorem parentM_ok {u : U} {id : Id} (hu : u.id ≠ id) (h : wayM id u ≠ []) : (parentM u id).2.2 = true := by
  rw [wayM_eq, if_neg hu] at h
  have e := wayM_eq id u
  rw [if_neg hu] at e
  cases hl : wayL id u.kids with
  | nil => rw [hl] at h; exact absurd rfl h
  | cons w ws =>
    rw [hl] at e
    simp only at e
    obtain ⟨p, hp⟩ : ∃ p, (u :: w :: ws)[ws.length]? = some p := ⟨_, List.getElem?_eq_getElem (by simp; omega)⟩
    simp only [parentM, e, List.length_cons]
    rw [if_neg (by omega), show ws.length + 1 + 1 - 2 = ws.length by omega, hp]
end Go.Ai
namespace Go.Ai.Tryz
open Go Go.Ai Go.Proofs
variable {w0 : World}
theorem lead_of (w : Int) (u : U) (id : Id) (hb : (every u).length ≤ 1000) (hs : small (every u)) (hw : 0 ≤ w ∧ w ≤ 3) (f : FuncId) (hf : [AV.fn 83 [], AV.fn 86 [], AV.fn 88 [], AV.fn 90 []][w.toNat]? = some (.fn f [])) (H : AH) (Q : AV → AH → Prop)
    (h : Q (.tup [eSp (leadM w u id).1 (leadM w u id).2.1, .int .i64 (leadM w u id).2.2]) H) : ACalls Tryz.prog w0 f [eU u, eId id] H Q := by
  rcases (show w = 0 ∨ w = 1 ∨ w = 2 ∨ w = 3 by omega) with rfl | rfl | rfl | rfl
  · cases hf; exact spec83 u id hb hs H Q h
  · cases hf; exact spec86 u id hb hs H Q h
  · cases hf; exact spec88 u id hb hs H Q h
  · cases hf; exact spec90 u id hb hs H Q h
theorem spec39 (u : U) (p : List Step) (w : Int) (hb : (every u).length ≤ 1000) (hs : small (every u)) (H : AH) (Q : AV → AH → Prop) (h : Q (.tup [eId (insM u p w).1, .int .i64 (insM u p w).2.1, .int .i64 (insM u p w).2.2]) H) :
    ACalls Tryz.prog w0 39 [eU u, .slice (p.map eS), .int .i64 w] H Q := by
  refine enter39 (by simp) fun hwf hok R hR hR0 => ?_
  have fin : ∀ (i : Id) (e b : Int) env' H', insM u p w = (i, e, b) → look 6 env' = .ptr (H.n + 1) 0 → look 7 env' = .int .i64 e → look 8 env' = .int .i64 b → H.Sub H' → H'.obj (H.n + 1) = some (.cells [.int .i64 i.act, .int .i64 i.item, .int .i64 i.n] 23) → R .ret env' H' := fun i e b env' H' h1 h2 h3 h4 h5 h6 => by
    rw [h1] at h
    exact hR _ _ _ (ares_ctt (ares1_cell (v := eId i) (cs := [.int .i64 i.act, .int .i64 i.item, .int .i64 i.n]) (e := 23) tt_23 h2 h6 (by decide) (by simp only [go_sem]) rfl) h3 h4) (.same h5 rfl h)
  unfold x39
  simp only [go_sem]
  refine spec40 w _ _ ?_
  by_cases hw : (decide (0 ≤ w) && decide (w ≤ 3)) = true
  · have hw' : 0 ≤ w ∧ w ≤ 3 := by simpa using hw
    simp only [go_sem, hw, Bool.not_true]
    refine spec37 u p hb _ _ ?_
    simp only [go_sem]
    by_cases he : (oneM (idsM u p)).2 = 0
    · simp only [go_sem, he, Bool.not_true, dr39_0]
      obtain ⟨f, hf, hidx⟩ : ∃ f, [AV.fn 83 [], AV.fn 86 [], AV.fn 88 [], AV.fn 90 []][w.toNat]? = some (.fn f []) ∧ List.take 1 (List.drop (w.toNat * 1) [AV.fn 83 [], AV.fn 86 [], AV.fn 88 [], AV.fn 90 []]) = [.fn f []] := by
        rcases (show w = 0 ∨ w = 1 ∨ w = 2 ∨ w = 3 by omega) with rfl | rfl | rfl | rfl <;> exact ⟨_, rfl, rfl⟩
      refine PCalls.of (r := .agg [.fn 83 [], .fn 86 [], .fn 88 [], .fn 90 []]) (fun H' => spec67 _ _ ⟨rfl, rfl⟩) ?_
      simp only [go_sem, hidx]
      refine ⟨⟨by omega, by omega, by omega⟩, ?_⟩
      refine PCalls.of (r := .tup [eSp (leadM w u (oneM (idsM u p)).1).1 (leadM w u (oneM (idsM u p)).1).2.1, .int .i64 (leadM w u (oneM (idsM u p)).1).2.2]) (fun H' => lead_of w u _ hb hs hw' f hf _ _ ⟨rfl, rfl⟩) ?_
      simp only [go_sem]
      by_cases h2 : (leadM w u (oneM (idsM u p)).1).2.2 = 0
      · simp only [go_sem, h2, Bool.not_true, dr39_1]
        exact fin (leadM w u (oneM (idsM u p)).1).1 (leadM w u (oneM (idsM u p)).1).2.1 0 _ _ (by rw [insM, if_pos hw, if_pos he, if_pos h2]; exact Prod.ext rfl (Prod.ext rfl h2)) (by simp only [go_sem]) (by simp only [go_sem]) (by simp only [go_sem]) (.push (.push (.push (.push (.refl hwf) _) _) _) _) (by simp only [go_sem])
      · simp only [go_sem, h2, Bool.not_false]
        exact fin zeroId 0 (leadM w u (oneM (idsM u p)).1).2.2 _ _ (by rw [insM, if_pos hw, if_pos he, if_neg h2]) (by simp only [go_sem]) (by simp only [go_sem]) (by simp only [go_sem]) (.push (.push (.push (.push (.refl hwf) _) _) _) _) (by simp only [go_sem])
    · simp only [go_sem, he, Bool.not_false]
      refine fin zeroId 0 (oneM (idsM u p)).2 _ _ (by rw [insM, if_pos hw, if_neg he]) (by simp only [go_sem]) (by simp only [go_sem]) (by simp only [go_sem]) (.push (.push (.push (.refl hwf) _) _) _) (by simp only [go_sem])
  · have hw' : (decide (0 ≤ w) && decide (w ≤ 3)) = false := by simpa using hw
    simp only [go_sem, hw', Bool.not_false]
    exact fin zeroId 0 1 _ _ (by rw [insM, if_neg hw]) (by simp only [go_sem]) (by simp only [go_sem]) (by simp only [go_sem]) (.push (.push (.refl hwf) _) _) (by simp only [go_sem])
end Go.Ai.Tryz

set_option linter.unusedVariables false
set_option linter.unusedSimpArgs false
namespace Go.Ai
open Go Go.Ai.Tryz
@[go_sem] theorem fitL_str (n m : Nat) (l : List ByteArray) : AV.fitL n m (l.map AV.str) = true := fit_map AV.str (fun _ => rfl) l
def isVis (c : Int) : Bool := decide (33 ≤ c) && decide (c ≤ 126)
def wordOk (s : ByteArray) : Bool := decide (1 ≤ s.size) && decide (s.size ≤ 24) && (bts s).all isVis
def textsOk (l : List ByteArray) : Bool := decide (l.length ≤ 256) && l.all wordOk
def rowOk (l : List Wd) : Bool := decide (l.length ≤ 256) && textsOk (l.map (·.text))
end Go.Ai
namespace Go.Ai.Tryz
open Go Go.Ai Go.Proofs
variable {w0 : World}
theorem spec78 (s : ByteArray) (H : AH) (Q : AV → AH → Prop) (h : Q (.bool (wordOk s)) H) : ACalls Tryz.prog w0 78 [.str s] H Q := by
  refine enter78 (by simp) fun hwf hok R hR hR0 => ?_
  have hlen := (hok (.str s) (by simp)).str
  have fin : ∀ b env', wordOk s = b → look 2 env' = .bool b → R .ret env' H := fun b env' h1 h2 => hR _ _ _ rfl (.same (.refl hwf) (by rw [h2]; rfl) (by rw [h2, ← h1]; exact h))
  unfold x78
  by_cases h1 : s.size < 1
  · have e1 : decide ((s.size : Int) < 1) = true := by simp; omega
    simp only [go_sem, e1]
    exact fin false _ (by simp [wordOk]; omega) (by simp only [go_sem])
  have e1 : decide ((s.size : Int) < 1) = false := by simp; omega
  by_cases h2 : 24 < s.size
  · have e2 : decide (24 < (s.size : Int)) = true := by simp; omega
    simp only [go_sem, e1, e2]
    exact fin false _ (by simp [wordOk]; omega) (by simp only [go_sem])
  have e2 : decide (24 < (s.size : Int)) = false := by simp; omega
  have hall : wordOk s = (bts s).all isVis := by
    simp only [wordOk]
    rw [show decide (1 ≤ s.size) = true by simp; omega, show decide (s.size ≤ 24) = true by simp; omega]; rfl
  simp only [go_sem, e1, e2]
  refine AX.iter0 (S := List Int × List Int) ttOk (fun s' => [(0, .str s), (3, .int .i64 s'.1.length)]) (fun s => s.2.length)
    (fun s' => s'.1 ++ s'.2 = bts s ∧ s'.2.all isVis = (bts s).all isVis) ([], bts s) ?_ ⟨rfl, rfl⟩ ?_
  · simp only [go_sem]
  · rintro ⟨pre, post⟩ ⟨h3, h4⟩ hk hwf' K R' hK hQ
    simp only at h3 h4 hK ⊢
    unfold l78_0
    rcases post with _ | ⟨c, ks⟩
    · have hb := sge_of h3
      simp only [go_sem, hb]
      refine hQ _ _ _ ?_
      simp only [go_sem]
      exact fin true _ (by rw [hall, ← h4]; rfl) (by simp only [go_sem])
    · have hb := slt_of h3
      have hb' := slt_of' h3
      have ha := byteAt_of h3
      have hw : IntKind.i64.wrap ((pre.length : Int) + 1) = pre.length + 1 := wrap_i64.2 (by omega)
      simp only [List.all_cons] at h4
      have stop : ∀ env', isVis c = false → look 2 env' = .bool false → R' .ret env' H := fun env' h5 h6 => by
        refine hQ _ _ _ ?_
        simp only [go_sem]
        exact fin false _ (by rw [hall, ← h4, h5]; rfl) h6
      by_cases hc : c < 33
      · have g1 : decide (c < 33) = true := by simpa using hc
        simp only [go_sem, hb, ha, g1]
        refine ⟨⟨by omega, by omega⟩, ?_⟩
        exact stop _ (by simp [isVis]; omega) (by simp only [go_sem])
      · have g1 : decide (c < 33) = false := by simp; omega
        by_cases hd : 126 < c
        · have g2 : decide (126 < c) = true := by simpa using hd
          simp only [go_sem, hb, ha, g1, g2]
          repeat refine ⟨⟨by omega, by omega⟩, ?_⟩
          exact stop _ (by simp [isVis]; omega) (by simp only [go_sem])
        · have g2 : decide (126 < c) = false := by simp; omega
          simp only [go_sem, hb, ha, g1, g2, hw]
          repeat refine ⟨⟨by omega, by omega⟩, ?_⟩
          have hv : isVis c = true := by simp [isVis]; omega
          refine hK _ _ (pre ++ [c], ks) (by simp) ⟨snoc_of h3, by rw [← h4, hv]; rfl⟩ (.refl hwf') ?_
          simp only [go_sem, len_snoc]
theorem spec55 (l : List ByteArray) (H : AH) (Q : AV → AH → Prop) (h : Q (.bool (textsOk l)) H) : ACalls Tryz.prog w0 55 [.slice (l.map AV.str)] H Q := by
  refine enter55 (by simp) fun hwf hok R hR hR0 => ?_
  have hlen := (hok (.slice (l.map AV.str)) (by simp)).slice
  rw [List.length_map] at hlen
  have fin : ∀ b env', textsOk l = b → look 2 env' = .bool b → R .ret env' H := fun b env' h1 h2 => hR _ _ _ rfl (.same (.refl hwf) (by rw [h2]; rfl) (by rw [h2, ← h1]; exact h))
  unfold x55
  by_cases h1 : 256 < l.length
  · have e1 : decide (256 < (((l.map AV.str).length : Nat) : Int)) = true := by simp; omega
    simp only [go_sem, e1]
    exact fin false _ (by simp [textsOk]; omega) (by simp only [go_sem])
  have e1 : decide (256 < (((l.map AV.str).length : Nat) : Int)) = false := by simp; omega
  have hall : textsOk l = l.all wordOk := by
    simp only [textsOk]
    rw [show decide (l.length ≤ 256) = true by simp; omega]; rfl
  simp only [go_sem, e1]
  refine AX.iter0 (S := List ByteArray × List ByteArray) ttOk (fun s' => [(0, .slice (l.map AV.str)), (3, .int .i64 s'.1.length)]) (fun s => s.2.length)
    (fun s' => s'.1 ++ s'.2 = l ∧ s'.2.all wordOk = l.all wordOk) ([], l) ?_ ⟨rfl, rfl⟩ ?_
  · simp only [go_sem]
  · rintro ⟨pre, post⟩ ⟨h3, h4⟩ hk hwf' K R' hK hQ
    simp only at h3 h4 hK ⊢
    unfold l55_0
    rcases post with _ | ⟨c, ks⟩
    · have hb := ge_of h3 AV.str
      simp only [go_sem, hb]
      refine hQ _ _ _ ?_
      simp only [go_sem]
      exact fin true _ (by rw [hall, ← h4]; rfl) (by simp only [go_sem])
    · have hb := lt_of h3 AV.str
      have ha := at_of h3 AV.str
      have hl := len_of h3
      have hw : IntKind.i64.wrap ((pre.length : Int) + 1) = pre.length + 1 := wrap_i64.2 (by omega)
      simp only [List.all_cons] at h4
      simp only [go_sem, hb, ha, hw]
      refine ⟨by omega, ?_⟩
      refine spec78 c _ _ ?_
      by_cases hc : wordOk c = true
      · simp only [go_sem, hc, Bool.not_true, hw]
        refine hK _ _ (pre ++ [c], ks) (by simp) ⟨snoc_of h3, by rw [← h4, hc]; rfl⟩ (.refl hwf') ?_
        simp only [go_sem, len_snoc]
      · have hc' : wordOk c = false := by simpa using hc
        simp only [go_sem, hc', Bool.not_false]
        refine hQ _ _ _ ?_
        simp only [go_sem]
        exact fin false _ (by rw [hall, ← h4, hc']; rfl) (by simp only [go_sem])
theorem spec106 (l : List Wd) (hb0 : l.length ≤ 1000000) (H : AH) (Q : AV → AH → Prop) (h : Q (.slice ((l.map (·.text)).map AV.str)) H) : ACalls Tryz.prog w0 106 [.slice (l.map eW)] H Q := by
  refine enter106 (by simp) fun hwf hok R hR hR0 => ?_
  unfold x106
  simp only [go_sem]
  refine ⟨by omega, ?_⟩
  refine AX.iter (S := List Wd × List Wd) ttOk (fun a => [(0, .slice (l.map eW)), (3, .own ((a.1.map (·.text)).map AV.str) H.m), (4, .int .i64 a.1.length)]) (fun a => H.pushTok ⟨((a.1.map (·.text)).map AV.str).length, 9, 1⟩) (fun a => a.2.length)
    (fun a => a.1 ++ a.2 = l) ([], l) ?_ rfl rfl ?_
  · simp only [go_sem]
  · rintro ⟨pre, post⟩ h2 hk hwf' K R' hK hQ
    simp only at h2 hK ⊢
    unfold l106_0
    rcases post with _ | ⟨k, ks⟩
    · have hb := ge_of h2 eW
      simp only [go_sem, hb]
      refine hQ _ _ _ ?_
      simp only [go_sem]
      rw [List.append_nil] at h2
      refine hR _ _ _ rfl (.forget (.pushTok (.refl hwf) _) ?_ ?_)
      · simp only [go_sem, AV.forget]
      · simp only [go_sem, AV.forget]
        rw [h2]; exact h
    · have hb := lt_of h2 eW
      have ha := at_of h2 eW
      have hl := len_of h2
      have hw : IntKind.i64.wrap ((pre.length : Int) + 1) = pre.length + 1 := wrap_i64.2 (by omega)
      simp only [go_sem, hb, ha, hw]
      refine ⟨by omega, by omega, ⟨by simp only [List.length_map]; omega, by simp only [List.length_map]; omega⟩, ?_⟩
      have e : ((pre ++ [k]).map (·.text)).map AV.str = (pre.map (·.text)).map AV.str ++ [AV.str k.text] := by simp
      refine hK _ _ (pre ++ [k], ks) (by simp) (snoc_of h2) ?_ (Nat.le_refl _) (Nat.le_refl _) ?_
      · rw [e]
        exact .pushTok (.refl (WF_pushTok hwf _)) _
      · simp only [go_sem, len_snoc, e]
        simp
theorem spec95 (l : List Wd) (hb0 : l.length ≤ 1000000) (H : AH) (Q : AV → AH → Prop) (h : Q (.bool (rowOk l)) H) : ACalls Tryz.prog w0 95 [.slice (l.map eW)] H Q := by
  refine enter95 (by simp) fun hwf hok R hR hR0 => ?_
  unfold x95
  by_cases h1 : l.length ≤ 256
  · have e1 : decide ((((l.map eW).length : Nat) : Int) ≤ 256) = true := by simp; omega
    simp only [go_sem, e1]
    refine spec106 l hb0 _ _ ?_
    simp only [go_sem]
    refine spec55 _ _ _ ?_
    simp only [go_sem]
    refine hR _ _ _ rfl (.same (.refl hwf) rfl ?_)
    have e : rowOk l = textsOk (l.map (·.text)) := by simp [rowOk, h1]
    rw [← e]; exact h
  · have e1 : decide ((((l.map eW).length : Nat) : Int) ≤ 256) = false := by simp; omega
    simp only [go_sem, e1]
    refine hR _ _ _ rfl (.same (.refl hwf) rfl ?_)
    have e : rowOk l = false := by simp [rowOk, h1]
    rw [← e]; exact h
end Go.Ai.Tryz
