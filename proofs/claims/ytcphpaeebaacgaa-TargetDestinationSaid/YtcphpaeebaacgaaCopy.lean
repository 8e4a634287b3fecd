/- A part of the proof: no statement of the seat is proved in this text. -/
import Derived.Test.YtcphpaeebaacgaaWay
set_option linter.unusedVariables false
set_option linter.unusedSimpArgs false
namespace Go.Ai
open Go
def small (l : List U) : Prop := ∀ x ∈ l, x.head.length ≤ 1000000 ∧ x.words.length ≤ 1000000
theorem AV.Weak.agg {cs ds : List AV} (hl : cs.length = ds.length) (h : ∀ (j : Nat) (c d : AV), cs[j]? = some c → ds[j]? = some d → c.Weak d) : (AV.agg cs).Weak (.agg ds) := by
  intro G v hv
  cases hv with
  | agg _ vs hl' hr =>
    refine .agg ds vs (hl ▸ hl') fun j d v h1 h2 => ?_
    have hj : j < cs.length := by rw [hl]; exact (List.getElem?_eq_some_iff.1 h1).1
    exact h j _ d (List.getElem?_eq_getElem hj) h1 G v (hr j _ v (List.getElem?_eq_getElem hj) h2)
theorem AV.Weak.tup {cs ds : List AV} (hl : cs.length = ds.length) (h : ∀ (j : Nat) (c d : AV), cs[j]? = some c → ds[j]? = some d → c.Weak d) : (AV.tup cs).Weak (.tup ds) := by
  intro G v hv
  cases hv with
  | tup _ vs hl' hr =>
    refine .tup ds vs (hl ▸ hl') fun j d v h1 h2 => ?_
    have hj : j < cs.length := by rw [hl]; exact (List.getElem?_eq_some_iff.1 h1).1
    exact h j _ d (List.getElem?_eq_getElem hj) h1 G v (hr j _ v (List.getElem?_eq_getElem hj) h2)
theorem ares_c {tt : TT} {env : Env} {H : AH} {a : Nat} {t : TypeId} {v : AV} (h1 : ares1 tt (.cell a t) env H v) : ares tt env H [.cell a t] v := h1
/-- A structure's cells, their right to grow forgotten. -/
theorem AV.Weak.cells (cs : List AV) : (AV.agg cs).Weak (.agg (cs.map AV.forget)) := .agg (by simp) fun j c d h1 h2 => by
  rw [List.getElem?_map, h1] at h2
  simp at h2; subst h2
  exact .forget c
mutual
theorem every_sub {x u : U} (h : x ∈ every u) : ∀ y ∈ every x, y ∈ every u := by
  cases u with
  | mk a b c d e kids =>
    intro y hy
    simp only [every, List.mem_cons] at h ⊢
    rcases h with rfl | h
    · simpa only [every, List.mem_cons] using hy
    · exact .inr (everyL_sub h y hy)
theorem everyL_sub {x : U} {l : List U} (h : x ∈ everyL l) : ∀ y ∈ every x, y ∈ everyL l := by
  cases l with
  | nil => cases h
  | cons k ks =>
    intro y hy
    simp only [everyL, List.mem_append] at h ⊢
    rcases h with h | h
    · exact .inl (every_sub h y hy)
    · exact .inr (everyL_sub h y hy)
end
end Go.Ai
namespace Go.Ai.Try
open Go Go.Ai Go.Proofs
variable {w0 : World}
theorem spec71 (l : List Wd) (hl : l.length ≤ 1000000) (H : AH) (Q : AV → AH → Prop) (h : Q (.slice (l.map eW)) H) : ACalls Try.prog w0 71 [.slice (l.map eW)] H Q := by
  rcases l with _ | ⟨w, ws⟩
  · refine ACalls.split0 ?_ fun a cap => ?_
    · refine enter71 (by simp) fun hwf hok R hR hR0 => ?_
      unfold x71
      simp only [go_sem, List.mem_singleton, forall_eq, List.not_mem_nil, false_imp_iff, implies_true, Int.reduceToNat, Int.reduceLT, decide_true, decide_false, Nat.reduceEqDiff, ↓reduceIte, Nat.reduceAdd, Int.reduceLE, Int.reduceNeg, Nat.reduceLeDiff, Nat.reduceLT, Int.reduceEq, Nat.reduceEqDiff, List.map_nil, List.length_nil, List.map_cons, List.length_cons]
      refine hR _ _ _ rfl (.forget (.refl hwf) rfl h)
    · refine enter71 (by simp) fun hwf hok R hR hR0 => ?_
      unfold x71
      simp only [go_sem, List.mem_singleton, forall_eq, List.not_mem_nil, false_imp_iff, implies_true, Int.reduceToNat, Int.reduceLT, decide_true, decide_false, Nat.reduceEqDiff, ↓reduceIte, Nat.reduceAdd, Int.reduceLE, Int.reduceNeg, Nat.reduceLeDiff, Nat.reduceLT, Int.reduceEq, Nat.reduceEqDiff, List.map_nil, List.length_nil, List.map_cons, List.length_cons, List.append_nil]
      refine ⟨by omega, by omega, ?_⟩
      refine hR _ _ _ rfl (.forget (.pushTok (.refl hwf) _) rfl h)
  · refine enter71 (by simp) fun hwf hok R hR hR0 => ?_
    simp only [List.length_cons] at hl
    unfold x71
    simp only [go_sem, List.mem_singleton, forall_eq, List.not_mem_nil, false_imp_iff, implies_true, Int.reduceToNat, Int.reduceLT, decide_true, decide_false, Nat.reduceEqDiff, ↓reduceIte, Nat.reduceAdd, Int.reduceLE, Int.reduceNeg, Nat.reduceLeDiff, Nat.reduceLT, Int.reduceEq, Nat.reduceEqDiff, List.map_nil, List.length_nil, List.map_cons, List.length_cons]
    refine ⟨by omega, fun z hz => elem_eW (w :: ws) z (by simpa only [List.map_cons] using hz), ⟨by simp only [List.length_map]; omega, by simp only [List.length_map]; omega⟩, ?_⟩
    refine hR _ _ _ rfl (.forget (.pushTok (.refl hwf) _) ?_ h)
    simp only [go_sem, List.mem_singleton, forall_eq, List.not_mem_nil, false_imp_iff, implies_true, Int.reduceToNat, Int.reduceLT, decide_true, decide_false, Nat.reduceEqDiff, ↓reduceIte, Nat.reduceAdd, Int.reduceLE, Int.reduceNeg, Nat.reduceLeDiff, Nat.reduceLT, Int.reduceEq, Nat.reduceEqDiff, List.map_nil, List.length_nil, List.map_cons, List.length_cons, AV.forget]
theorem spec67 (u : U) (hb : (every u).length ≤ 1000) (hs : small (every u)) (H : AH) (Q : AV → AH → Prop) (h : Q (eU u) H) : ACalls Try.prog w0 67 [eU u] H Q := by
  refine enter67 (by simp) fun hwf hok R hR hR0 => ?_
  have hkl := len_everyL u.kids
  rw [every_eq] at hb hs
  have hsu := hs u (List.mem_cons_self ..)
  simp only [List.length_cons] at hb
  have hb' := hb
  unfold x67
  simp only [go_sem, List.mem_singleton, forall_eq, List.not_mem_nil, false_imp_iff, implies_true, Int.reduceToNat, Int.reduceLT, decide_true, decide_false, Nat.reduceEqDiff, ↓reduceIte, Nat.reduceAdd, Int.reduceLE, Int.reduceNeg, Nat.reduceLeDiff, Nat.reduceLT, Int.reduceEq, Nat.reduceEqDiff, List.map_nil, List.length_nil, List.map_cons, List.length_cons, dr67_0]
  refine PCalls.of (r := .slice (u.head.map eW)) (fun H' => spec71 u.head hsu.1 _ _ ⟨rfl, rfl⟩) ?_
  simp only [go_sem, List.mem_singleton, forall_eq, List.not_mem_nil, false_imp_iff, implies_true, Int.reduceToNat, Int.reduceLT, decide_true, decide_false, Nat.reduceEqDiff, ↓reduceIte, Nat.reduceAdd, Int.reduceLE, Int.reduceNeg, Nat.reduceLeDiff, Nat.reduceLT, Int.reduceEq, Nat.reduceEqDiff, List.map_nil, List.length_nil, List.map_cons, List.length_cons]
  refine PCalls.of (r := .slice (u.words.map eW)) (fun H' => spec71 u.words hsu.2 _ _ ⟨rfl, rfl⟩) ?_
  simp only [go_sem, List.mem_singleton, forall_eq, List.not_mem_nil, false_imp_iff, implies_true, Int.reduceToNat, Int.reduceLT, decide_true, decide_false, Nat.reduceEqDiff, ↓reduceIte, Nat.reduceAdd, Int.reduceLE, Int.reduceNeg, Nat.reduceLeDiff, Nat.reduceLT, Int.reduceEq, Nat.reduceEqDiff, List.map_nil, List.length_nil, List.map_cons, List.length_cons]
  refine AX.own0 (k := 3) 27 8 (by simp only [go_sem, List.mem_singleton, forall_eq, List.not_mem_nil, false_imp_iff, implies_true, Int.reduceToNat, Int.reduceLT, decide_true, decide_false, Nat.reduceEqDiff, ↓reduceIte, Nat.reduceAdd, Int.reduceLE, Int.reduceNeg, Nat.reduceLeDiff, Nat.reduceLT, Int.reduceEq, Nat.reduceEqDiff, List.map_nil, List.length_nil, List.map_cons, List.length_cons]) ?_
  refine AX.iter (S := List U × List U) ttOk (fun a => [(1, .ptr H.n 0), (2, .ptr (H.n + 1) 0), (3, .own (a.1.map eU) H.m), (15, .slice (u.kids.map eU)), (16, .int .i64 (u.kids.map eU).length), (17, .int .i64 a.1.length)])
    (fun a => ((H.push (.cells u.cs 27)).push (.cells [.int .i64 0, .int .i64 0, .int .i64 0, .int .i64 0, .str ByteArray.empty, .nilS, .nilS, .nilS] 27)).pushTok ⟨(a.1.map eU).length, 27, 8⟩) (fun a => a.2.length)
    (fun a => a.1 ++ a.2 = u.kids) ([], u.kids) ?_ rfl rfl ?_
  · simp only [go_sem, List.mem_singleton, forall_eq, List.not_mem_nil, false_imp_iff, implies_true, Int.reduceToNat, Int.reduceLT, decide_true, decide_false, Nat.reduceEqDiff, ↓reduceIte, Nat.reduceAdd, Int.reduceLE, Int.reduceNeg, Nat.reduceLeDiff, Nat.reduceLT, Int.reduceEq, Nat.reduceEqDiff, List.map_nil, List.length_nil, List.map_cons, List.length_cons]
  · rintro ⟨pre, post⟩ h2 hk hwf' K R' hK hQ
    simp only at h2 hK ⊢
    unfold l67_0
    rcases post with _ | ⟨k, ks⟩
    · have hb := ge_of h2 eU
      simp only [go_sem, List.mem_singleton, forall_eq, List.not_mem_nil, false_imp_iff, implies_true, Int.reduceToNat, Int.reduceLT, decide_true, decide_false, Nat.reduceEqDiff, ↓reduceIte, Nat.reduceAdd, Int.reduceLE, Int.reduceNeg, Nat.reduceLeDiff, Nat.reduceLT, Int.reduceEq, Nat.reduceEqDiff, List.map_nil, List.length_nil, List.map_cons, List.length_cons, U.cs, hb]
      refine hQ _ _ _ ?_
      simp only [go_sem, List.mem_singleton, forall_eq, List.not_mem_nil, false_imp_iff, implies_true, Int.reduceToNat, Int.reduceLT, decide_true, decide_false, Nat.reduceEqDiff, ↓reduceIte, Nat.reduceAdd, Int.reduceLE, Int.reduceNeg, Nat.reduceLeDiff, Nat.reduceLT, Int.reduceEq, Nat.reduceEqDiff, List.map_nil, List.length_nil, List.map_cons, List.length_cons]
      rw [List.append_nil] at h2
      refine hR _ _ (.agg [.int .i64 u.id.act, .int .i64 u.id.item, .int .i64 u.id.n, .int .i64 u.kind, .str u.label, .slice (u.head.map eW), .slice (u.words.map eW), .own (pre.map eU) H.m])
        (ares_c (ares1_cell (id := H.n + 1) (off := 0) (cs := [.int .i64 u.id.act, .int .i64 u.id.item, .int .i64 u.id.n, .int .i64 u.kind, .str u.label, .slice (u.head.map eW), .slice (u.words.map eW), .own (pre.map eU) H.m]) (e := 27) tt_27 (by simp only [go_sem, List.mem_singleton, forall_eq, List.not_mem_nil, false_imp_iff, implies_true, Int.reduceToNat, Int.reduceLT, decide_true, decide_false, Nat.reduceEqDiff, ↓reduceIte, Nat.reduceAdd, Int.reduceLE, Int.reduceNeg, Nat.reduceLeDiff, Nat.reduceLT, Int.reduceEq, Nat.reduceEqDiff, List.map_nil, List.length_nil, List.map_cons, List.length_cons]) (by simp only [go_sem, List.mem_singleton, forall_eq, List.not_mem_nil, false_imp_iff, implies_true, Int.reduceToNat, Int.reduceLT, decide_true, decide_false, Nat.reduceEqDiff, ↓reduceIte, Nat.reduceAdd, Int.reduceLE, Int.reduceNeg, Nat.reduceLeDiff, Nat.reduceLT, Int.reduceEq, Nat.reduceEqDiff, List.map_nil, List.length_nil, List.map_cons, List.length_cons]) (by decide) (by simp only [go_sem, List.mem_singleton, forall_eq, List.not_mem_nil, false_imp_iff, implies_true, Int.reduceToNat, Int.reduceLT, decide_true, decide_false, Nat.reduceEqDiff, ↓reduceIte, Nat.reduceAdd, Int.reduceLE, Int.reduceNeg, Nat.reduceLeDiff, Nat.reduceLT, Int.reduceEq, Nat.reduceEqDiff, List.map_nil, List.length_nil, List.map_cons, List.length_cons]) rfl))
        (.inl ⟨eU u, H, ?_, fit_eU _ _ u, .pushTok (.push (.push (.refl hwf) _) _) _, rfl, rfl, h⟩)
      rw [eU_eq, U.cs, ← h2]
      exact AV.Weak.cells _
    · have hb'' := lt_of h2 eU
      have ha := at_of h2 eU
      have hl := len_of h2
      have hsum : everyL u.kids = everyL pre ++ (every k ++ everyL ks) := by rw [← h2, everyL_append]; rfl
      have hbk : (every k).length ≤ 1000 := by rw [hsum, List.length_append, List.length_append] at hb'; omega
      have hsk : small (every k) := fun x hx => hs x (List.mem_cons_of_mem _ (by rw [hsum]; simp [hx]))
      have hw : IntKind.i64.wrap ((pre.length : Int) + 1) = pre.length + 1 := wrap_i64.2 (by omega)
      simp only [go_sem, List.mem_singleton, forall_eq, List.not_mem_nil, false_imp_iff, implies_true, Int.reduceToNat, Int.reduceLT, decide_true, decide_false, Nat.reduceEqDiff, ↓reduceIte, Nat.reduceAdd, Int.reduceLE, Int.reduceNeg, Nat.reduceLeDiff, Nat.reduceLT, Int.reduceEq, Nat.reduceEqDiff, List.map_nil, List.length_nil, List.map_cons, List.length_cons, U.cs, hb'', ha, hw]
      refine ⟨by omega, ?_⟩
      refine spec67 k hbk hsk _ _ ?_
      simp only [go_sem, List.mem_singleton, forall_eq, List.not_mem_nil, false_imp_iff, implies_true, Int.reduceToNat, Int.reduceLT, decide_true, decide_false, Nat.reduceEqDiff, ↓reduceIte, Nat.reduceAdd, Int.reduceLE, Int.reduceNeg, Nat.reduceLeDiff, Nat.reduceLT, Int.reduceEq, Nat.reduceEqDiff, List.map_nil, List.length_nil, List.map_cons, List.length_cons, hw]
      refine ⟨by omega, ⟨by simp only [List.length_map]; omega, by simp only [List.length_map]; omega⟩, ?_⟩
      refine hK _ _ (pre ++ [k], ks) (by simp) (snoc_of h2) ?_ (Nat.le_refl _) (Nat.le_refl _) ?_
      · rw [List.map_append, List.map_singleton]
        refine .pushTok (.push (H := ((H.push (.cells u.cs 27)).push (.cells [.int .i64 0, .int .i64 0, .int .i64 0, .int .i64 0, .str ByteArray.empty, .nilS, .nilS, .nilS] 27)).pushTok ⟨(pre.map eU ++ [eU k]).length, 27, 8⟩) (.refl (WF_pushTok (WF_push_cells (WF_push_cells hwf _ _ ?_) _ _ ?_) _)) _) _
        · simp only [go_sem, List.mem_singleton, forall_eq, List.not_mem_nil, false_imp_iff, implies_true, Int.reduceToNat, Int.reduceLT, decide_true, decide_false, Nat.reduceEqDiff, ↓reduceIte, Nat.reduceAdd, Int.reduceLE, Int.reduceNeg, Nat.reduceLeDiff, Nat.reduceLT, Int.reduceEq, Nat.reduceEqDiff, List.map_nil, List.length_nil, List.map_cons, List.length_cons, U.cs]
        · simp only [go_sem, List.mem_singleton, forall_eq, List.not_mem_nil, false_imp_iff, implies_true, Int.reduceToNat, Int.reduceLT, decide_true, decide_false, Nat.reduceEqDiff, ↓reduceIte, Nat.reduceAdd, Int.reduceLE, Int.reduceNeg, Nat.reduceLeDiff, Nat.reduceLT, Int.reduceEq, Nat.reduceEqDiff, List.map_nil, List.length_nil, List.map_cons, List.length_cons]
      · simp only [go_sem, List.mem_singleton, forall_eq, List.not_mem_nil, false_imp_iff, implies_true, Int.reduceToNat, Int.reduceLT, decide_true, decide_false, Nat.reduceEqDiff, ↓reduceIte, Nat.reduceAdd, Int.reduceLE, Int.reduceNeg, Nat.reduceLeDiff, Nat.reduceLT, Int.reduceEq, Nat.reduceEqDiff, List.map_nil, List.length_nil, List.map_cons, List.length_cons, len_snoc, List.map_append]
        simp; omega
termination_by SizeOf.sizeOf u
decreasing_by exact kid_lt (mem_of h2)

def zeroU : U := ⟨zeroId, 0, ByteArray.empty, [], [], []⟩
def findM (u : U) (id : Id) : U × Bool := match (wayM id u)[(wayM id u).length - 1]? with
  | some x => (x, true)
  | none => (zeroU, false)
theorem spec53 (u : U) (id : Id) (hb : (every u).length ≤ 1000) (hs : small (every u)) (H : AH) (Q : AV → AH → Prop) (h : Q (.tup [eU (findM u id).1, .bool (findM u id).2]) H) : ACalls Try.prog w0 53 [eU u, eId id] H Q := by
  refine enter53 (by simp) fun hwf hok R hR hR0 => ?_
  have hwl := wayM_len id u
  unfold x53
  simp only [go_sem, List.mem_singleton, forall_eq, List.not_mem_nil, false_imp_iff, implies_true, Int.reduceToNat, Int.reduceLT, decide_true, decide_false, Nat.reduceEqDiff, ↓reduceIte, Nat.reduceAdd, Int.reduceLE, Int.reduceNeg, Nat.reduceLeDiff, Nat.reduceLT, Int.reduceEq, Nat.reduceEqDiff, List.map_nil, List.length_nil, List.map_cons, List.length_cons]
  refine spec60 u id hb _ _ ?_
  rcases hwk : wayM id u with _ | ⟨w1, ws⟩
  · simp only [go_sem, List.mem_singleton, forall_eq, List.not_mem_nil, false_imp_iff, implies_true, Int.reduceToNat, Int.reduceLT, decide_true, decide_false, Nat.reduceEqDiff, ↓reduceIte, Nat.reduceAdd, Int.reduceLE, Int.reduceNeg, Nat.reduceLeDiff, Nat.reduceLT, Int.reduceEq, Nat.reduceEqDiff, List.map_nil, List.length_nil, List.map_cons, List.length_cons, wayV]
    have hf : findM u id = (zeroU, false) := by simp [findM, hwk]
    rw [hf] at h
    refine hR _ _ _ (ares_ct (ares1_cell (v := .agg [.int .i64 0, .int .i64 0, .int .i64 0, .int .i64 0, .str ByteArray.empty, .nilS, .nilS, .nilS]) (id := H.n + 1 + 1) (off := 0) (cs := [.int .i64 0, .int .i64 0, .int .i64 0, .int .i64 0, .str ByteArray.empty, .nilS, .nilS, .nilS]) (e := 27) tt_27 (by simp only [go_sem, List.mem_singleton, forall_eq, List.not_mem_nil, false_imp_iff, implies_true, Int.reduceToNat, Int.reduceLT, decide_true, decide_false, Nat.reduceEqDiff, ↓reduceIte, Nat.reduceAdd, Int.reduceLE, Int.reduceNeg, Nat.reduceLeDiff, Nat.reduceLT, Int.reduceEq, Nat.reduceEqDiff, List.map_nil, List.length_nil, List.map_cons, List.length_cons]) (by simp only [go_sem, List.mem_singleton, forall_eq, List.not_mem_nil, false_imp_iff, implies_true, Int.reduceToNat, Int.reduceLT, decide_true, decide_false, Nat.reduceEqDiff, ↓reduceIte, Nat.reduceAdd, Int.reduceLE, Int.reduceNeg, Nat.reduceLeDiff, Nat.reduceLT, Int.reduceEq, Nat.reduceEqDiff, List.map_nil, List.length_nil, List.map_cons, List.length_cons]) (by decide) (by simp only [go_sem, List.mem_singleton, forall_eq, List.not_mem_nil, false_imp_iff, implies_true, Int.reduceToNat, Int.reduceLT, decide_true, decide_false, Nat.reduceEqDiff, ↓reduceIte, Nat.reduceAdd, Int.reduceLE, Int.reduceNeg, Nat.reduceLeDiff, Nat.reduceLT, Int.reduceEq, Nat.reduceEqDiff, List.map_nil, List.length_nil, List.map_cons, List.length_cons]) rfl) (w := .bool false) (by simp only [go_sem, List.mem_singleton, forall_eq, List.not_mem_nil, false_imp_iff, implies_true, Int.reduceToNat, Int.reduceLT, decide_true, decide_false, Nat.reduceEqDiff, ↓reduceIte, Nat.reduceAdd, Int.reduceLE, Int.reduceNeg, Nat.reduceLeDiff, Nat.reduceLT, Int.reduceEq, Nat.reduceEqDiff, List.map_nil, List.length_nil, List.map_cons, List.length_cons]))
      (.inl ⟨_, H, ?_, ?_, .push (.push (.push (.refl hwf) _) _) _, rfl, rfl, h⟩)
    · refine .tup rfl fun j c d h1 h2 => ?_
      match j with
      | 0 => simp at h1 h2; subst h1; subst h2; rw [eU_eq]; exact AV.Weak.cells _
      | 1 => simp at h1 h2; subst h1; subst h2; exact .refl _
      | j + 2 => simp at h1
    · simp only [go_sem, List.mem_singleton, forall_eq, List.not_mem_nil, false_imp_iff, implies_true, Int.reduceToNat, Int.reduceLT, decide_true, decide_false, Nat.reduceEqDiff, ↓reduceIte, Nat.reduceAdd, Int.reduceLE, Int.reduceNeg, Nat.reduceLeDiff, Nat.reduceLT, Int.reduceEq, Nat.reduceEqDiff, List.map_nil, List.length_nil, List.map_cons, List.length_cons, AV.fit, AV.fitL, Bool.and_true]
  · have hlt : ws.length < (w1 :: ws).length := by simp
    obtain ⟨p, hp⟩ : ∃ p, (w1 :: ws)[ws.length]? = some p := ⟨_, List.getElem?_eq_getElem hlt⟩
    have hpm : p ∈ every u := wayM_mem id u p (by rw [hwk]; exact List.mem_of_getElem? hp)
    have hpl := every_le u p hpm
    rw [hwk] at hwl
    simp only [List.length_cons] at hwl
    have e0 : decide ((((ws.map eU).length + 1 : Nat) : Int) = 0) = false := by simp; omega
    have e1 : IntKind.i64.wrap ((((ws.map eU).length + 1 : Nat) : Int) - 1) = ws.length := by rw [List.length_map, wrap_i64.2 (by omega)]; omega
    have e2 : (eU w1 :: ws.map eU)[((ws.length : Int)).toNat]? = some (eU p) := by
      rw [← List.map_cons, List.getElem?_map, show ((ws.length : Int)).toNat = ws.length from Int.toNat_natCast _, hp]; rfl
    simp only [go_sem, List.mem_singleton, forall_eq, List.not_mem_nil, false_imp_iff, implies_true, Int.reduceToNat, Int.reduceLT, decide_true, decide_false, Nat.reduceEqDiff, ↓reduceIte, Nat.reduceAdd, Int.reduceLE, Int.reduceNeg, Nat.reduceLeDiff, Nat.reduceLT, Int.reduceEq, Nat.reduceEqDiff, List.map_nil, List.length_nil, List.map_cons, List.length_cons, wayV, e0, e1, e2]
    refine ⟨by omega, ?_⟩
    refine spec67 p (by omega) (fun x hx => hs x (every_sub hpm x hx)) _ _ ?_
    simp only [go_sem, List.mem_singleton, forall_eq, List.not_mem_nil, false_imp_iff, implies_true, Int.reduceToNat, Int.reduceLT, decide_true, decide_false, Nat.reduceEqDiff, ↓reduceIte, Nat.reduceAdd, Int.reduceLE, Int.reduceNeg, Nat.reduceLeDiff, Nat.reduceLT, Int.reduceEq, Nat.reduceEqDiff, List.map_nil, List.length_nil, List.map_cons, List.length_cons]
    have hf : findM u id = (p, true) := by simp only [findM, hwk, List.length_cons, Nat.add_sub_cancel, hp]
    rw [hf] at h
    refine hR _ _ _ (ares_ct (ares1_cell (v := eU p) (id := H.n + 1 + 1) (off := 0) (cs := p.cs) (e := 27) tt_27 (by simp only [go_sem, List.mem_singleton, forall_eq, List.not_mem_nil, false_imp_iff, implies_true, Int.reduceToNat, Int.reduceLT, decide_true, decide_false, Nat.reduceEqDiff, ↓reduceIte, Nat.reduceAdd, Int.reduceLE, Int.reduceNeg, Nat.reduceLeDiff, Nat.reduceLT, Int.reduceEq, Nat.reduceEqDiff, List.map_nil, List.length_nil, List.map_cons, List.length_cons]) (by simp only [go_sem, List.mem_singleton, forall_eq, List.not_mem_nil, false_imp_iff, implies_true, Int.reduceToNat, Int.reduceLT, decide_true, decide_false, Nat.reduceEqDiff, ↓reduceIte, Nat.reduceAdd, Int.reduceLE, Int.reduceNeg, Nat.reduceLeDiff, Nat.reduceLT, Int.reduceEq, Nat.reduceEqDiff, List.map_nil, List.length_nil, List.map_cons, List.length_cons, U.cs]) (by decide) (by simp only [go_sem, List.mem_singleton, forall_eq, List.not_mem_nil, false_imp_iff, implies_true, Int.reduceToNat, Int.reduceLT, decide_true, decide_false, Nat.reduceEqDiff, ↓reduceIte, Nat.reduceAdd, Int.reduceLE, Int.reduceNeg, Nat.reduceLeDiff, Nat.reduceLT, Int.reduceEq, Nat.reduceEqDiff, List.map_nil, List.length_nil, List.map_cons, List.length_cons, U.cs]) (by rw [eU_eq]; rfl)) (w := .bool true) (by simp only [go_sem, List.mem_singleton, forall_eq, List.not_mem_nil, false_imp_iff, implies_true, Int.reduceToNat, Int.reduceLT, decide_true, decide_false, Nat.reduceEqDiff, ↓reduceIte, Nat.reduceAdd, Int.reduceLE, Int.reduceNeg, Nat.reduceLeDiff, Nat.reduceLT, Int.reduceEq, Nat.reduceEqDiff, List.map_nil, List.length_nil, List.map_cons, List.length_cons]))
      (.same (.push (.push (.push (.refl hwf) _) _) _) ?_ h)
    simp only [go_sem, List.mem_singleton, forall_eq, List.not_mem_nil, false_imp_iff, implies_true, Int.reduceToNat, Int.reduceLT, decide_true, decide_false, Nat.reduceEqDiff, ↓reduceIte, Nat.reduceAdd, Int.reduceLE, Int.reduceNeg, Nat.reduceLeDiff, Nat.reduceLT, Int.reduceEq, Nat.reduceEqDiff, List.map_nil, List.length_nil, List.map_cons, List.length_cons, AV.fit, AV.fitL, Bool.and_true]
end Go.Ai.Try
