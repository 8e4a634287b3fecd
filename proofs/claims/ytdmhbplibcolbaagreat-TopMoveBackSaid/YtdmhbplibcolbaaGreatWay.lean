/- A part of the proof: no statement of the seat is proved in this text. -/
import Derived.Test.YtdmhbplibcolbaaGreatUn
set_option linter.unusedVariables false
set_option linter.unusedSimpArgs false
namespace Go.Ai
open Go
mutual
def wayM (id : Id) : U → List U
  | ⟨a, b, c, d, e, kids⟩ => if a = id then [⟨a, b, c, d, e, kids⟩] else match wayL id kids with
    | [] => []
    | w :: ws => ⟨a, b, c, d, e, kids⟩ :: w :: ws
def wayL (id : Id) : List U → List U
  | [] => []
  | k :: ks => match wayM id k with
    | [] => wayL id ks
    | w :: ws => w :: ws
end
theorem wayM_eq (id : Id) (u : U) : wayM id u = if u.id = id then [u] else match wayL id u.kids with
    | [] => []
    | w :: ws => u :: w :: ws := by cases u; simp only [wayM]
def wayV (l : List U) : AV := match l with
  | [] => .nilS
  | w :: ws => .slice ((w :: ws).map eU)
mutual
theorem wayM_len (id : Id) (u : U) : (wayM id u).length ≤ (every u).length := by
  cases u with
  | mk a b c d e kids =>
    have := wayL_len id kids
    simp only [wayM, every, List.length_cons]
    split
    · simp
    · split
      · simp
      · rename_i h; rw [h] at this; simp only [List.length_cons] at this ⊢; omega
theorem wayL_len (id : Id) (l : List U) : (wayL id l).length ≤ (everyL l).length := by
  cases l with
  | nil => simp [wayL]
  | cons k ks =>
    have h1 := wayM_len id k
    have h2 := wayL_len id ks
    simp only [wayL, everyL, List.length_append]
    split
    · omega
    · rename_i h; rw [h] at h1; omega
end
theorem Id.eq_iff (i j : Id) : i = j ↔ i.act = j.act ∧ i.item = j.item ∧ i.n = j.n := by cases i; cases j; simp
end Go.Ai
namespace Go.Ai.Tryz
open Go Go.Ai Go.Proofs
variable {w0 : World}
theorem id_eq (a b : Id) : decide (a = b) = (decide (a.act = b.act) && (decide (a.item = b.item) && decide (a.n = b.n))) := by simp [Id.eq_iff, Bool.decide_and]
@[go_sem high] theorem abin_idEq (a b : Id) : abin tt .eql 23 (eId a) (eId b) = some (.bool (decide (a = b))) := by
  rw [id_eq]
  simp [abin, eId, Id.cs, tt, ty23, anil, aeqs, aeq1, AV.cells, AV.kc, AV.isAgg]
@[go_sem high] theorem abin_idNe (a b : Id) : abin tt .neq 23 (eId a) (eId b) = some (.bool (!decide (a = b))) := by
  rw [id_eq]
  simp [abin, eId, Id.cs, tt, ty23, anil, aeqs, aeq1, AV.cells, AV.kc, AV.isAgg]
theorem spec91 (u : U) (id : Id) (hb : (every u).length ≤ 1000) (H : AH) (Q : AV → AH → Prop) (h : Q (wayV (wayM id u)) H) : ACalls Tryz.prog w0 91 [eU u, eId id] H Q := by
  refine enter91 (by simp) fun hwf hok R hR hR0 => ?_
  rw [wayM_eq] at h
  have hkl := len_everyL u.kids
  rw [every_eq, List.length_cons] at hb
  have hb' := hb
  unfold x91
  simp only [go_sem]
  simp only [decide_eq_true_eq, decide_eq_false_iff_not]
  refine ⟨fun h1 => ⟨by omega, ?_⟩, fun h1 => ?_⟩
  · rw [if_pos h1] at h
    refine hR _ _ _ rfl (.forget (.pushTok (.push (.push (.refl hwf) _) _) _) ?_ ?_)
    · simp only [go_sem, AV.forget]
    · simp only [go_sem, AV.forget]; exact h
  · rw [if_neg h1] at h
    refine AX.iter (S := List U × List U) ttOk (fun a => [(2, .ptr H.n 0), (3, .ptr (H.n + 1) 0), (15, .slice (u.kids.map eU)), (16, .int .i64 (u.kids.map eU).length), (17, .int .i64 a.1.length)]) (fun a => (H.push (.cells u.cs 27)).push (.cells id.cs 23)) (fun a => a.2.length)
      (fun a => a.1 ++ a.2 = u.kids ∧ wayL id a.2 = wayL id u.kids) ([], u.kids) ?_ rfl ⟨rfl, rfl⟩ ?_
    · simp only [go_sem]
    · rintro ⟨pre, post⟩ ⟨h2, h3⟩ hk hwf' K R' hK hQ
      simp only at h2 h3 hK ⊢
      unfold l91_0
      rcases post with _ | ⟨k, ks⟩
      · have hb := ge_of h2 eU
        simp only [go_sem, hb]
        refine hQ _ _ _ ?_
        simp only [go_sem]
        rw [← h3] at h
        refine hR _ _ _ rfl (.same (.push (.push (.refl hwf) _) _) ?_ ?_)
        · simp only [go_sem]
        · simp only [go_sem]; exact h
      · have hb := lt_of h2 eU
        have ha := at_of h2 eU
        have hl := len_of h2
        have hsum : everyL u.kids = everyL pre ++ (every k ++ everyL ks) := by rw [← h2, everyL_append]; rfl
        have hbk : (every k).length ≤ 1000 := by rw [hsum, List.length_append, List.length_append] at hb'; omega
        have hw : IntKind.i64.wrap ((pre.length : Int) + 1) = pre.length + 1 := wrap_i64.2 (by omega)
        simp only [wayL] at h3
        simp only [go_sem, hb, ha, hw, U.cs, Id.cs]
        refine ⟨by omega, ?_⟩
        refine spec91 k id hbk _ _ ?_
        have hwl := wayM_len id k
        rcases hwk : wayM id k with _ | ⟨w, ws⟩
        · rw [hwk] at h3
          simp only [go_sem, wayV, hw]
          refine hK _ _ (pre ++ [k], ks) (by simp) ⟨snoc_of h2, h3⟩ ?_ (Nat.le_refl _) (Nat.le_refl _) ?_
          · refine .push (.refl (WF_push_cells (WF_push_cells hwf _ _ ?_) _ _ ?_)) _
            · simp only [go_sem, U.cs]
            · simp only [go_sem, Id.cs]
          · simp only [go_sem, len_snoc]
            simp; omega
        · rw [hwk] at h3 hwl
          simp only [List.length_cons] at hwl
          simp only at h3
          rw [← h3] at h
          simp only [go_sem, wayV, hw, Bool.not_false]
          refine ⟨by omega, fun z hz => elem_eU (w :: ws) z (by simpa only [List.map_cons] using hz), ⟨by simp only [List.length_map]; omega, by simp only [List.length_map]; omega⟩, ?_⟩
          refine hQ _ _ _ ?_
          simp only [go_sem]
          refine hR _ _ _ rfl (.forget (.pushTok (.push (.push (.push (.refl hwf) _) _) _) _) ?_ ?_)
          · simp only [go_sem, AV.forget]
          · simp only [go_sem, AV.forget]; exact h
termination_by SizeOf.sizeOf u
decreasing_by exact kid_lt (mem_of h2)
theorem spec93 (k : U) (id : Id) (hb : (every k).length ≤ 1000) (ii : Nat) (H : AH) (hi : H.obj ii = some (.cells id.cs 23)) (Q : AV → AH → Prop) (h : Q (.bool (!(wayM id k).isEmpty)) H) : ACalls Tryz.prog w0 93 [eU k, .ptr ii 0] H Q := by
  refine enter93 (by simp) fun hwf hok R hR hR0 => ?_
  have hlt : ii < H.n := hwf.lt hi
  have n0 : ¬ ii = H.n := by omega
  unfold x93
  simp only [go_sem, n0, hi, Id.cs]
  refine spec91 k id hb _ _ ?_
  rcases hwk : wayM id k with _ | ⟨w, ws⟩
  · rw [hwk] at h
    simp only [go_sem, wayV]
    refine hR _ _ _ rfl (.same (.push (.refl hwf) _) rfl h)
  · rw [hwk] at h
    simp only [go_sem, wayV]
    refine hR _ _ _ rfl (.same (.push (.refl hwf) _) rfl h)
end Go.Ai.Tryz

set_option linter.unusedVariables false
set_option linter.unusedSimpArgs false
namespace Go.Ai
open Go
def idxW (id : Id) : List U → Nat → Int
  | [], _ => -1
  | k :: ks, n => if (wayM id k).isEmpty then idxW id ks (n + 1) else n
def parentM (u : U) (id : Id) : Id × Int × Bool := if (wayM id u).length < 2 then (zeroId, -1, false) else match (wayM id u)[(wayM id u).length - 2]? with
  | some p => (p.id, idxW id p.kids 0, true)
  | none => (zeroId, -1, false)
mutual
theorem wayM_mem (id : Id) (u : U) : ∀ x ∈ wayM id u, x ∈ every u := by
  cases u with
  | mk a b c d e kids =>
    intro x hx
    have := wayL_mem id kids
    simp only [wayM] at hx
    simp only [every, List.mem_cons]
    split at hx
    · simp at hx; exact .inl hx
    · split at hx
      · cases hx
      · rename_i h
        rw [h] at this
        rcases List.mem_cons.1 hx with rfl | hx
        · exact .inl rfl
        · exact .inr (this x hx)
theorem wayL_mem (id : Id) (l : List U) : ∀ x ∈ wayL id l, x ∈ everyL l := by
  cases l with
  | nil => intro x hx; cases hx
  | cons k ks =>
    intro x hx
    have h1 := wayM_mem id k
    have h2 := wayL_mem id ks
    simp only [wayL] at hx
    simp only [everyL, List.mem_append]
    split at hx
    · exact .inr (h2 x hx)
    · rename_i h; rw [h] at h1; exact .inl (h1 x hx)
end
theorem kid_le {p k : U} (h : k ∈ p.kids) : (every k).length ≤ (every p).length := by
  rw [every_eq p, List.length_cons]
  obtain ⟨a, b, hab⟩ := List.append_of_mem h
  rw [hab, everyL_append, List.length_append]
  simp only [everyL, List.length_append]
  omega
theorem ares_ctt {tt : TT} {env : Env} {H : AH} {a b c : Nat} {t : TypeId} {v w x : AV} (h1 : ares1 tt (.cell a t) env H v) (h2 : look b env = w) (h3 : look c env = x) : ares tt env H [.cell a t, .tmp b, .tmp c] (.tup [v, w, x]) :=
  ⟨_, ⟨_, _, h1, ⟨_, _, h2, ⟨_, _, h3, rfl, rfl⟩, rfl⟩, rfl⟩, rfl⟩
end Go.Ai
namespace Go.Ai.Tryz
open Go Go.Ai Go.Proofs
variable {w0 : World}
theorem spec92 (l : List U) (id : Id) (hb : ∀ k ∈ l, (every k).length ≤ 1000) (hl : l.length ≤ 1000000) (ii : Nat) (H : AH) (hi : H.obj ii = some (.cells id.cs 23)) (Q : AV → AH → Prop) (h : Q (.int .i64 (idxW id l 0)) H) : ACalls Tryz.prog w0 92 [.slice (l.map eU), .fn 93 [.ptr ii 0]] H Q := by
  refine enter92 (by simp) fun hwf hok R hR hR0 => ?_
  have hlt : ii < H.n := hwf.lt hi
  unfold x92
  simp only [go_sem]
  refine AX.iter0 (S := List U × List U) ttOk (fun a => [(0, .slice (l.map eU)), (1, .fn 93 [.ptr ii 0]), (7, .int .i64 (l.map eU).length), (8, .int .i64 a.1.length)]) (fun a => a.2.length)
    (fun a => a.1 ++ a.2 = l ∧ idxW id a.2 a.1.length = idxW id l 0) ([], l) ?_ ⟨rfl, rfl⟩ ?_
  · simp only [go_sem]
  · rintro ⟨pre, post⟩ ⟨h2, h3⟩ hk hwf' K R' hK hQ
    simp only at h2 h3 hK ⊢
    unfold l92_0
    rcases post with _ | ⟨k, ks⟩
    · have hb := ge_of h2 eU
      simp only [go_sem, hb]
      refine hQ _ _ _ ?_
      simp only [go_sem]
      rw [← h3] at h
      exact hR _ _ _ rfl (.same (.refl hwf) rfl h)
    · have hb' := lt_of h2 eU
      have ha := at_of h2 eU
      have hll := len_of h2
      have hw : IntKind.i64.wrap ((pre.length : Int) + 1) = pre.length + 1 := wrap_i64.2 (by omega)
      simp only [go_sem, hb', ha, hw]
      refine ⟨by omega, ?_⟩
      refine spec93 k id (hb k (mem_of h2)) ii H hi _ ?_
      simp only [idxW] at h3
      by_cases he : (wayM id k).isEmpty = true
      · rw [if_pos he] at h3
        simp only [go_sem, he, hw, Bool.not_true]
        refine hK _ _ (pre ++ [k], ks) (by simp) ⟨snoc_of h2, by rw [← h3]; simp⟩ (.refl hwf') ?_
        simp only [go_sem, len_snoc]
        simp; omega
      · rw [if_neg he] at h3
        have he' : (wayM id k).isEmpty = false := by simpa using he
        simp only [go_sem, he', hw, Bool.not_false]
        refine hQ _ _ _ ?_
        simp only [go_sem]
        rw [← h3] at h
        exact hR _ _ _ rfl (.same (.refl hwf) rfl h)
theorem spec68 (u : U) (id : Id) (hb : (every u).length ≤ 1000) (H : AH) (Q : AV → AH → Prop) (h : Q (.tup [eId (parentM u id).1, .int .i64 (parentM u id).2.1, .bool (parentM u id).2.2]) H) : ACalls Tryz.prog w0 68 [eU u, eId id] H Q := by
  refine enter68 (by simp) fun hwf hok R hR hR0 => ?_
  have hwl := wayM_len id u
  unfold x68
  simp only [go_sem]
  refine spec91 u id hb _ _ ?_
  have fin : ∀ (i : Id) (e : Int) (b : Bool) env' H', parentM u id = (i, e, b) → look 4 env' = .ptr (H.n + 1 + 1) 0 → look 5 env' = .int .i64 e → look 6 env' = .bool b → H.Sub H' → H'.obj (H.n + 1 + 1) = some (.cells [.int .i64 i.act, .int .i64 i.item, .int .i64 i.n] 23) → R .ret env' H' := fun i e b env' H' h1 h2 h3 h4 h5 h6 => by
    rw [h1] at h
    exact hR _ _ _ (ares_ctt (ares1_cell (v := eId i) (cs := [.int .i64 i.act, .int .i64 i.item, .int .i64 i.n]) (e := 23) tt_23 h2 h6 (by decide) (by simp only [go_sem]) rfl) h3 h4) (.same h5 rfl h)
  rcases hwk : wayM id u with _ | ⟨w1, _ | ⟨w2, ws⟩⟩
  · simp only [go_sem, wayV]
    exact fin zeroId (-1) false _ _ (by simp [parentM, hwk]) (by simp only [go_sem]) (by simp only [go_sem]) (by simp only [go_sem]) (.push (.push (.push (.refl hwf) _) _) _) (by simp only [go_sem])
  · simp only [go_sem, wayV]
    exact fin zeroId (-1) false _ _ (by simp [parentM, hwk]) (by simp only [go_sem]) (by simp only [go_sem]) (by simp only [go_sem]) (.push (.push (.push (.refl hwf) _) _) _) (by simp only [go_sem])
  · have hlt : ws.length < (w1 :: w2 :: ws).length := by simp; omega
    obtain ⟨p, hp⟩ : ∃ p, (w1 :: w2 :: ws)[ws.length]? = some p := ⟨_, List.getElem?_eq_getElem hlt⟩
    have hpm : p ∈ every u := wayM_mem id u p (by rw [hwk]; exact List.mem_of_getElem? hp)
    have hpl := every_le u p hpm
    rw [hwk] at hwl
    simp only [List.length_cons] at hwl
    have e0 : decide ((((ws.map eU).length + 1 + 1 : Nat) : Int) < 2) = false := by simp; omega
    have e1 : IntKind.i64.wrap ((((ws.map eU).length + 1 + 1 : Nat) : Int) - 2) = ws.length := by rw [List.length_map, wrap_i64.2 (by omega)]; omega
    have e2 : (eU w1 :: eU w2 :: ws.map eU)[((ws.length : Int)).toNat]? = some (eU p) := by
      rw [← List.map_cons, ← List.map_cons, List.getElem?_map, show ((ws.length : Int)).toNat = ws.length from Int.toNat_natCast _, hp]; rfl
    simp only [go_sem, wayV, e0, e1, e2]
    refine ⟨by omega, ?_⟩
    have hkl := len_everyL p.kids
    rw [every_eq p, List.length_cons] at hpl
    refine spec92 p.kids id (fun k hk => Nat.le_trans (kid_le hk) (by rw [every_eq, List.length_cons]; omega)) (by omega) (H.n + 1) _ (by simp only [go_sem, Id.cs]) _ ?_
    simp only [go_sem]
    have hpm : parentM u id = (p.id, idxW id p.kids 0, true) := by simp [parentM, hwk, hp]
    exact fin _ _ true _ _ hpm (by simp only [go_sem]) (by simp only [go_sem]) (by simp only [go_sem]) (.push (.push (.push (.push (.refl hwf) _) _) _) _) (by simp only [go_sem])
end Go.Ai.Tryz

set_option linter.unusedVariables false
set_option linter.unusedSimpArgs false
namespace Go.Ai
open Go
def small (l : List U) : Prop := ∀ x ∈ l, x.head.length ≤ 1000000 ∧ x.words.length ≤ 1000000
theorem AV.Weak.agg {cs ds : List AV} (hl : cs.length = ds.length) (h : ∀ (j : Nat) (c d : AV), cs[j]? = some c → ds[j]? = some d → c.Weak d) : (AV.agg cs).Weak (.agg ds) := by
  intro G v hv
  cases hv with
  | agg _ vs hl' hr =>
    refine .agg ds vs (hl ▸ hl') fun j d v h1 h2 => ?_
    have hj : j < cs.length := by rw [hl]; exact (List.getElem?_eq_some_iff.1 h1).1
    exact h j _ d (List.getElem?_eq_getElem hj) h1 G v (hr j _ v (List.getElem?_eq_getElem hj) h2)
theorem AV.Weak.tup {cs ds : List AV} (hl : cs.length = ds.length) (h : ∀ (j : Nat) (c d : AV), cs[j]? = some c → ds[j]? = some d → c.Weak d) : (AV.tup cs).Weak (.tup ds) := by
  intro G v hv
  cases hv with
  | tup _ vs hl' hr =>
    refine .tup ds vs (hl ▸ hl') fun j d v h1 h2 => ?_
    have hj : j < cs.length := by rw [hl]; exact (List.getElem?_eq_some_iff.1 h1).1
    exact h j _ d (List.getElem?_eq_getElem hj) h1 G v (hr j _ v (List.getElem?_eq_getElem hj) h2)
theorem ares_c {tt : TT} {env : Env} {H : AH} {a : Nat} {t : TypeId} {v : AV} (h1 : ares1 tt (.cell a t) env H v) : ares tt env H [.cell a t] v := h1
theorem AV.Weak.cells (cs : List AV) : (AV.agg cs).Weak (.agg (cs.map AV.forget)) := .agg (by simp) fun j c d h1 h2 => by
  rw [List.getElem?_map, h1] at h2
  simp at h2; subst h2
  exact .forget c
mutual
theorem every_sub {x u : U} (h : x ∈ every u) : ∀ y ∈ every x, y ∈ every u := by
  cases u with
  | mk a b c d e kids =>
    intro y hy
    simp only [every, List.mem_cons] at h ⊢
    rcases h with rfl | h
    · simpa only [every, List.mem_cons] using hy
    · exact .inr (everyL_sub h y hy)
theorem everyL_sub {x : U} {l : List U} (h : x ∈ everyL l) : ∀ y ∈ every x, y ∈ everyL l := by
  cases l with
  | nil => cases h
  | cons k ks =>
    intro y hy
    simp only [everyL, List.mem_append] at h ⊢
    rcases h with h | h
    · exact .inl (every_sub h y hy)
    · exact .inr (everyL_sub h y hy)
end
end Go.Ai
namespace Go.Ai.Tryz
open Go Go.Ai Go.Proofs
variable {w0 : World}
theorem spec116 (l : List Wd) (hl : l.length ≤ 1000000) (H : AH) (Q : AV → AH → Prop) (h : Q (.slice (l.map eW)) H) : ACalls Tryz.prog w0 116 [.slice (l.map eW)] H Q := by
  rcases l with _ | ⟨w, ws⟩
  · refine ACalls.split0 ?_ fun a cap => ?_
    · refine enter116 (by simp) fun hwf hok R hR hR0 => ?_
      unfold x116
      simp only [go_sem]
      refine hR _ _ _ rfl (.forget (.refl hwf) rfl h)
    · refine enter116 (by simp) fun hwf hok R hR hR0 => ?_
      unfold x116
      simp only [go_sem, List.append_nil]
      refine ⟨by omega, by omega, ?_⟩
      refine hR _ _ _ rfl (.forget (.pushTok (.refl hwf) _) rfl h)
  · refine enter116 (by simp) fun hwf hok R hR hR0 => ?_
    simp only [List.length_cons] at hl
    unfold x116
    simp only [go_sem]
    refine ⟨by omega, fun z hz => elem_eW (w :: ws) z (by simpa only [List.map_cons] using hz), ⟨by simp only [List.length_map]; omega, by simp only [List.length_map]; omega⟩, ?_⟩
    refine hR _ _ _ rfl (.forget (.pushTok (.refl hwf) _) ?_ h)
    simp only [go_sem, AV.forget]
theorem spec111 (u : U) (hb : (every u).length ≤ 1000) (hs : small (every u)) (H : AH) (Q : AV → AH → Prop) (h : Q (eU u) H) : ACalls Tryz.prog w0 111 [eU u] H Q := by
  refine enter111 (by simp) fun hwf hok R hR hR0 => ?_
  have hkl := len_everyL u.kids
  rw [every_eq] at hb hs
  have hsu := hs u (List.mem_cons_self ..)
  simp only [List.length_cons] at hb
  have hb' := hb
  unfold x111
  simp only [go_sem, dr111_0]
  refine PCalls.of (r := .slice (u.head.map eW)) (fun H' => spec116 u.head hsu.1 _ _ ⟨rfl, rfl⟩) ?_
  simp only [go_sem]
  refine PCalls.of (r := .slice (u.words.map eW)) (fun H' => spec116 u.words hsu.2 _ _ ⟨rfl, rfl⟩) ?_
  simp only [go_sem]
  refine AX.own0 (k := 3) 27 8 (by simp only [go_sem]) ?_
  refine AX.iter (S := List U × List U) ttOk (fun a => [(1, .ptr H.n 0), (2, .ptr (H.n + 1) 0), (3, .own (a.1.map eU) H.m), (15, .slice (u.kids.map eU)), (16, .int .i64 (u.kids.map eU).length), (17, .int .i64 a.1.length)])
    (fun a => ((H.push (.cells u.cs 27)).push (.cells [.int .i64 0, .int .i64 0, .int .i64 0, .int .i64 0, .str ByteArray.empty, .nilS, .nilS, .nilS] 27)).pushTok ⟨(a.1.map eU).length, 27, 8⟩) (fun a => a.2.length)
    (fun a => a.1 ++ a.2 = u.kids) ([], u.kids) ?_ rfl rfl ?_
  · simp only [go_sem]
  · rintro ⟨pre, post⟩ h2 hk hwf' K R' hK hQ
    simp only at h2 hK ⊢
    unfold l111_0
    rcases post with _ | ⟨k, ks⟩
    · have hb := ge_of h2 eU
      simp only [go_sem, U.cs, hb]
      refine hQ _ _ _ ?_
      simp only [go_sem]
      rw [List.append_nil] at h2
      refine hR _ _ (.agg [.int .i64 u.id.act, .int .i64 u.id.item, .int .i64 u.id.n, .int .i64 u.kind, .str u.label, .slice (u.head.map eW), .slice (u.words.map eW), .own (pre.map eU) H.m])
        (ares_c (ares1_cell (id := H.n + 1) (off := 0) (cs := [.int .i64 u.id.act, .int .i64 u.id.item, .int .i64 u.id.n, .int .i64 u.kind, .str u.label, .slice (u.head.map eW), .slice (u.words.map eW), .own (pre.map eU) H.m]) (e := 27) tt_27 (by simp only [go_sem]) (by simp only [go_sem]) (by decide) (by simp only [go_sem]) rfl))
        (.inl ⟨eU u, H, ?_, fit_eU _ _ u, .pushTok (.push (.push (.refl hwf) _) _) _, rfl, rfl, h⟩)
      rw [eU_eq, U.cs, ← h2]
      exact AV.Weak.cells _
    · have hb'' := lt_of h2 eU
      have ha := at_of h2 eU
      have hl := len_of h2
      have hsum : everyL u.kids = everyL pre ++ (every k ++ everyL ks) := by rw [← h2, everyL_append]; rfl
      have hbk : (every k).length ≤ 1000 := by rw [hsum, List.length_append, List.length_append] at hb'; omega
      have hsk : small (every k) := fun x hx => hs x (List.mem_cons_of_mem _ (by rw [hsum]; simp [hx]))
      have hw : IntKind.i64.wrap ((pre.length : Int) + 1) = pre.length + 1 := wrap_i64.2 (by omega)
      simp only [go_sem, U.cs, hb'', ha, hw]
      refine ⟨by omega, ?_⟩
      refine spec111 k hbk hsk _ _ ?_
      simp only [go_sem, hw]
      refine ⟨by omega, ⟨by simp only [List.length_map]; omega, by simp only [List.length_map]; omega⟩, ?_⟩
      refine hK _ _ (pre ++ [k], ks) (by simp) (snoc_of h2) ?_ (Nat.le_refl _) (Nat.le_refl _) ?_
      · rw [List.map_append, List.map_singleton]
        refine .pushTok (.push (H := ((H.push (.cells u.cs 27)).push (.cells [.int .i64 0, .int .i64 0, .int .i64 0, .int .i64 0, .str ByteArray.empty, .nilS, .nilS, .nilS] 27)).pushTok ⟨(pre.map eU ++ [eU k]).length, 27, 8⟩) (.refl (WF_pushTok (WF_push_cells (WF_push_cells hwf _ _ ?_) _ _ ?_) _)) _) _
        · simp only [go_sem, U.cs]
        · simp only [go_sem]
      · simp only [go_sem, len_snoc, List.map_append]
        simp; omega
termination_by SizeOf.sizeOf u
decreasing_by exact kid_lt (mem_of h2)
def zeroU : U := ⟨zeroId, 0, ByteArray.empty, [], [], []⟩
def findM (u : U) (id : Id) : U × Bool := match (wayM id u)[(wayM id u).length - 1]? with
  | some x => (x, true)
  | none => (zeroU, false)
theorem spec105 (u : U) (id : Id) (hb : (every u).length ≤ 1000) (hs : small (every u)) (H : AH) (Q : AV → AH → Prop) (h : Q (.tup [eU (findM u id).1, .bool (findM u id).2]) H) : ACalls Tryz.prog w0 105 [eU u, eId id] H Q := by
  refine enter105 (by simp) fun hwf hok R hR hR0 => ?_
  have hwl := wayM_len id u
  unfold x105
  simp only [go_sem]
  refine spec91 u id hb _ _ ?_
  rcases hwk : wayM id u with _ | ⟨w1, ws⟩
  · simp only [go_sem, wayV]
    have hf : findM u id = (zeroU, false) := by simp [findM, hwk]
    rw [hf] at h
    refine hR _ _ _ (ares_ct (ares1_cell (v := .agg [.int .i64 0, .int .i64 0, .int .i64 0, .int .i64 0, .str ByteArray.empty, .nilS, .nilS, .nilS]) (id := H.n + 1 + 1) (off := 0) (cs := [.int .i64 0, .int .i64 0, .int .i64 0, .int .i64 0, .str ByteArray.empty, .nilS, .nilS, .nilS]) (e := 27) tt_27 (by simp only [go_sem]) (by simp only [go_sem]) (by decide) (by simp only [go_sem]) rfl) (w := .bool false) (by simp only [go_sem]))
      (.inl ⟨_, H, ?_, ?_, .push (.push (.push (.refl hwf) _) _) _, rfl, rfl, h⟩)
    · refine .tup rfl fun j c d h1 h2 => ?_
      match j with
      | 0 => simp at h1 h2; subst h1; subst h2; rw [eU_eq]; exact AV.Weak.cells _
      | 1 => simp at h1 h2; subst h1; subst h2; exact .refl _
      | j + 2 => simp at h1
    · simp only [go_sem, AV.fit, AV.fitL, Bool.and_true]
  · have hlt : ws.length < (w1 :: ws).length := by simp
    obtain ⟨p, hp⟩ : ∃ p, (w1 :: ws)[ws.length]? = some p := ⟨_, List.getElem?_eq_getElem hlt⟩
    have hpm : p ∈ every u := wayM_mem id u p (by rw [hwk]; exact List.mem_of_getElem? hp)
    have hpl := every_le u p hpm
    rw [hwk] at hwl
    simp only [List.length_cons] at hwl
    have e0 : decide ((((ws.map eU).length + 1 : Nat) : Int) = 0) = false := by simp; omega
    have e1 : IntKind.i64.wrap ((((ws.map eU).length + 1 : Nat) : Int) - 1) = ws.length := by rw [List.length_map, wrap_i64.2 (by omega)]; omega
    have e2 : (eU w1 :: ws.map eU)[((ws.length : Int)).toNat]? = some (eU p) := by
      rw [← List.map_cons, List.getElem?_map, show ((ws.length : Int)).toNat = ws.length from Int.toNat_natCast _, hp]; rfl
    simp only [go_sem, wayV, e0, e1, e2]
    refine ⟨by omega, ?_⟩
    refine spec111 p (by omega) (fun x hx => hs x (every_sub hpm x hx)) _ _ ?_
    simp only [go_sem]
    have hf : findM u id = (p, true) := by simp only [findM, hwk, List.length_cons, Nat.add_sub_cancel, hp]
    rw [hf] at h
    refine hR _ _ _ (ares_ct (ares1_cell (v := eU p) (id := H.n + 1 + 1) (off := 0) (cs := p.cs) (e := 27) tt_27 (by simp only [go_sem]) (by simp only [go_sem, U.cs]) (by decide) (by simp only [go_sem, U.cs]) (by rw [eU_eq]; rfl)) (w := .bool true) (by simp only [go_sem]))
      (.same (.push (.push (.push (.refl hwf) _) _) _) ?_ h)
    simp only [go_sem, AV.fit, AV.fitL, Bool.and_true]
end Go.Ai.Tryz
