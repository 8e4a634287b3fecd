/- A part of the proof: no statement of the seat is proved in this text. -/
import Derived.Test.YtdmhbplibcolbaaGreatN10
set_option linter.unusedVariables false
set_option linter.unusedSimpArgs false
set_option maxRecDepth 20000
set_option maxHeartbeats 1000000
namespace Go.Ai
open Go Go.Ai.Tryz
theorem every_len_le {u y : U} {l : List Step} (h : Path u l y) : (every y).length ≤ (every u).length := by
  induction h with
  | nil u => exact Nat.le_refl _
  | cons hk _ ih => exact Nat.le_trans ih (kid_le hk)
theorem removed_len {u y z : U} {l : List Step} {pre post : List U} (hd : Distinct u) (hz : Path u l z) (e : pre ++ y :: post = z.kids) : (every (updM z.id (fun _ => pre ++ post) u)).length ≤ (every u).length := by
  obtain ⟨A, B, h⟩ := upd_ids u z hd hz.mem
  have h0 := h (fun l => l)
  have h1 := congrArg List.length (h fun _ => pre ++ post)
  rw [updM_idf, ← e] at h0
  have h2 := congrArg List.length h0
  have h3 := (sub_rest (pre := pre) (post := post) (y := y)).length_le
  simp only [List.length_append, idsOf_len] at h1 h2 h3
  omega
@[go_sem low] theorem fold_kids (u : U) (l : List U) : AV.agg [.int .i64 u.id.act, .int .i64 u.id.item, .int .i64 u.id.n, .int .i64 u.kind, .str u.label, .slice (u.head.map eW), .slice (u.words.map eW), .slice (l.map eU)] = eU { u with kids := l } := by rw [eU_eq]; rfl
theorem rest_ids {u y z p : U} {l : List Step} {pre post : List U} {t : Id} (hd : Distinct u) (hz : Path u l z) (e : pre ++ y :: post = z.kids) (hp : p ∈ every u) (ht : t ∈ idsOf p.kids) (hne : t ≠ y.id) : t ∈ idsOf (updM z.id (fun _ => pre ++ post) p).kids := by
  by_cases h : p.id = z.id
  · have := hd.eq hp hz.mem h
    subst this
    rw [updM_hit _ rfl]
    rw [← e, idsOf_append] at ht
    show t ∈ idsOf (pre ++ post)
    rw [idsOf_append]
    simp only [List.mem_append, idsOf, List.map_cons, List.mem_cons] at ht ⊢
    rcases ht with ht | ht | ht
    · exact .inl ht
    · exact absurd ht hne
    · exact .inr ht
  · rw [updM_miss _ h]
    show t ∈ idsOf (p.kids.map _)
    simpa [idsOf, updM_id, Function.comp_def] using ht
structure De where
  act : Int
  item : Int
  day : Int
  it : It
def De.cs (d : De) : List AV := .int .i64 d.act :: .int .i64 d.item :: .int .i64 d.day :: d.it.cs
def eD (d : De) : AV := .agg d.cs
@[go_sem] theorem cells_eD (d : De) : (eD d).cells = .int .i64 d.act :: .int .i64 d.item :: .int .i64 d.day :: d.it.cs := rfl
@[go_sem] theorem agg_eD (d : De) : (eD d).isAgg = true := rfl
theorem fold_eD (d : De) : AV.agg (.int .i64 d.act :: .int .i64 d.item :: .int .i64 d.day :: d.it.cs) = eD d := rfl
theorem oneM_at {u : U} {p : List Step} (h : (oneM (idsM u p)).2 = 0) : ∃ q ∈ every u, (oneM (idsM u p)).1 = q.id := by
  obtain ⟨q, hq, e⟩ := way_mem (oneM_way h)
  exact ⟨q, hq, e.symm⟩
def moveM (u : U) (id : Id) (x : It) : U × Int :=
  if (oneM (idsM u x.to)).2 = 0 then
    if (decide (id = u.id) || besM x.wh && decide ((oneM (idsM u x.to)).1 = u.id) || decide (0 < ((wayM (oneM (idsM u x.to)).1 (findM u id).1).length : Int) - 1) || decide (((wayM (oneM (idsM u x.to)).1 (findM u id).1).length : Int) - 1 = 0) && !besM x.wh) = true then (u, 9) else
    let t := (oneM (idsM u x.to)).1
    let y := (findM u id).1
    let p := if besM x.wh then (parM t u).1 else (findM u t).1
    let deep : Int := if besM x.wh then (parM t u).2.1 else (wayM t u).length - 1
    let o := parM id u
    let kids := if o.1.id = p.id then outM p.kids o.2.2.toNat else p.kids
    if nestsM p.kind y.kind = false then (u, 9) else
    if takenM kids y.kind y.label = true then (u, 10) else
    if (decide (64 ≤ (kids.length : Int)) || decide (8 < deep + 1 + depthM y)) = true then (u, 6) else
    if t = id then (u, 0) else
    let u1 := withM { o.1 with kids := outM o.1.kids o.2.2.toNat } u
    let p1 := (findM u1 p.id).1
    let k : Nat := if besM x.wh then (atM p1.kids t 0).toNat + (if x.wh = 2 then 1 else 0) else if x.wh = 0 then 0 else p1.kids.length
    (withM { p1 with kids := insL p1.kids k y } u1, 0)
  else (u, (oneM (idsM u x.to)).2)
end Go.Ai
namespace Go.Ai.Tryz
open Go Go.Ai Go.Proofs
variable {w0 : World}
set_option maxHeartbeats 8000000 in
theorem spec29 (u y : U) (d : De) (hb : (every u).length ≤ 1000) (hd : Distinct u) (hy : y ∈ every u) (H : AH) (Q : AV → AH → Prop) (h : Q (.tup [eU (moveM u y.id d.it).1, .int .i64 (moveM u y.id d.it).2]) H) : ACalls Tryz.prog w0 29 [eU u, eId y.id, eD d] H Q := by
  refine enter29 (by simp) fun hwf hok R hR hR0 => ?_
  have fin : ∀ (v : U) (e : Int) env' H', moveM u y.id d.it = (v, e) → look 6 env' = .ptr (H.n + 1 + 1 + 1) 0 → look 7 env' = .int .i64 e → H.Sub H' → H'.obj (H.n + 1 + 1 + 1) = some (.cells v.cs 27) → R .ret env' H' := fun v e env' H' h1 h2 h3 h4 h5 => by
    rw [h1] at h
    exact hR _ _ _ (ares_ct (ares1_cell (v := eU v) (cs := v.cs) (e := 27) tt_27 h2 h5 (by decide) (by simp only [go_sem, U.cs]) (by rw [eU_eq]; rfl)) h3) (.same h4 (by simp only [go_sem, AV.fit, AV.fitL, Bool.and_true]) h)
  unfold x29
  simp only [go_sem, U.cs, It.cs, Id.cs]
  refine spec27 u _ hb _ _ ?_
  simp only [go_sem]
  cases c0 : decide ((oneM (idsM u d.it.to)).2 = 0) with
  | false =>
    simp only [go_sem, c0, Bool.not_false]
    simp only [decide_eq_false_iff_not] at c0
    exact fin u _ _ _ (by rw [moveM, if_neg c0]) (by simp only [go_sem]) (by simp only [go_sem]) (by repeat' first | exact .refl hwf | apply AH.Sub.push | apply AH.Sub.pushTok) (by simp only [go_sem, U.cs])
  | true =>
  have c0' := c0
  simp only [decide_eq_true_eq] at c0'
  obtain ⟨q, hq, eq⟩ := oneM_at c0'
  obtain ⟨ly, hly⟩ := path_of u y hy
  obtain ⟨lq, hlq⟩ := path_of u q hq
  have hfy := hly.find hd
  have hby : (every y).length ≤ 1000 := Nat.le_trans (every_len_le hly) hb
  obtain ⟨M, hM⟩ : ∃ M, M = moveM u y.id d.it := ⟨_, rfl⟩
  rw [← hM] at h fin
  rw [moveM, if_pos c0', hfy] at hM
  simp only [go_sem, c0, Bool.not_true]
  generalize (oneM (idsM u d.it.to)).1 = t at hM eq ⊢
  have hfq : findM u t = (q, true) := by rw [eq]; exact hlq.find hd
  have hdeep : ((wayM t u).length : Int) - 1 = lq.length := by rw [eq, hlq.len hd]; simp
  have hins : ((wayM t y).length : Int) - 1 ≤ 1000 := by have := wayM_len t y; omega
  have hqy : wayM t y = [] → q ∉ every y := fun e hm => by
    obtain ⟨m, hm⟩ := path_of y q hm
    have := hm.len (hd.at hly)
    rw [← eq, e] at this; simp at this
  have hq0 : ((wayM t y).length : Int) - 1 = 0 → q = y := fun e => by
    obtain ⟨r, hr, er⟩ := way_mem (u := y) (id := t) (fun h => by rw [h] at e; simp at e)
    obtain ⟨m, hm⟩ := path_of y r hr
    have h1 := hm.len (hd.at hly)
    rw [er] at h1
    have h2 : m = [] := List.length_eq_zero_iff.1 (by omega)
    subst h2
    cases hm
    exact hd.eq hq hy (eq.symm.trans er.symm)
  rcases (show (besM d.it.wh = true ∧ decide (d.it.wh = 2) = true) ∨ (besM d.it.wh = true ∧ decide (d.it.wh = 2) = false ∧ decide (d.it.wh = 3) = true) ∨ (besM d.it.wh = false ∧ decide (d.it.wh = 2) = false ∧ decide (d.it.wh = 3) = false) by unfold besM; cases decide (d.it.wh = 2) <;> cases decide (d.it.wh = 3) <;> simp) with ⟨hbes, hw⟩ | ⟨hbes, hw, hw'⟩ | ⟨hbes, hw, hw'⟩
  all_goals
    rw [hbes] at hM
    simp only [go_sem, hw]
    try simp only [go_sem, hw']
    refine spec30 u y.id hb _ _ ?_
    simp only [go_sem, hfy]
    refine spec30 y t hby _ _ ?_
    simp only [go_sem]
    rcases c1 : decide (y.id = u.id) with _ | _
    rotate_left
    · simp only [go_sem, c1]
      exact fin u 9 _ _ (by rw [hM, if_pos (by rw [c1]; rfl)]) (by simp only [go_sem]) (by simp only [go_sem]) (by repeat' first | exact .refl hwf | apply AH.Sub.push | apply AH.Sub.pushTok) (by simp only [go_sem, U.cs])
    obtain ⟨l, z, pre, post, hz, ez⟩ := parent_of u hd hy (by simpa using c1)
    have hpar := hz.par hd ez
    have hyz : y ∈ everyL z.kids := kid_mem (by rw [← ez]; simp)
    have hzy : z ∉ every y := fun hm => hd.notin hz.mem (everyL_sub hyz z hm)
    rcases c3 : decide (0 < ((wayM t y).length : Int) - 1) with _ | _
    rotate_left
    · simp only [go_sem, c1, c3]
      repeat' first | refine And.intro ?_ ?_ | refine fun (_ : _ = _) => ?_
      all_goals exact fin u 9 _ _ (by rw [hM, if_pos (by rw [c3]; simp)]) (by simp only [go_sem]) (by simp only [go_sem]) (by repeat' first | exact .refl hwf | apply AH.Sub.push | apply AH.Sub.pushTok) (by simp only [go_sem, U.cs])
    simp only [go_sem, c1, c3]
    rw [c1, c3] at hM
  case' inr.inr.false.false =>
    rcases c4 : decide (((wayM t y).length : Int) - 1 = 0) with _ | _
    rotate_left
    · simp only [go_sem, c4]
      exact fin u 9 _ _ (by rw [hM, if_pos (by rw [c4]; simp)]) (by simp only [go_sem]) (by simp only [go_sem]) (by repeat' first | exact .refl hwf | apply AH.Sub.push | apply AH.Sub.pushTok) (by simp only [go_sem, U.cs])
    simp only [go_sem, c4]
    rw [c4] at hM
    refine spec30 u t hb _ _ ?_
    simp only [go_sem, hfq, hdeep]
    rw [if_neg (by simp)] at hM
    simp only [Bool.false_eq_true, if_false, hfq, hdeep, hpar, Int.toNat_natCast] at hM
    have hp := hlq
    have hpy : q ∉ every y := hqy (List.length_eq_zero_iff.1 (by simp only [decide_eq_false_iff_not] at c3 c4; omega))
    have htp : besM d.it.wh = true → t ∈ idsOf q.kids := fun e => by rw [hbes] at e; cases e
    obtain ⟨p, hpq⟩ : ∃ p, p = q := ⟨q, rfl⟩
    subst hpq
    obtain ⟨lp, hlpq⟩ : ∃ lp, lp = lq := ⟨lq, rfl⟩
    subst hlpq
  case' inl.false.false | inr.inl.false.false =>
    rcases c2 : decide (t = u.id) with _ | _
    rotate_left
    · simp only [go_sem, c2]
      exact fin u 9 _ _ (by rw [hM, if_pos (by rw [c2]; simp)]) (by simp only [go_sem]) (by simp only [go_sem]) (by repeat' first | exact .refl hwf | apply AH.Sub.push | apply AH.Sub.pushTok) (by simp only [go_sem, U.cs])
    simp only [go_sem, c2]
    rw [c2] at hM
    rw [if_neg (by simp)] at hM
    obtain ⟨lp, p, preq, postq, hp, epq⟩ := parent_of u hd hq (by rw [← eq]; simpa using c2)
    have hparq : parM t u = (p, (lp.length : Int), (preq.length : Int)) := by rw [eq]; exact hp.par hd epq
    simp only [if_true, hparq, hpar, Int.toNat_natCast] at hM
    have hpy : p ∉ every y := fun hm => by
      have h1 : q ∈ every y := by
        have : q ∈ everyL p.kids := kid_mem (by rw [← epq]; simp)
        exact every_sub hm q (below_mem this)
      by_cases e : q = y
      · subst e
        rw [← eq, hparq] at hpar
        have : p = z := congrArg (·.1) hpar
        subst this
        exact hzy hm
      · obtain ⟨m, hm'⟩ := path_of y q h1
        have h2 := hm'.len (hd.at hly)
        rw [← eq] at h2
        simp only [decide_eq_false_iff_not] at c3
        exact e (hq0 (by omega))
    have htp : besM d.it.wh = true → t ∈ idsOf p.kids := fun _ => by rw [eq]; exact idsOf_mem (by rw [← epq]; simp)
    refine ⟨fun c4 => ?_, fun c4 => ?_⟩
    all_goals
      refine spec30 u t hb _ _ ?_
      simp only [go_sem, hfq]
      refine spec31 u t hb _ _ ?_
      simp only [go_sem, hparq]
  all_goals
    refine spec59 _ _ _ _ ?_
    rcases c5 : nestsM p.kind y.kind with _ | _
    · simp only [go_sem, Bool.not_false]
      exact fin u 9 _ _ (by rw [hM, if_pos c5]) (by simp only [go_sem]) (by simp only [go_sem]) (by repeat' first | exact .refl hwf | apply AH.Sub.push | apply AH.Sub.pushTok) (by simp only [go_sem, U.cs])
    simp only [go_sem, Bool.not_true]
    rw [c5, if_neg (by simp)] at hM
    refine spec31 u y.id hb _ _ ?_
    simp only [go_sem, hpar]
    have hlp : lp.length ≤ 1000 := by have := hp.depth; have := depthM_le u; omega
    have hpk : p.kids.length ≤ 1000 := by have := len_everyL p.kids; have := every_len_le hp; rw [every_eq, List.length_cons] at this; omega
    have hzk : z.kids.length ≤ 1000 := by have := len_everyL z.kids; have := every_len_le hz; rw [every_eq, List.length_cons] at this; omega
    have hpre : pre.length < z.kids.length := by rw [← ez]; simp
    have hout : outM z.kids pre.length = pre ++ post := by rw [← ez]; exact outM_mid pre post y
    have hdp := depthM_le y
    obtain ⟨kids, hkids, hkl⟩ : ∃ kids, (if z.id = p.id then outM p.kids pre.length else p.kids) = kids ∧ kids.length ≤ 1000 := ⟨_, rfl, by split <;> (try simp [outM]) <;> omega⟩
    rw [hkids] at hM
    rcases c6 : decide (z.id = p.id) with _ | _
    all_goals
      first
        | (have ezp : z = p := hd.eq hz.mem hp.mem (by simpa using c6)
           simp only [go_sem]
           refine spec32 p.kids pre.length (by omega) (by rw [← ezp]; exact hpre) _ _ ?_
           rw [if_pos (by simpa using c6)] at hkids
           rw [hkids]
           simp only [go_sem])
        | (simp only [go_sem]
           rw [if_neg (by simpa using c6)] at hkids
           rw [hkids])
      refine spec36 kids _ _ (by omega) _ _ ?_
      rcases c7 : takenM kids y.kind y.label with _ | _
      rotate_left
      · simp only [go_sem]
        exact fin u 10 _ _ (by rw [hM, if_pos c7]) (by simp only [go_sem]) (by simp only [go_sem]) (by repeat' first | exact .refl hwf | apply AH.Sub.push | apply AH.Sub.pushTok) (by simp only [go_sem, U.cs])
      rw [c7, if_neg (by simp)] at hM
      have hw1 : IntKind.i64.wrap ((lp.length : Int) + 1) = lp.length + 1 := wrap_i64.2 (by omega)
      have hw2 : IntKind.i64.wrap ((lp.length : Int) + 1 + depthM y) = lp.length + 1 + depthM y := wrap_i64.2 (by omega)
      rcases c8 : decide ((64 : Int) ≤ ((kids.map eU).length : Int)) with _ | _
      rotate_left
      · simp only [go_sem, c8]
        exact fin u 6 _ _ (by rw [hM, if_pos (by rw [List.length_map] at c8; rw [c8]; rfl)]) (by simp only [go_sem]) (by simp only [go_sem]) (by repeat' first | exact .refl hwf | apply AH.Sub.push | apply AH.Sub.pushTok) (by simp only [go_sem, U.cs])
      simp only [go_sem, c8, hw1]
      refine spec60 y hby _ _ ?_
      rcases c9 : decide ((8 : Int) < (lp.length : Int) + 1 + depthM y) with _ | _
      rotate_left
      · simp only [go_sem, hw2, c9]
        exact fin u 6 _ _ (by rw [hM, if_pos (by rw [c9]; simp)]) (by simp only [go_sem]) (by simp only [go_sem]) (by repeat' first | exact .refl hwf | apply AH.Sub.push | apply AH.Sub.pushTok) (by simp only [go_sem, U.cs])
      rw [List.length_map] at c8
      rw [c8, c9, if_neg (by simp)] at hM
      rcases c10 : decide (t = y.id) with _ | _
      rotate_left
      · simp only [go_sem, hw2, c9, c10]
        exact fin u 0 _ _ (by rw [hM, if_pos (by simpa using c10)]) (by simp only [go_sem]) (by simp only [go_sem]) (by repeat' first | exact .refl hwf | apply AH.Sub.push | apply AH.Sub.pushTok) (by simp only [go_sem, U.cs])
      rw [if_neg (by simpa using c10)] at hM
      simp only [go_sem, hw2, c9, c10]
      refine spec32 z.kids pre.length (by omega) hpre _ _ ?_
      simp only [go_sem]
      refine spec33 u _ hb _ _ ?_
      simp only [go_sem]
      have hu1 : withM { z with kids := outM z.kids pre.length } u = updM z.id (fun _ => pre ++ post) u := by rw [hout]; exact withM_upd u z hd hz.mem _
      obtain ⟨hd1, hp1⟩ := removed hd hz ez hp hpy
      have hb1 := Nat.le_trans (removed_len hd hz ez) hb
      have hf1 : findM (updM z.id (fun _ => pre ++ post) u) p.id = (updM z.id (fun _ => pre ++ post) p, true) := by have := hp1.find hd1; rwa [updM_id] at this
      have ht1 : besM d.it.wh = true → t ∈ idsOf (updM z.id (fun _ => pre ++ post) p).kids := fun e => rest_ids hd hz ez hp.mem (htp e) (by simpa using c10)
      simp only [hu1, hf1] at hM
      rw [hu1]
      refine spec30 _ p.id hb1 _ _ ?_
      have hk1 : (updM z.id (fun _ => pre ++ post) p).kids.length ≤ 1000 := by have := len_everyL (updM z.id (fun _ => pre ++ post) p).kids; have := every_len_le hp1; rw [every_eq, List.length_cons] at this; omega
      simp only [go_sem, hf1]
      generalize updM z.id (fun _ => pre ++ post) p = p1 at hM ht1 hk1 ⊢
      generalize updM z.id (fun _ => pre ++ post) u = u1 at hM hb1 ⊢
      rcases cw : decide (d.it.wh = 0) with _ | _
      all_goals
        simp only [go_sem, cw, List.length_map]
        have done : ∀ (k : Nat), k ≤ p1.kids.length → M = (withM { p1 with kids := insL p1.kids k y } u1, 0) → ∀ H1 K1, (K1 (.slice ((insL p1.kids k y).map eU)) H1) → ACalls Tryz.prog w0 63 [.slice (p1.kids.map eU), .int .i64 k, eU y] H1 K1 := fun k h1 _ H1 K1 h2 => spec63 p1.kids k y (by omega) h1 H1 K1 h2
        first
          | (obtain ⟨n, hn, hnl⟩ := atM_mem (ht1 hbes)
             have hwn : IntKind.i64.wrap ((n : Int) + 1) = (n + 1 : Nat) := by rw [wrap_i64.2 (by omega)]; rfl
             refine spec64 p1.kids t (by omega) _ _ ?_
             simp only [go_sem, hn, hw, hwn]
             obtain ⟨k, hM', hk, hkn⟩ : ∃ k : Nat, M = (withM { p1 with kids := insL p1.kids k y } u1, 0) ∧ k ≤ p1.kids.length ∧ k = n + if d.it.wh = 2 then 1 else 0 := ⟨_, by rw [hM, hn, Int.toNat_natCast], by split <;> omega, rfl⟩
             first
               | rw [if_pos (by simpa using hw)] at hkn
               | rw [if_neg (by simpa using hw), Nat.add_zero] at hkn
             rw [← hkn]
             refine done k hk hM' _ _ ?_
             simp only [go_sem]
             refine spec33 u1 _ hb1 _ _ ?_
             simp only [go_sem]
             exact fin _ 0 _ _ hM' (by simp only [go_sem]) (by simp only [go_sem]) (by repeat' first | exact .refl hwf | apply AH.Sub.push | apply AH.Sub.pushTok) (by simp only [go_sem, U.cs]))
          | (have hM' : M = (withM { p1 with kids := insL p1.kids 0 y } u1, 0) := by rw [hM, if_pos (by simpa using cw)]
             refine done 0 (by omega) hM' _ _ ?_
             simp only [go_sem]
             refine spec33 u1 _ hb1 _ _ ?_
             simp only [go_sem]
             exact fin _ 0 _ _ hM' (by simp only [go_sem]) (by simp only [go_sem]) (by repeat' first | exact .refl hwf | apply AH.Sub.push | apply AH.Sub.pushTok) (by simp only [go_sem, U.cs]))
          | (have hM' : M = (withM { p1 with kids := insL p1.kids p1.kids.length y } u1, 0) := by rw [hM, if_neg (by simpa using cw)]
             refine done p1.kids.length (by omega) hM' _ _ ?_
             simp only [go_sem]
             refine spec33 u1 _ hb1 _ _ ?_
             simp only [go_sem]
             exact fin _ 0 _ _ hM' (by simp only [go_sem]) (by simp only [go_sem]) (by repeat' first | exact .refl hwf | apply AH.Sub.push | apply AH.Sub.pushTok) (by simp only [go_sem, U.cs]))
end Go.Ai.Tryz
