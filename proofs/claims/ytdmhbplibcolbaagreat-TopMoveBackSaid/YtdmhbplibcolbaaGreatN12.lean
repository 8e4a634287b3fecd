/- A part of the proof: no statement of the seat is proved in this text. -/
import Derived.Test.YtdmhbplibcolbaaGreatN11
set_option linter.unusedVariables false
set_option linter.unusedSimpArgs false
set_option maxRecDepth 20000
set_option maxHeartbeats 1000000
namespace Go.Ai
open Go Go.Ai.Tryz
def doMv (u : U) (x : It) : U × Int :=
  if mayIt x = false then (u, 1) else if (oneM (idsM u x.at')).2 = 0 then moveM u (oneM (idsM u x.at')).1 x else (u, (oneM (idsM u x.at')).2)
end Go.Ai
namespace Go.Ai.Tryz
open Go Go.Ai Go.Proofs
variable {w0 : World}
theorem spec7m (u : U) (d : De) (hb : (every u).length ≤ 1000) (hd : Distinct u) (hf : fewIt d.it) (hk : d.it.kind = 6) (H : AH) (Q : AV → AH → Prop) (h : Q (.tup [eU (doMv u d.it).1, .int .i64 (doMv u d.it).2]) H) : ACalls Tryz.prog w0 7 [eU u, eD d] H Q := by
  refine enter7 (by simp) fun hwf hok R hR hR0 => ?_
  have fin : ∀ (v : U) (e : Int) env' H', doMv u d.it = (v, e) → look 4 env' = .ptr (H.n + 1 + 1) 0 → look 5 env' = .int .i64 e → H.Sub H' → H'.obj (H.n + 1 + 1) = some (.cells v.cs 27) → R .ret env' H' := fun v e env' H' h1 h2 h3 h4 h5 => by
    rw [h1] at h
    exact hR _ _ _ (ares_ct (ares1_cell (v := eU v) (cs := v.cs) (e := 27) tt_27 h2 h5 (by decide) (by simp only [go_sem, U.cs]) (by rw [eU_eq]; rfl)) h3) (.same h4 (by simp only [go_sem, AV.fit, AV.fitL, Bool.and_true]) h)
  have hch : (decide (0 ≤ d.it.kind) && decide (d.it.kind ≤ 6)) = true := by rw [hk]; rfl
  have k0 : decide (d.it.kind = 0) = false := by rw [hk]; rfl
  have k6 : decide (d.it.kind = 6) = true := by rw [hk]; rfl
  unfold x7
  simp only [go_sem, U.cs, It.cs]
  refine spec26 _ _ _ ?_
  simp only [go_sem, hch, Bool.not_true]
  refine spec6 d.it hf _ _ ?_
  rcases c0 : mayIt d.it with _ | _
  · simp only [go_sem, Bool.not_false]
    exact fin u 1 _ _ (by rw [doMv, if_pos c0]) (by simp only [go_sem]) (by simp only [go_sem]) (by repeat' first | exact .refl hwf | apply AH.Sub.push | apply AH.Sub.pushTok) (by simp only [go_sem, U.cs])
  simp only [go_sem, Bool.not_true]
  refine spec27 u _ hb _ _ ?_
  simp only [go_sem]
  rcases c1 : decide ((oneM (idsM u d.it.at')).2 = 0) with _ | _
  · simp only [go_sem, c1, Bool.not_false]
    exact fin u _ _ _ (by rw [doMv, c0, if_neg (by simp), if_neg (by simpa using c1)]) (by simp only [go_sem]) (by simp only [go_sem]) (by repeat' first | exact .refl hwf | apply AH.Sub.push | apply AH.Sub.pushTok) (by simp only [go_sem, U.cs])
  obtain ⟨y, hy, ey⟩ := oneM_at (by simpa using c1)
  have hM : doMv u d.it = moveM u y.id d.it := by rw [doMv, c0, if_neg (by simp), if_pos (by simpa using c1), ey]
  simp only [go_sem, c1, Bool.not_true, ey, k0, k6]
  refine spec29 u y d hb hd hy _ _ ?_
  simp only [go_sem]
  exact fin (moveM u y.id d.it).1 (moveM u y.id d.it).2 _ _ hM (by simp only [go_sem]) (by simp only [go_sem]) (by repeat' first | exact .refl hwf | apply AH.Sub.push | apply AH.Sub.pushTok) (by simp only [go_sem, U.cs])
end Go.Ai.Tryz

set_option linter.unusedVariables false
set_option linter.unusedSimpArgs false
set_option maxRecDepth 20000
set_option maxHeartbeats 1000000
namespace Go.Ai
open Go Go.Ai.Tryz
theorem Path.way_has {u y : U} {l : List Step} (h : Path u l y) (hd : Distinct u) : ∀ x ∈ wayM y.id u, y ∈ every x := by
  induction h with
  | nil u => rw [wayM_self rfl]; intro x hx; simp at hx; subst hx; exact self_mem _
  | @cons u k y l hk hp ih =>
    obtain ⟨pre, post, e⟩ := List.append_of_mem hk
    obtain ⟨i1, i2⟩ := hp.way (hd.kid hk)
    have hne : u.id ≠ y.id := fun e => hd.kids.2 (by rw [e]; exact idsOf_mem (Path.mem_kids hk hp))
    have hw : wayM y.id k ≠ [] := fun e => by rw [e] at i1; simp at i1
    rw [wayM_kid hne e.symm (fun x hx => wayM_off _ _ ((hd.apart e.symm hp.mem).1 x hx)) hw]
    intro x hx
    rcases List.mem_cons.1 hx with rfl | hx
    · exact below_mem (Path.mem_kids hk hp)
    · exact ih (hd.kid hk) x hx
theorem Path.parent {u z k : U} {l : List Step} {pre post : List U} (h : Path u l z) (hd : Distinct u) (e : pre ++ k :: post = z.kids) : parentM u k.id = (z.id, (pre.length : Int), true) := by
  induction h with
  | nil u => exact parentM_kid (fun e' => hd.kids.2 (by rw [e']; exact idsOf_mem (kid_mem (by rw [← e]; simp)))) e (fun x hx => wayM_off _ _ ((hd.apart e (self_mem k)).1 x hx)) rfl
  | @cons u c z l hk hp ih =>
    obtain ⟨p, q, ec⟩ := List.append_of_mem hk
    have hkz : k ∈ everyL c.kids := by
      have h1 : k ∈ everyL z.kids := kid_mem (by rw [← e]; simp)
      have h2 : z ∈ every c := hp.mem
      rw [every_eq, List.mem_cons] at h2
      rcases h2 with rfl | h2
      · exact h1
      · exact everyL_sub h2 k (below_mem h1)
    have hap := hd.apart ec.symm (below_mem hkz)
    have hcc : c.id ≠ k.id := fun ee => (hd.kid hk).kids.2 (by rw [ee]; exact idsOf_mem hkz)
    have hu : u.id ≠ k.id := fun ee => hd.kids.2 (by rw [ee]; exact idsOf_mem (everyL_mem.2 ⟨c, hk, below_mem hkz⟩))
    have hw : wayM k.id c ≠ [] := fun e' => by
      obtain ⟨m, hm⟩ := path_of c k (below_mem hkz)
      have := (hm.way (hd.kid hk)).1
      rw [e'] at this; simp at this
    rw [parentM_deep hu ec.symm (fun x hx => wayM_off _ _ (hap.1 x hx)) hcc hw]
    exact ih (hd.kid hk) e
theorem added {u y p w : U} {l lw : List Step} {pre post : List U} (hd : Distinct u) (hp : Path u l p) (e : pre ++ post = p.kids) (hy : Distinct y) (hny : ∀ i ∈ idsOf (every u), i ∉ idsOf (every y)) (hw : Path u lw w) :
    Distinct (updM p.id (fun _ => pre ++ y :: post) u) ∧ Path (updM p.id (fun _ => pre ++ y :: post) u) lw (updM p.id (fun _ => pre ++ y :: post) w) := by
  obtain ⟨A, B, h⟩ := upd_ids u p hd hp.mem
  have h0 := h (fun l => l)
  rw [updM_idf] at h0
  refine ⟨?_, ?_⟩
  · unfold Distinct at hd hy ⊢
    rw [h (fun _ => pre ++ y :: post), everyL_split]
    rw [h0, ← e, everyL_append] at hd
    have hny' : ∀ i, (i ∈ A ∨ i ∈ idsOf (everyL pre) ∨ i ∈ idsOf (everyL post) ∨ i ∈ B) → i ∉ idsOf (every y) := fun i hi => hny i (by rw [h0, ← e, everyL_append]; simp only [idsOf_append, List.mem_append]; rcases hi with hi | hi | hi | hi <;> simp [hi])
    simp only [idsOf_append, List.nodup_append, List.mem_append] at hd ⊢
    obtain ⟨⟨h1, ⟨h2, h3, h4⟩, h5⟩, h6, h7⟩ := hd
    refine ⟨⟨h1, ⟨h2, ⟨hy, h3, fun a ha b hb e => hny' b (.inr (.inr (.inl hb))) (by rw [← e]; exact ha)⟩, fun a ha b hb e => ?_⟩, fun a ha b hb e => ?_⟩, h6, fun a ha b hb e => ?_⟩
    · rcases hb with hb | hb
      · exact hny' a (.inr (.inl ha)) (by rw [e]; exact hb)
      · exact h4 a ha b hb e
    · rcases hb with hb | hb | hb
      · exact h5 a ha b (.inl hb) e
      · exact hny' a (.inl ha) (by rw [e]; exact hb)
      · exact h5 a ha b (.inr hb) e
    · rcases ha with ha | ha | ha | ha
      · exact h7 a (.inl ha) b hb e
      · exact h7 a (.inr (.inl ha)) b hb e
      · exact hny' b (.inr (.inr (.inr hb))) (by rw [← e]; exact ha)
      · exact h7 a (.inr (.inr ha)) b hb e
  · by_cases hpz : w ∈ everyL p.kids
    · rw [← e] at hpz
      obtain ⟨k, hk, hpk⟩ := everyL_mem.1 hpz
      have hk' : k ∈ pre ++ y :: post := by
        rcases List.mem_append.1 hk with hk | hk
        · exact List.mem_append.2 (.inl hk)
        · exact List.mem_append.2 (.inr (List.mem_cons_of_mem _ hk))
      obtain ⟨m, hm⟩ := path_of k w hpk
      have h1 : Path u (l ++ stp k :: m) w := hp.trans (.cons (by rw [← e]; exact hk) hm)
      have h2 : Path (updM p.id (fun _ => pre ++ y :: post) u) (l ++ stp k :: m) w := (hp.here hd _).trans (.cons hk' hm)
      have h3 : updM p.id (fun _ => pre ++ y :: post) w = w := by
        refine updM_off _ _ _ fun hm' => ?_
        obtain ⟨x, hx, ex⟩ := List.mem_map.1 hm'
        have hx2 : x ∈ everyL p.kids := by rw [← e]; exact everyL_sub hpz x hx
        have := hd.eq (hp.sub x (below_mem hx2)) hp.mem ex
        subst this
        exact hd.notin hp.mem hx2
      rw [path_unique hd hw h1, h3]
      exact h2
    · exact hw.upd _ _ fun x hx ex => by
        have := hd.eq hx hp.mem ex
        subst this
        exact hpz
theorem added_len {u y p : U} {l : List Step} {pre post : List U} (hd : Distinct u) (hp : Path u l p) (e : pre ++ post = p.kids) : (every (updM p.id (fun _ => pre ++ y :: post) u)).length = (every u).length + (every y).length := by
  obtain ⟨A, B, h⟩ := upd_ids u p hd hp.mem
  have h0 := congrArg List.length (h (fun l => l))
  have h1 := congrArg List.length (h fun _ => pre ++ y :: post)
  rw [updM_idf, ← e, everyL_append] at h0
  rw [everyL_split] at h1
  simp only [List.length_append, idsOf_len] at h0 h1
  omega
theorem removed_len2 {u y z : U} {l : List Step} {pre post : List U} (hd : Distinct u) (hz : Path u l z) (e : pre ++ y :: post = z.kids) : (every (updM z.id (fun _ => pre ++ post) u)).length + (every y).length = (every u).length := by
  obtain ⟨A, B, h⟩ := upd_ids u z hd hz.mem
  have h0 := congrArg List.length (h (fun l => l))
  have h1 := congrArg List.length (h fun _ => pre ++ post)
  rw [updM_idf, ← e, everyL_split] at h0
  rw [everyL_append] at h1
  simp only [List.length_append, idsOf_len] at h0 h1
  omega
theorem back_upd {u z : U} {l : List Step} (hd : Distinct u) (hz : Path u l z) (f : List U) : updM z.id (fun _ => z.kids) (updM z.id (fun _ => f) u) = u := by
  rw [updM_updM]
  exact updM_self _ _ _ fun w hw ew => by
    have := hd.eq hw hz.mem ew
    subst this; rfl
theorem idx_of {pre post : List U} {k : U} {u z : U} {l : List Step} (h : Path u l z) (hd : Distinct u) (e : pre ++ k :: post = z.kids) : atM z.kids k.id 0 = (pre.length : Int) := by
  rw [← e]
  exact atM_hit (fun x hx ex => ((hd.mem h.mem).apart e (self_mem k)).1 x hx (by rw [← ex]; exact idsOf_mem (self_mem x))) rfl
end Go.Ai

set_option linter.unusedVariables false
set_option linter.unusedSimpArgs false
set_option maxRecDepth 20000
set_option maxHeartbeats 1000000
namespace Go.Ai
open Go Go.Ai.Tryz
structure Moved (u v y z : U) (l : List Step) (pre post : List U) where
  z1 : Path u l z
  e1 : pre ++ y :: post = z.kids
  p : U
  lp : List Step
  pre1 : List U
  post1 : List U
  z2 : Path (updM z.id (fun _ => pre ++ post) u) lp p
  e2 : pre1 ++ post1 = p.kids
  ev : v = updM p.id (fun _ => pre1 ++ y :: post1) (updM z.id (fun _ => pre ++ post) u)
  name : stp y ∉ p.kids.map stp
  deep : lp.length + 1 + depthM y ≤ 8
theorem GoodT.name {u z y : U} {pre post : List U} (hg : GoodT u) (hz : z ∈ every u) (e : pre ++ y :: post = z.kids) : stp y ∉ (pre ++ post).map stp := by
  have := (hg z hz).2
  rw [← e, List.map_append, List.map_cons, List.nodup_append, List.nodup_cons] at this
  obtain ⟨h1, ⟨h2, h3⟩, h4⟩ := this
  rw [List.map_append, List.mem_append]
  rintro (h | h)
  · exact h4 _ h _ (by simp) rfl
  · exact h2 h
theorem takenM_iff (l : List U) (y : U) : takenM l y.kind y.label = decide (stp y ∈ l.map stp) := by
  unfold takenM
  rw [Bool.eq_iff_iff]
  simp only [List.any_eq_true, Bool.and_eq_true, decide_eq_true_eq, List.mem_map, stp, Step.mk.injEq]
section
variable {u : U} {m : Int} (hB : BookT u m) {x : It}
include hB
theorem move_moved {y : U} (hy : y ∈ every u) (hx : (moveM u y.id x).2 = 0) : ∃ z l pre post, Nonempty (Moved u (moveM u y.id x).1 y z l pre post) := by
  have hd := hB.dist
  obtain ⟨ly, hly⟩ := path_of u y hy
  have hfy := hly.find hd
  obtain ⟨M, hM⟩ : ∃ M, M = moveM u y.id x := ⟨_, rfl⟩
  rw [← hM] at hx ⊢
  unfold moveM at hM
  by_cases c0 : (oneM (idsM u x.to)).2 = 0
  case neg => rw [if_neg c0] at hM; rw [hM] at hx; exact absurd hx c0
  rw [if_pos c0] at hM
  obtain ⟨q, hq, eq⟩ := oneM_at c0
  split at hM
  · rw [hM] at hx; simp at hx
  rename_i c1
  simp only [Bool.or_eq_true, not_or, Bool.and_eq_true, decide_eq_true_eq, not_and, Bool.not_eq_true', Bool.not_eq_false] at c1
  obtain ⟨⟨⟨c1, c2⟩, c3⟩, c4⟩ := c1
  obtain ⟨l, z, pre, post, hz, ez⟩ := parent_of u hd hy c1
  have hpar := hz.par hd ez
  have hzy : z ∉ every y := fun hm => hd.notin hz.mem (everyL_sub (kid_mem (by rw [← ez]; simp)) z hm)
  have hout : outM z.kids pre.length = pre ++ post := by rw [← ez]; exact outM_mid pre post y
  simp only [hfy] at hM c3 c4
  refine ⟨z, l, pre, post, ?_⟩
  generalize (oneM (idsM u x.to)).1 = t at hM eq c2 c3 c4
  have hfq : findM u t = (q, true) := by obtain ⟨lq, hlq⟩ := path_of u q hq; rw [eq]; exact hlq.find hd
  by_cases hty : t = y.id
  · -- the unit stays
    have hv : M.1 = u := by
      rw [hM]
      repeat' split
      all_goals first | rfl | contradiction
    rw [hv]
    obtain ⟨hd1, hp1⟩ := removed hd hz ez hz hzy
    rw [updM_hit _ rfl] at hp1
    exact ⟨{ z1 := hz, e1 := ez, p := _, lp := l, pre1 := pre, post1 := post, z2 := hp1, e2 := rfl
             ev := by rw [ez]; exact (back_upd hd hz _).symm
             name := hB.good.name hz.mem ez
             deep := by have := (hz.kid (k := y) (by rw [← ez]; simp)).depth; have := hB.depth; rw [List.length_append, List.length_singleton] at *; omega }⟩
  -- the place where it goes
  have hqy : q ∉ every y := fun hm => by
    obtain ⟨w, hw⟩ := path_of y q hm
    have h1 := hw.len (hd.at hly)
    rw [← eq] at h1
    rw [h1] at c3 c4
    have h2 : w = [] := List.length_eq_zero_iff.1 (by omega)
    subst h2
    cases hw
    exact hty eq
  obtain ⟨p, lp, hp, hpy, hP, hD⟩ : ∃ p lp, Path u lp p ∧ p ∉ every y ∧ (if besM x.wh = true then (parM t u).1 else (findM u t).1) = p ∧ (if besM x.wh = true then (parM t u).2.1 else ((wayM t u).length : Int) - 1) = lp.length := by
    rcases hb : besM x.wh with _ | _
    · obtain ⟨lq, hlq⟩ := path_of u q hq
      exact ⟨q, lq, hlq, hqy, by rw [if_neg (by simp), hfq], by rw [if_neg (by simp), eq, hlq.len hd]; omega⟩
    · obtain ⟨lp, p, preq, postq, hp, epq⟩ := parent_of u hd hq (by rw [← eq]; exact c2 hb)
      have hparq := hp.par hd epq
      rw [← eq] at hparq
      exact ⟨p, lp, hp, fun hm => hqy (every_sub hm q (below_mem (kid_mem (by rw [← epq]; simp)))), by simp [hparq], by simp [hparq]⟩
  simp only [hP, hD, hpar, hout, Int.toNat_natCast, hty, if_false] at hM
  obtain ⟨hd1, hp1⟩ := removed hd hz ez hp hpy
  have hu1 : withM { z with kids := pre ++ post } u = updM z.id (fun _ => pre ++ post) u := withM_upd u z hd hz.mem _
  have hf1 : findM (updM z.id (fun _ => pre ++ post) u) p.id = (updM z.id (fun _ => pre ++ post) p, true) := by have := hp1.find hd1; rwa [updM_id] at this
  obtain ⟨kids, hkids⟩ : ∃ kids, (if z.id = p.id then outM p.kids pre.length else p.kids) = kids := ⟨_, rfl⟩
  rw [hkids] at hM
  split at hM
  · rw [hM] at hx; simp at hx
  split at hM
  · rw [hM] at hx; simp at hx
  rename_i c6
  split at hM
  · rw [hM] at hx; simp at hx
  rename_i c7
  rw [hu1, hf1] at hM
  simp only at hM
  obtain ⟨k, hk⟩ : ∃ k : Nat, M = (withM { updM z.id (fun _ => pre ++ post) p with kids := insL (updM z.id (fun _ => pre ++ post) p).kids k y } (updM z.id (fun _ => pre ++ post) u), 0) := ⟨_, hM⟩
  have hnames : (updM z.id (fun _ => pre ++ post) p).kids.map stp = kids.map stp := by
    rw [← hkids]
    by_cases hzp : z.id = p.id
    · have := hd.eq hz.mem hp.mem hzp
      subst this
      rw [updM_hit _ rfl, if_pos rfl, hout]
    · rw [if_neg hzp, updM_miss _ (fun e => hzp e.symm)]
      exact updM_stps _ _ _
  refine ⟨{ z1 := hz, e1 := ez, p := _, lp := lp, pre1 := (updM z.id (fun _ => pre ++ post) p).kids.take k, post1 := (updM z.id (fun _ => pre ++ post) p).kids.drop k, z2 := hp1, e2 := List.take_append_drop _ _, ev := ?_, name := ?_, deep := ?_ }⟩
  · rw [hk]
    exact withM_upd _ _ hd1 hp1.mem _
  · rw [hnames]
    rw [takenM_iff] at c6
    simpa using c6
  · simp only [Bool.or_eq_true, decide_eq_true_eq, not_or] at c7
    omega
end
end Go.Ai

set_option linter.unusedVariables false
set_option linter.unusedSimpArgs false
set_option maxRecDepth 20000
set_option maxHeartbeats 1000000
namespace Go.Ai
open Go Go.Ai.Tryz
section
variable {u v y z : U} {m : Int} {l : List Step} {pre post : List U} (hB : BookT u m) (M : Moved u v y z l pre post)
include hB M
set_option linter.unusedSectionVars false
theorem Moved.y_at : Path u (l ++ [stp y]) y := M.z1.kid (by rw [← M.e1]; simp)
theorem Moved.hzy : z ∉ every y := fun hm => hB.dist.notin M.z1.mem (everyL_sub (kid_mem (by rw [← M.e1]; simp)) z hm)
theorem Moved.d1 : Distinct (updM z.id (fun _ => pre ++ post) u) := (removed hB.dist M.z1 M.e1 M.z1 (M.hzy hB)).1
theorem Moved.z1' : Path (updM z.id (fun _ => pre ++ post) u) l { z with kids := pre ++ post } := M.z1.here hB.dist _
theorem Moved.ny : ∀ i ∈ idsOf (every (updM z.id (fun _ => pre ++ post) u)), i ∉ idsOf (every y) := fun i hi => (removed_ids hB.dist M.z1 M.e1 i hi).2
theorem Moved.dy : Distinct y := hB.dist.at (M.y_at hB)
theorem Moved.add {w : U} {lw : List Step} (hw : Path (updM z.id (fun _ => pre ++ post) u) lw w) : Distinct v ∧ Path v lw (updM M.p.id (fun _ => M.pre1 ++ y :: M.post1) w) := by
  have := added (M.d1 hB) M.z2 M.e2 (M.dy hB) (M.ny hB) hw
  rwa [← M.ev] at this
theorem Moved.dv : Distinct v := (M.add hB M.z2).1
theorem Moved.pv : Path v M.lp { M.p with kids := M.pre1 ++ y :: M.post1 } := by have := (M.add hB M.z2).2; rwa [updM_hit _ rfl] at this
theorem Moved.yv : Path v (M.lp ++ [stp y]) y := (M.pv hB).kid (by simp)
theorem Moved.zv : Path v l (updM M.p.id (fun _ => M.pre1 ++ y :: M.post1) { z with kids := pre ++ post }) := (M.add hB (M.z1' hB)).2
theorem Moved.len : (every v).length = (every u).length := by
  have h1 := added_len (y := y) (M.d1 hB) M.z2 M.e2
  rw [← M.ev] at h1
  rw [h1]
  exact removed_len2 hB.dist M.z1 M.e1
theorem Moved.undo : updM M.p.id (fun _ => M.pre1 ++ M.post1) v = updM z.id (fun _ => pre ++ post) u := by
  have := back_upd (M.d1 hB) M.z2 (M.pre1 ++ y :: M.post1)
  rwa [← M.e2, ← M.ev] at this
theorem Moved.redo : updM z.id (fun _ => pre ++ y :: post) (updM z.id (fun _ => pre ++ post) u) = u := by
  rw [M.e1]; exact back_upd hB.dist M.z1 _
theorem Moved.good1 : GoodT (updM z.id (fun _ => pre ++ post) u) := hB.good.upd _ _ fun w hw ew => by
  have := hB.dist.eq hw M.z1.mem ew
  subst this
  have h0 := hB.good w hw
  unfold NodeOk at h0
  rw [← M.e1] at h0
  refine ⟨⟨fun k hk => h0.1 k ?_, h0.2.sublist ?_⟩, fun k hk => hB.good k ?_⟩
  · simp only [List.mem_append, List.mem_cons] at hk ⊢
    rcases hk with hk | hk <;> simp [hk]
  · rw [List.map_append, List.map_append]
    exact List.Sublist.append (.refl _) (List.sublist_cons_self _ _)
  · refine every_sub hw k (below_mem ?_)
    rw [← M.e1, everyL_split]
    rw [everyL_append, List.mem_append] at hk
    simp only [List.mem_append]
    rcases hk with hk | hk <;> simp [hk]
theorem Moved.good : GoodT v := by
  have g1 := M.good1 hB
  suffices key : GoodT (updM M.p.id (fun _ => M.pre1 ++ y :: M.post1) (updM z.id (fun _ => pre ++ post) u)) by rwa [← M.ev] at key
  refine g1.upd _ _ fun w hw ew => ?_
  have := (M.d1 hB).eq hw M.z2.mem ew
  have hn := M.name
  subst this
  have h0 := g1 _ hw
  unfold NodeOk at h0
  rw [← M.e2] at h0 hn
  refine ⟨⟨fun k hk => ?_, ?_⟩, fun k hk => ?_⟩
  · rcases List.mem_append.1 hk with hk | hk
    · exact h0.1 k (List.mem_append.2 (.inl hk))
    · rcases List.mem_cons.1 hk with rfl | hk
      · exact (hB.good z M.z1.mem).1 k (by rw [← M.e1]; simp)
      · exact h0.1 k (List.mem_append.2 (.inr hk))
  · have h2 := h0.2
    show ((M.pre1 ++ y :: M.post1).map stp).Nodup
    rw [List.map_append, List.mem_append, not_or] at hn
    rw [List.map_append, List.nodup_append] at h2
    rw [List.map_append, List.map_cons, List.nodup_append, List.nodup_cons]
    refine ⟨h2.1, ⟨hn.2, h2.2.1⟩, fun a ha b hb e => ?_⟩
    rcases List.mem_cons.1 hb with rfl | hb
    · exact hn.1 (by rw [← e]; exact ha)
    · exact h2.2.2 a ha b hb e
  · have hk' : k ∈ everyL (M.pre1 ++ y :: M.post1) := hk
    rw [everyL_split] at hk'
    simp only [List.mem_append] at hk'
    rcases hk' with hk' | hk' | hk'
    · exact g1 k (every_sub hw k (below_mem (by rw [← M.e2, everyL_append]; exact List.mem_append.2 (.inl hk'))))
    · exact hB.good k ((M.y_at hB).sub k hk')
    · exact g1 k (every_sub hw k (below_mem (by rw [← M.e2, everyL_append]; exact List.mem_append.2 (.inr hk'))))
theorem Moved.zv_same (h : z.id = M.p.id) : M.pre1 ++ M.post1 = pre ++ post ∧ updM M.p.id (fun _ => M.pre1 ++ y :: M.post1) { z with kids := pre ++ post } = { M.p with kids := M.pre1 ++ y :: M.post1 } := by
  have e := (M.d1 hB).eq (M.z1' hB).mem M.z2.mem h
  refine ⟨by rw [M.e2, ← e], ?_⟩
  rw [updM_hit _ (by exact h)]
  rw [← e]
theorem Moved.zv_diff (h : z.id ≠ M.p.id) : (updM M.p.id (fun _ => M.pre1 ++ y :: M.post1) { z with kids := pre ++ post }).kids = (pre ++ post).map (updM M.p.id (fun _ => M.pre1 ++ y :: M.post1)) := by
  rw [updM_miss _ (by exact h)]
theorem Moved.sib {q : U} {ps : List U} (e : post = q :: ps) : ∃ a q' b, a ++ q' :: b = (updM M.p.id (fun _ => M.pre1 ++ y :: M.post1) { z with kids := pre ++ post }).kids ∧ q'.id = q.id ∧ stp q' = stp q ∧ (z.id ≠ M.p.id → a.length = pre.length) ∧
    (z.id = M.p.id → (M.pre1.length ≤ pre.length ∧ a.length = pre.length + 1) ∨ (pre.length < M.pre1.length ∧ a.length = pre.length)) := by
  subst e
  by_cases h : z.id = M.p.id
  · obtain ⟨h1, h2⟩ := M.zv_same hB h
    rw [h2]
    rcases List.append_eq_append_iff.1 h1 with ⟨c, e1, e2⟩ | ⟨c, e1, e2⟩
    · refine ⟨M.pre1 ++ y :: c, q, ps, ?_, rfl, rfl, fun h' => absurd h h', fun _ => ?_⟩
      · show _ = M.pre1 ++ y :: M.post1
        rw [e2]; simp
      · have e3 := congrArg List.length e1
        simp only [List.length_append] at e3
        exact .inl ⟨by omega, by simp; omega⟩
    · rcases c with _ | ⟨q2, c⟩
      · simp at e1 e2
        refine ⟨M.pre1 ++ [y], q, ps, ?_, rfl, rfl, fun h' => absurd h h', fun _ => ?_⟩
        · show _ = M.pre1 ++ y :: M.post1
          rw [← e2]; simp
        · exact .inl ⟨by rw [e1]; exact Nat.le_refl _, by rw [e1]; simp⟩
      · simp at e2
        obtain ⟨rfl, e2⟩ := e2
        refine ⟨pre, q, c ++ y :: M.post1, ?_, rfl, rfl, fun h' => absurd h h', fun _ => ?_⟩
        · show _ = M.pre1 ++ y :: M.post1
          rw [e1]; simp
        · exact .inr ⟨by rw [e1]; simp, rfl⟩
  · refine ⟨pre.map (updM M.p.id (fun _ => M.pre1 ++ y :: M.post1)), updM M.p.id (fun _ => M.pre1 ++ y :: M.post1) q, ps.map (updM M.p.id (fun _ => M.pre1 ++ y :: M.post1)), ?_, updM_id _ _ _, updM_stp _ _ _, fun _ => by simp, fun h' => absurd h' h⟩
    rw [M.zv_diff hB h]; simp
theorem Moved.names : takenM (if M.p.id = z.id then M.pre1 ++ M.post1 else (updM M.p.id (fun _ => M.pre1 ++ y :: M.post1) { z with kids := pre ++ post }).kids) y.kind y.label = false ∧
    (if M.p.id = z.id then M.pre1 ++ M.post1 else (updM M.p.id (fun _ => M.pre1 ++ y :: M.post1) { z with kids := pre ++ post }).kids).length ≤ 63 := by
  have hn := hB.good.name M.z1.mem M.e1
  have hal := (right_at u hB.right z M.z1.mem).1
  have h64 : z.kids.length ≤ 64 := by
    unfold aloneM at hal
    split at hal
    · cases hal
    · omega
  rw [← M.e1] at h64
  simp only [List.length_append, List.length_cons] at h64
  rw [takenM_iff]
  split
  · rename_i h
    rw [(M.zv_same hB h.symm).1]
    exact ⟨by simpa using hn, by simp; omega⟩
  · rename_i h
    rw [M.zv_diff hB (fun e => h e.symm), updM_stps]
    exact ⟨by simpa using hn, by simp; omega⟩
end
end Go.Ai
