/- A part of the proof: no statement of the seat is proved in this text. -/
import Derived.Test.YtdmhbplibcolbaaGreatN12
set_option linter.unusedVariables false
set_option linter.unusedSimpArgs false
set_option maxRecDepth 20000
set_option maxHeartbeats 1000000
namespace Go.Ai
open Go Go.Ai.Tryz
theorem nil_or {α : Type} (l : List α) : l = [] ∨ ∃ q ps, l = q :: ps := by cases l; exact .inl rfl; exact .inr ⟨_, _, rfl⟩
def mvIt (a t : List Step) (w : Int) : It := ⟨6, a, t, w, 0, zeroU, [], [], ByteArray.empty, ByteArray.empty, 0, 0, ByteArray.empty, 0, 0, 0, ByteArray.empty, []⟩
theorem mvIt_may {a t : List Step} {w : Int} (ha : addrOk' a = true) (ht : addrOk' t = true) (hw : w = 1 ∨ w = 3) : mayIt (mvIt a t w) = true := by
  rw [mayIt_eq]
  have h1 : toldM (mvIt a t w) = mvIt a t w := rfl
  have h2 : sameIt (mvIt a t w) (mvIt a t w) = true := by rw [sameIt_eq, sameH_self, sameR_self]; rfl
  unfold mayB
  rw [h1, h2]
  have h3 : startOk 0 0 ByteArray.empty = true := by decide
  have h4 : inM w 0 3 = true := by rcases hw with rfl | rfl <;> rfl
  simp only [mvIt, ha, ht, h3, h4]
  rfl
section
variable {u v y z : U} {m : Int} {l : List Step} {pre post : List U} (hB : BookT u m) (M : Moved u v y z l pre post)
include hB M
set_option linter.unusedSectionVars false
theorem Moved.vid : v.id = u.id := by
  have h : v.id = (updM M.p.id (fun _ => M.pre1 ++ y :: M.post1) (updM z.id (fun _ => pre ++ post) u)).id := congrArg U.id M.ev
  rw [h, updM_id, updM_id]
theorem Moved.yne : y.id ≠ u.id := fun e => by
  have h := M.y_at hB
  have := hB.dist.eq h.mem (self_mem u) e
  subst this
  have := path_unique hB.dist h (.nil y)
  simp at this
theorem Moved.other {w : U} {lw : List Step} (hw : Path v lw w) (h : w ∉ every y) : wayM w.id y = [] := wayM_off _ _ fun hm => by
  obtain ⟨x, hx, ex⟩ := List.mem_map.1 hm
  have := (M.dv hB).eq ((M.yv hB).sub x hx) hw.mem ex
  subst this; exact h hx
theorem Moved.zv_y : updM M.p.id (fun _ => M.pre1 ++ y :: M.post1) { z with kids := pre ++ post } ∉ every y := fun hm => by
  have h1 := M.ny hB _ (idsOf_mem (M.z1' hB).mem)
  exact h1 (by have := idsOf_mem hm; rwa [updM_id] at this)
theorem Moved.depth1 : l.length + 1 + depthM y ≤ 8 := by
  have := (M.y_at hB).depth; have := hB.depth; rw [List.length_append, List.length_singleton] at *; omega
theorem Moved.nest : nestsM z.kind y.kind = true := ((rightL_facts (right_at u hB.right z M.z1.mem).2).1 y (by rw [← M.e1]; simp)).1
theorem Moved.back {t p : U} {lt : List Step} {w : Int} {zv : U} (ez : zv = updM M.p.id (fun _ => M.pre1 ++ y :: M.post1) { z with kids := pre ++ post }) (ht : Path v lt t) (hlt : lt.length ≤ 8) (hty : t ∉ every y)
    (hp : (w = 1 ∧ t = zv ∧ post = []) ∨ (w = 3 ∧ ∃ a b ps q, a ++ t :: b = zv.kids ∧ post = q :: ps ∧ q.id = t.id)) :
    moveM v y.id (mvIt (bookStep :: (M.lp ++ [stp y])) (bookStep :: lt) w) = (u, 0) := by
  have hd := M.dv hB
  have hzv : Path v l zv := by rw [ez]; exact M.zv hB
  have hone : oneM (idsM v (bookStep :: lt)) = (t.id, 0) := by rw [ht.one hd (M.good hB) hlt]; rfl
  have hway : wayM t.id y = [] := M.other hB ht hty
  have hpar := (M.pv hB).par hd (show M.pre1 ++ y :: M.post1 = U.kids { M.p with kids := M.pre1 ++ y :: M.post1 } from rfl)
  have htne : t.id ≠ y.id := fun e => hty (by have := hd.eq ht.mem (M.yv hB).mem e; subst this; exact self_mem _)
  have hP : (if besM w = true then (parM t.id v).1 else (findM v t.id).1) = zv ∧ (if besM w = true then (parM t.id v).2.1 else ((wayM t.id v).length : Int) - 1) = l.length := by
    rcases hp with ⟨rfl, rfl, -⟩ | ⟨rfl, a, b, -, -, e, -, -⟩
    · rw [if_neg (by decide), if_neg (by decide), hzv.find hd, hzv.len hd]
      exact ⟨rfl, by omega⟩
    · rw [if_pos (by decide), if_pos (by decide), hzv.par hd e]
      exact ⟨rfl, rfl⟩
  have hbad : besM w = true → t.id ≠ u.id := fun hb => by
    rcases hp with ⟨rfl, -, -⟩ | ⟨rfl, a, b, -, -, e, -, -⟩
    · exact absurd hb (by decide)
    · have h1 := hzv.kid (k := t) (by rw [← e]; simp)
      intro e2
      have := hd.eq h1.mem (self_mem v) (by rw [e2, M.vid hB])
      subst this
      have := path_unique hd h1 (.nil t)
      simp at this
  have hzid : zv.id = z.id := by rw [ez, updM_id]
  have hkind : zv.kind = z.kind := by have := updM_stp M.p.id (fun _ => M.pre1 ++ y :: M.post1) { z with kids := pre ++ post }; rw [← ez] at this; exact congrArg Step.kind this
  have hnm := M.names hB
  rw [← ez] at hnm
  have hdep := M.depth1 hB
  have hk : (if M.p.id = zv.id then outM zv.kids M.pre1.length else zv.kids) = (if M.p.id = z.id then M.pre1 ++ M.post1 else zv.kids) := by
    rw [hzid]
    by_cases h : M.p.id = z.id
    · rw [if_pos h, if_pos h, ez, (M.zv_same hB h.symm).2]
      exact outM_mid _ _ _
    · rw [if_neg h, if_neg h]
  have hu1 : withM { M.p with kids := M.pre1 ++ M.post1 } v = updM z.id (fun _ => pre ++ post) u := by
    have := withM_upd v { M.p with kids := M.pre1 ++ y :: M.post1 } hd (M.pv hB).mem (M.pre1 ++ M.post1)
    rw [show U.id { M.p with kids := M.pre1 ++ y :: M.post1 } = M.p.id from rfl, M.undo hB] at this
    exact this
  have hf1 : findM (updM z.id (fun _ => pre ++ post) u) zv.id = ({ z with kids := pre ++ post }, true) := by rw [hzid]; exact (M.z1' hB).find (M.d1 hB)
  have hins : ∀ k : Nat, k = pre.length → withM { z with kids := insL (pre ++ post) k y } (updM z.id (fun _ => pre ++ post) u) = u := fun k hk => by
    subst hk
    rw [insL_mid]
    have := withM_upd (updM z.id (fun _ => pre ++ post) u) { z with kids := pre ++ post } (M.d1 hB) (M.z1' hB).mem (pre ++ y :: post)
    rw [show U.id { z with kids := pre ++ post } = z.id from rfl, M.redo hB] at this
    exact this
  unfold moveM
  have hto : (mvIt (bookStep :: (M.lp ++ [stp y])) (bookStep :: lt) w).to = bookStep :: lt := rfl
  have hwh : (mvIt (bookStep :: (M.lp ++ [stp y])) (bookStep :: lt) w).wh = w := rfl
  have hoM : outM (M.pre1 ++ y :: M.post1) M.pre1.length = M.pre1 ++ M.post1 := outM_mid _ _ _
  simp only [hto, hwh, hone, (M.yv hB).find hd, hway, hP.1, hP.2, hpar, Int.toNat_natCast, hk, hnm.1, hoM, hu1, hf1, hkind, M.nest hB, htne, if_false, if_true]
  rw [if_neg (by
    simp only [M.vid hB, M.yne hB, List.length_nil, decide_false, Bool.false_or, Bool.or_eq_true, Bool.and_eq_true, decide_eq_true_eq, not_or, not_and]
    exact ⟨⟨hbad, by simp⟩, by simp⟩), if_neg (by simp), if_neg (by simp), if_neg (by
    simp only [Bool.or_eq_true, decide_eq_true_eq, not_or]
    have := hnm.2
    exact ⟨by omega, by omega⟩)]
  rcases hp with ⟨rfl, rfl, hpo⟩ | ⟨rfl, a, b, ps, q, e, hpo, eq⟩
  · rw [if_neg (by decide), if_neg (by decide), hins _ (by rw [hpo]; simp)]
  · rw [if_pos (by decide), if_neg (by decide), hins]
    have : atM (pre ++ post) t.id 0 = (pre.length : Int) := by
      rw [hpo, ← eq]
      refine atM_hit (fun x hx ex => ?_) rfl
      have hap := hB.dist.mem M.z1.mem
      have h2 := hap.apart (show (pre ++ [y]) ++ q :: ps = z.kids by rw [← M.e1, hpo]; simp) (self_mem q)
      exact h2.1 x (by simp [hx]) (by rw [← ex]; exact idsOf_mem (self_mem x))
    rw [this]; simp
theorem Moved.dest {t : U} {lt : List Step} {w : Int} {zv : U} (ez : zv = updM M.p.id (fun _ => M.pre1 ++ y :: M.post1) { z with kids := pre ++ post }) (ht : Path v lt t) (hlt : lt.length ≤ 8) (hty : t ∉ every y)
    (hp : (w = 1 ∧ t = zv ∧ post = []) ∨ (w = 3 ∧ ∃ a b, a ++ t :: b = zv.kids ∧ (z.id ≠ M.p.id → a.length = pre.length) ∧ (z.id = M.p.id → (M.pre1.length ≤ pre.length ∧ a.length = pre.length + 1) ∨ (pre.length < M.pre1.length ∧ a.length = pre.length)))) :
    destM v (mvIt (bookStep :: (M.lp ++ [stp y])) (bookStep :: lt) w) = (z.id, (pre.length : Int), 0) := by
  have hd := M.dv hB
  have hzv : Path v l zv := by rw [ez]; exact M.zv hB
  have hone : oneM (idsM v (bookStep :: lt)) = (t.id, 0) := by rw [ht.one hd (M.good hB) hlt]; rfl
  have hone' : oneM (idsM v (bookStep :: (M.lp ++ [stp y]))) = (y.id, 0) := by rw [(M.yv hB).one hd (M.good hB) (by have := M.deep; simp; omega)]; rfl
  have hpar : parentM v y.id = (M.p.id, (M.pre1.length : Int), true) := (M.pv hB).parent hd (show M.pre1 ++ y :: M.post1 = U.kids { M.p with kids := M.pre1 ++ y :: M.post1 } from rfl)
  have htne : t.id ≠ y.id := fun e => hty (by have := hd.eq ht.mem (M.yv hB).mem e; subst this; exact self_mem _)
  have hbel : belowM v y.id t.id = false := by
    have : y.id ∉ ancM v t.id := fun hm => by
      unfold ancM at hm
      rw [List.mem_reverse] at hm
      obtain ⟨x, hx, ex⟩ := List.mem_map.1 hm
      have h1 := (List.dropLast_sublist _).subset hx
      have h2 := ht.way_has hd x h1
      have := hd.eq (wayM_mem _ _ x h1) (M.yv hB).mem ex
      subst this; exact hty h2
    simp [belowM, this]
  have hzid : zv.id = z.id := by rw [ez, updM_id]
  have hlead : leadM w v t.id = (z.id, (if z.id = M.p.id then (pre.length : Int) + (if M.pre1.length ≤ pre.length then 1 else 0) else pre.length), 0) := by
    unfold leadM
    rcases hp with ⟨rfl, rfl, hpo⟩ | ⟨rfl, a, b, e, e1, e2⟩
    · rw [if_neg (by decide), if_pos rfl, hzv.find hd, hzid]
      by_cases h : z.id = M.p.id
      · obtain ⟨h1, h2⟩ := M.zv_same hB h
        have h3 := congrArg List.length h1
        have h4 : post.length = 0 := by rw [hpo]; rfl
        simp only [List.length_append] at h3
        rw [if_pos h, if_pos (by omega), ez, h2]
        simp; omega
      · have h4 : post.length = 0 := by rw [hpo]; rfl
        rw [if_neg h, ez, M.zv_diff hB h]
        simp only [List.length_map, List.length_append, h4, Nat.add_zero]
    · rw [if_neg (by decide), if_neg (by decide), hzv.parent hd e, hzid]
      simp only [if_true]
      by_cases h : z.id = M.p.id
      · have h5 := e2 h
        have h6 : (a.length : Int) = pre.length + (if M.pre1.length ≤ pre.length then 1 else 0) := by split <;> omega
        rw [if_pos h, h6]; simp
      · rw [if_neg h, e1 h]; simp
  have hgo : goesM v y.id t.id w = (z.id, (pre.length : Int), 0) := by
    unfold goesM
    rw [hpar, hbel, hlead]
    simp only [htne, decide_false, Bool.not_true, Bool.false_or, Bool.false_and, Bool.false_eq_true, if_false, decide_true, Bool.true_and]
    by_cases h : z.id = M.p.id
    · simp only [h, if_true, decide_true, Bool.true_and]
      by_cases h2 : M.pre1.length ≤ pre.length
      · simp only [h2, if_true]
        rw [if_pos (by simp; omega)]; simp
      · simp only [h2, if_false]
        rw [if_neg (by simp; omega)]; simp
    · simp [h]
  have hto : (mvIt (bookStep :: (M.lp ++ [stp y])) (bookStep :: lt) w).to = bookStep :: lt := rfl
  have hat : (mvIt (bookStep :: (M.lp ++ [stp y])) (bookStep :: lt) w).at' = bookStep :: (M.lp ++ [stp y]) := rfl
  have hwh : (mvIt (bookStep :: (M.lp ++ [stp y])) (bookStep :: lt) w).wh = w := rfl
  have hki : (mvIt (bookStep :: (M.lp ++ [stp y])) (bookStep :: lt) w).kind = 6 := rfl
  unfold destM
  rw [hki, hwh, hto, hat, hone, hone']
  have hw3 : 0 ≤ w ∧ w ≤ 3 := by rcases hp with ⟨rfl, _⟩ | ⟨rfl, _⟩ <;> decide
  simp [hgo, hw3.1, hw3.2]
theorem Moved.whole : ∃ (t : U) (lt : List Step) (w : Int), Path v lt t ∧ ((post = [] ∧ t.id = z.id ∧ w = 1) ∨ ∃ q ps, post = q :: ps ∧ t.id = q.id ∧ w = 3) ∧
    destM v (mvIt (bookStep :: (M.lp ++ [stp y])) (bookStep :: lt) w) = (z.id, (pre.length : Int), 0) ∧ doMv v (mvIt (bookStep :: (M.lp ++ [stp y])) (bookStep :: lt) w) = (u, 0) := by
  have hd := M.dv hB
  have hg := M.good hB
  have key : ∀ (t : U) (lt : List Step) (w : Int), Path v lt t → lt.length ≤ 8 → (w = 1 ∨ w = 3) → moveM v y.id (mvIt (bookStep :: (M.lp ++ [stp y])) (bookStep :: lt) w) = (u, 0) → doMv v (mvIt (bookStep :: (M.lp ++ [stp y])) (bookStep :: lt) w) = (u, 0) := by
    intro t lt w ht hlt hw hm
    have h8 : (M.lp ++ [stp y]).length ≤ 8 := by have := M.deep; simp; omega
    have ok : ∀ {x : U} {k : List Step}, Path v k x → k.length ≤ 8 → addrOk' (bookStep :: k) = true := fun {x k} hx hk => by
      unfold addrOk'
      rw [show okFrom true (bookStep :: k) = (((true && isBook bookStep) || stepOk bookStep) && okFrom false k) from rfl, show isBook bookStep = true by decide, hx.stepsOk hg]
      simp; omega
    have hone' : oneM (idsM v (bookStep :: (M.lp ++ [stp y]))) = (y.id, 0) := by rw [(M.yv hB).one hd hg h8]; rfl
    unfold doMv
    rw [mvIt_may (ok (M.yv hB) h8) (ok ht hlt) hw, if_neg (by simp)]
    have hat : (mvIt (bookStep :: (M.lp ++ [stp y])) (bookStep :: lt) w).at' = bookStep :: (M.lp ++ [stp y]) := rfl
    rw [hat, hone', if_pos rfl]
    exact hm
  have hdep := M.depth1 hB
  rcases nil_or post with hpo | ⟨q, ps, hpo⟩
  · refine ⟨_, l, 1, M.zv hB, .inl ⟨hpo, updM_id _ _ _, rfl⟩, ?_, ?_⟩
    · have := M.dest hB rfl (M.zv hB) (by omega) (M.zv_y hB) (.inl ⟨rfl, rfl, hpo⟩); exact this
    · exact key _ _ _ (M.zv hB) (by omega) (.inl rfl) (M.back hB rfl (M.zv hB) (by omega) (M.zv_y hB) (p := z) (.inl ⟨rfl, rfl, hpo⟩))
  · obtain ⟨a, q', b, e, hid, hst, e1, e2⟩ := M.sib hB hpo
    have hq' : Path v (l ++ [stp q']) q' := (M.zv hB).kid (by rw [← e]; simp)
    have hqy : q' ∉ every y := fun hm => by
      have hq1 : Path (updM z.id (fun _ => pre ++ post) u) (l ++ [stp q]) q := (M.z1' hB).kid (by rw [hpo]; simp)
      exact M.ny hB q.id (idsOf_mem hq1.mem) (by rw [← hid]; exact idsOf_mem hm)
    have hl : (l ++ [stp q']).length ≤ 8 := by simp; omega
    refine ⟨q', l ++ [stp q'], 3, hq', .inr ⟨q, ps, hpo, hid, rfl⟩, ?_, ?_⟩
    · exact M.dest hB rfl hq' hl hqy (.inr ⟨rfl, a, b, e, e1, e2⟩)
    · exact key _ _ _ hq' hl (.inr rfl) (M.back hB rfl hq' hl hqy (p := z) (.inr ⟨rfl, a, b, ps, q, e, hpo, hid.symm⟩))
end
end Go.Ai

set_option linter.unusedVariables false
set_option linter.unusedSimpArgs false
set_option maxRecDepth 20000
set_option maxHeartbeats 1000000
namespace Go.Ai
open Go Go.Ai.Tryz
theorem ACalls.weak {P : Program} {w0 : World} {f : FuncId} {args args' : List AV} {H : AH} {Q : AV → AH → Prop} (hl : args.length = args'.length) (hw : ∀ (j : Nat) (c d : AV), args[j]? = some c → args'[j]? = some d → c.Weak d) (h : ACalls P w0 f args' H Q) : ACalls P w0 f args H Q :=
  ⟨h.fn, fun G w vs hS hr => h.run G w vs hS ⟨by rw [← hl]; exact hr.1, fun j d v h1 h2 => by
    have hj : j < args.length := by rw [hl]; exact (List.getElem?_eq_some_iff.1 h1).1
    exact hw j _ d (List.getElem?_eq_getElem hj) h1 G v (hr.2 j _ v (List.getElem?_eq_getElem hj) h2)⟩⟩
theorem ACalls.weak2 {P : Program} {w0 : World} {f : FuncId} {a b b' : AV} {H : AH} {Q : AV → AH → Prop} (hw : b.Weak b') (h : ACalls P w0 f [a, b'] H Q) : ACalls P w0 f [a, b] H Q :=
  .weak (args' := [a, b']) rfl (fun j c d h1 h2 => by
    match j with
    | 0 => simp at h1 h2; subst h1; subst h2; exact .refl _
    | 1 => simp at h1 h2; subst h1; subst h2; exact hw
    | j + 2 => simp at h1) h
theorem small_upd {u : U} (h : small (every u)) (i : Id) (f : List U → List U) (hf : ∀ z ∈ every u, z.id = i → small (everyL (f z.kids))) : small (every (updM i f u)) := by
  intro w hw
  obtain ⟨z, hz, ⟨h1, rfl⟩ | ⟨h1, rfl | h2⟩⟩ := upd_mem i f u w hw
  · rw [updM_miss f h1]; exact h z hz
  · exact h z hz
  · exact hf z hz h1 w h2
theorem Moved.small_v {u v y z : U} {m : Int} {l : List Step} {pre post : List U} (hB : BookT u m) (M : Moved u v y z l pre post) : small (every v) := by
  have h1 : small (every (updM z.id (fun _ => pre ++ post) u)) := small_upd hB.small _ _ fun w hw ew x hx => hB.small x (by
    refine M.z1.sub x (below_mem ?_)
    rw [← M.e1, everyL_split]
    rw [everyL_append, List.mem_append] at hx
    simp only [List.mem_append]
    rcases hx with hx | hx <;> simp [hx])
  suffices key : small (every (updM M.p.id (fun _ => M.pre1 ++ y :: M.post1) (updM z.id (fun _ => pre ++ post) u))) by rwa [← M.ev] at key
  refine small_upd h1 _ _ fun w hw ew x hx => ?_
  rw [everyL_split] at hx
  simp only [List.mem_append] at hx
  have hpk : ∀ x ∈ everyL M.p.kids, x ∈ every (updM z.id (fun _ => pre ++ post) u) := fun x hx => M.z2.sub x (below_mem hx)
  rcases hx with hx | hx | hx
  · exact h1 x (hpk x (by rw [← M.e2, everyL_append]; exact List.mem_append.2 (.inl hx)))
  · exact hB.small x ((M.y_at hB).sub x hx)
  · exact h1 x (hpk x (by rw [← M.e2, everyL_append]; exact List.mem_append.2 (.inr hx)))
theorem mvIt_few (a t : List Step) (w : Int) (ha : a.length ≤ 1000) (ht : t.length ≤ 1000) : fewIt (mvIt a t w) := by
  rw [fewIt_eq]
  refine ⟨⟨ha, ht, by simp [mvIt], by simp [mvIt], by simp [mvIt], ?_, ?_, by simp [mvIt], by simp [mvIt], ⟨Nat.zero_le _, Nat.zero_le _, Nat.zero_le _, Nat.zero_le _⟩⟩, ?_⟩
  · show (every zeroU).length ≤ 30; decide
  · intro x hx
    have : x = zeroU := by simpa [mvIt, zeroU, every, everyL] using hx
    subst this; decide
  · show fewIts []; simp [fewIts]
end Go.Ai
namespace Go.Ai.Tryz
open Go Go.Ai Go.Proofs
variable {w0 : World}
theorem spec3 (u : U) (d : De) (H : AH) (Q : AV → AH → Prop) (h : Q (.bool true) H) : ACalls Tryz.prog w0 3 [eU u, eD d] H Q := by
  refine enter3 (by simp) fun hwf hok R hR hR0 => ?_
  have fin : ∀ env' H', look 4 env' = .bool true → H.Sub H' → R .ret env' H' := fun env' H' h1 h3 => ret1 hR h h1 h3 rfl
  unfold x3
  simp only [go_sem, U.cs, It.cs]
  refine spec4 u 30 (by omega) _ _ ?_
  rcases c0 : bookB u 30 with _ | _
  · simp only [go_sem, Bool.not_false]; exact fin _ _ (by simp only [go_sem]) (by repeat' first | exact .refl hwf | apply AH.Sub.push | apply AH.Sub.pushTok)
  have hB := bookB_t c0
  have hb : (every u).length ≤ 1000 := by have := hB.few; omega
  simp only [go_sem, Bool.not_true]
  refine spec5 d.it _ _ fun b hf => ?_
  cases b
  · simp only [go_sem, Bool.not_false]; exact fin _ _ (by simp only [go_sem]) (by repeat' first | exact .refl hwf | apply AH.Sub.push | apply AH.Sub.pushTok)
  simp only [go_sem, Bool.not_true]
  refine spec6 d.it (hf rfl) _ _ ?_
  rcases c1 : mayIt d.it with _ | _
  · simp only [go_sem, Bool.not_false]; exact fin _ _ (by simp only [go_sem]) (by repeat' first | exact .refl hwf | apply AH.Sub.push | apply AH.Sub.pushTok)
  simp only [go_sem, Bool.not_true]
  rcases c2 : decide (d.it.kind = 6) with _ | _
  · simp only [go_sem, c2, Bool.not_false]; exact fin _ _ (by simp only [go_sem]) (by repeat' first | exact .refl hwf | apply AH.Sub.push | apply AH.Sub.pushTok)
  simp only [go_sem, c2, Bool.not_true]
  refine spec7m u d hb hB.dist (hf rfl) (by simpa using c2) _ _ ?_
  rcases c3 : decide ((doMv u d.it).2 = 0) with _ | _
  · simp only [go_sem, c3, Bool.not_false]; exact fin _ _ (by simp only [go_sem]) (by repeat' first | exact .refl hwf | apply AH.Sub.push | apply AH.Sub.pushTok)
  simp only [decide_eq_true_eq] at c3
  have c4 : (oneM (idsM u d.it.at')).2 = 0 := by
    unfold doMv at c3
    rw [c1, if_neg (by simp)] at c3
    by_cases e : (oneM (idsM u d.it.at')).2 = 0
    · exact e
    · rw [if_neg e] at c3; exact absurd c3 e
  obtain ⟨y, hy, ey⟩ := oneM_at c4
  have hdo : doMv u d.it = moveM u y.id d.it := by unfold doMv; rw [c1, if_neg (by simp), if_pos c4, ey]
  rw [hdo] at c3 ⊢
  obtain ⟨z, l, pre, post, ⟨M⟩⟩ := move_moved hB hy c3
  generalize (moveM u y.id d.it).1 = v at M ⊢
  obtain ⟨t, lt, w, ht, htw, hdest, hback⟩ := M.whole hB
  have hbv : (every v).length ≤ 1000 := by rw [M.len hB]; exact hb
  have hpar : parentM u y.id = (z.id, (pre.length : Int), true) := M.z1.parent hB.dist M.e1
  have hfz := M.z1.find hB.dist
  have hwy := (M.yv hB).whole (M.dv hB)
  have hwt := ht.whole (M.dv hB)
  have hwz : wholeM v z.id = bookStep :: l := by have := (M.zv hB).whole (M.dv hB); rwa [updM_id] at this
  have hlen : (pre.length : Int) + 1 ≤ 1000 := by
    have h1 := congrArg List.length M.e1
    have := len_everyL z.kids; have := every_len_le M.z1; rw [every_eq, List.length_cons] at this
    simp only [List.length_append, List.length_cons] at h1
    omega
  have hw1 : IntKind.i64.wrap ((pre.length : Int) + 1) = pre.length + 1 := wrap_i64.2 (by omega)
  simp only [go_sem, c3, Bool.not_true]
  refine spec8 u d.it hb _ _ ?_
  simp only [go_sem, ey]
  refine spec9 u y.id hb _ _ ?_
  simp only [go_sem, hpar]
  refine spec10 u z.id hb _ _ ?_
  simp only [go_sem, hfz]
  refine spec11 v y.id hbv _ _ ?_
  simp only [go_sem, hwy]
  refine spec11 v z.id hbv _ _ ?_
  simp only [go_sem, hwz, hw1]
  have hsame : sameU u u = true := sameU_self u
  have hmw : ∀ (from' to : List Step) (w : Int), (AV.agg [.int .i64 6, .slice (from'.map eS), .slice (to.map eS), .int .i64 w, .int .i64 0, .int .i64 0, .int .i64 0, .int .i64 0, .int .i64 0, .str ByteArray.empty, .nilS, .nilS, .nilS, .nilS, .nilS, .str ByteArray.empty, .str ByteArray.empty, .int .i64 0, .int .i64 0, .str ByteArray.empty, .int .i64 0, .int .i64 0, .int .i64 0, .str ByteArray.empty, .nilS]).Weak (eIt (mvIt from' to w)) := fun a t w => by
    rw [eIt_eq]; exact AV.Weak.cells _
  have hmd : ∀ (from' to : List Step) (w : Int), (AV.agg [.int .i64 0, .int .i64 0, .int .i64 0, .int .i64 6, .slice (from'.map eS), .slice (to.map eS), .int .i64 w, .int .i64 0, .int .i64 0, .int .i64 0, .int .i64 0, .int .i64 0, .str ByteArray.empty, .nilS, .nilS, .nilS, .nilS, .nilS, .str ByteArray.empty, .str ByteArray.empty, .int .i64 0, .int .i64 0, .str ByteArray.empty, .int .i64 0, .int .i64 0, .int .i64 0, .str ByteArray.empty, .nilS]).Weak (eD ⟨0, 0, 0, mvIt from' to w⟩) := fun a t w => AV.Weak.cells _
  have hz2 : z.kids.length = pre.length + 1 + post.length := by rw [← M.e1]; simp; omega
  have hlp : (bookStep :: (M.lp ++ [stp y])).length ≤ 1000 := by have := M.deep; simp; omega
  have hlt : (bookStep :: lt).length ≤ 1000 := by have := ht.depth; have := depthM_le v; simp; omega
  rcases htw with ⟨hpo, e1, rfl⟩ | ⟨q, ps, hpo, e1, rfl⟩
  · have hcond : decide ((pre.length : Int) + 1 < ((z.kids.map eU).length : Int)) = false := by
      have : post.length = 0 := by rw [hpo]; rfl
      simp; omega
    have hl : lt = l := (List.cons.inj (show bookStep :: lt = bookStep :: l by rw [← hwz, ← hwt, e1])).2
    subst hl
    simp only [go_sem, hcond]
    refine ACalls.weak2 (hmw (bookStep :: (M.lp ++ [stp y])) (bookStep :: lt) 1) ?_
    refine spec12 v _ hbv (M.small_v hB) _ _ ?_
    simp only [go_sem, hdest]
    refine ACalls.weak2 (hmd (bookStep :: (M.lp ++ [stp y])) (bookStep :: lt) 1) ?_
    refine spec7m v ⟨0, 0, 0, mvIt (bookStep :: (M.lp ++ [stp y])) (bookStep :: lt) 1⟩ hbv (M.dv hB) (mvIt_few _ _ _ hlp hlt) rfl _ _ ?_
    simp only [go_sem, hback]
    refine spec13 u u hb hB.small _ _ ?_
    simp only [go_sem, hsame]
    exact fin _ _ (by simp only [go_sem]) (by repeat' first | exact .refl hwf | apply AH.Sub.push | apply AH.Sub.pushTok)
  · have hcond : decide ((pre.length : Int) + 1 < ((z.kids.map eU).length : Int)) = true := by
      have : post.length = ps.length + 1 := by rw [hpo]; rfl
      simp; omega
    have hat : (z.kids.map eU)[((pre.length : Int) + 1).toNat]? = some (eU q) := by
      rw [← M.e1, hpo, show ((pre.length : Int) + 1).toNat = pre.length + 1 by omega]; simp
    simp only [go_sem, hcond, dr3_0, hw1, hat]
    refine ⟨by omega, ?_⟩
    refine PCalls.of (r := .tup [.slice ((wholeM v q.id).map eS), .bool (!(wayM q.id v).isEmpty)]) (fun H' => spec11 v q.id hbv _ _ ⟨rfl, rfl⟩) ?_
    rw [← e1, hwt]
    simp only [go_sem]
    refine ACalls.weak2 (hmw (bookStep :: (M.lp ++ [stp y])) (bookStep :: lt) 3) ?_
    refine spec12 v _ hbv (M.small_v hB) _ _ ?_
    simp only [go_sem, hdest]
    refine ACalls.weak2 (hmd (bookStep :: (M.lp ++ [stp y])) (bookStep :: lt) 3) ?_
    refine spec7m v ⟨0, 0, 0, mvIt (bookStep :: (M.lp ++ [stp y])) (bookStep :: lt) 3⟩ hbv (M.dv hB) (mvIt_few _ _ _ hlp hlt) rfl _ _ ?_
    simp only [go_sem, hback]
    refine spec13 u u hb hB.small _ _ ?_
    simp only [go_sem, hsame]
    exact fin _ _ (by simp only [go_sem]) (by repeat' first | exact .refl hwf | apply AH.Sub.push | apply AH.Sub.pushTok)
end Go.Ai.Tryz
