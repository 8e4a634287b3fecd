/- A part of the proof: no statement of the seat is proved in this text. -/
import Derived.Test.YtdmhbplibcolbaaGreatTr2
set_option linter.unusedVariables false
set_option linter.unusedSimpArgs false
set_option maxRecDepth 20000
set_option maxHeartbeats 1000000
namespace Go.Ai
open Go Go.Ai.Tryz
theorem ids_distinct {u : U} (h : idsOkM u = true) (hk : ∀ k ks, u.kids = k :: ks → k.id ≠ u.id) : Distinct u := by
  unfold idsOkM at h
  rw [Bool.or_eq_true] at h
  rcases h with h | h
  · unfold zerosM at h
    rw [List.all_eq_true] at h
    rcases hu : u.kids with _ | ⟨k, ks⟩
    · unfold Distinct; rw [every_eq, hu]; simp [everyL, idsOf]
    · have h1 := h u.id (idsOf_mem (self_mem u))
      have h2 := h k.id (idsOf_mem (below_mem (kid_mem (by rw [hu]; simp))))
      simp only [decide_eq_true_eq] at h1 h2
      exact absurd (h2.trans h1.symm) (hk k ks hu)
  · rw [Bool.and_eq_true] at h
    have := distM_nodup [] _ (by simp) h.2
    exact this
theorem right_at (u : U) (h : rightM u = true) : ∀ z ∈ every u, aloneM z = true ∧ rightL z.kind [] z.kids = true := by
  intro z hz
  rw [rightM_eq, Bool.and_eq_true] at h
  rw [every_eq, List.mem_cons] at hz
  rcases hz with rfl | hz
  · exact h
  obtain ⟨k, hk, hz⟩ := everyL_mem.1 hz
  have key : ∀ (pre l : List U), rightL u.kind pre l = true → k ∈ l → rightM k = true := by
    intro pre l
    induction l generalizing pre with
    | nil => intro _ h; cases h
    | cons a l ih =>
      intro h1 h2
      simp only [rightL, Bool.and_eq_true] at h1
      rcases List.mem_cons.1 h2 with rfl | h2
      · exact h1.1.1.2
      · exact ih _ h1.2 h2
  exact right_at k (key _ _ h.2 hk) z hz
termination_by SizeOf.sizeOf u
decreasing_by exact kid_lt hk
theorem nestsM_kind {p k : Int} (h : nestsM p k = true) : 1 ≤ k ∧ k ≤ 7 := by
  unfold nestsM at h
  repeat' split at h
  all_goals simp only [Bool.or_eq_true, decide_eq_true_eq, Bool.false_eq_true] at h <;> omega
theorem sameName_iff (a b : U) : sameName a b = decide (stp a = stp b) := by
  simp only [sameName, stp, Step.eq_iff]; exact (Bool.decide_and _ _).symm
theorem rightL_facts {kind : Int} {pre l : List U} (h : rightL kind pre l = true) : (∀ k ∈ l, nestsM kind k.kind = true ∧ rightM k = true) ∧ ((pre.map stp).Nodup → ((pre ++ l).map stp).Nodup) := by
  induction l generalizing pre with
  | nil => exact ⟨by simp, by simp⟩
  | cons a l ih =>
    simp only [rightL, Bool.and_eq_true, Bool.not_eq_true', List.any_eq_false, sameName_iff, decide_eq_true_eq] at h
    obtain ⟨⟨⟨h1, h2⟩, h3⟩, h4⟩ := h
    obtain ⟨i1, i2⟩ := ih h4
    refine ⟨fun k hk => ?_, fun hp => ?_⟩
    · rcases List.mem_cons.1 hk with rfl | hk
      · exact ⟨h1, h2⟩
      · exact i1 k hk
    · have := i2 (by
        rw [List.map_append, List.nodup_append]
        refine ⟨hp, by simp, fun x hx y hy => ?_⟩
        simp at hy; subst hy
        obtain ⟨z, hz, rfl⟩ := List.mem_map.1 hx
        exact h3 z hz)
      simpa using this
theorem right_good (u : U) (h : rightM u = true) : GoodT u := by
  intro z hz
  obtain ⟨h1, h2⟩ := right_at u h z hz
  obtain ⟨h3, h4⟩ := rightL_facts h2
  refine ⟨fun k hk => ?_, by simpa using h4 (by simp)⟩
  have h5 := nestsM_kind (h3 k hk).1
  have h6 := (right_at k (h3 k hk).2 k (self_mem k)).1
  unfold aloneM at h6
  split at h6
  · cases h6
  · rw [if_neg (by omega)] at h6
    simp only [stepOk, stp, Bool.and_eq_true]
    exact ⟨⟨decide_eq_true h5.1, decide_eq_true h5.2⟩, h6⟩
def shortM (l : List Wd) : Bool := l.all (fun w => !decide (100 < (w.text.size : Int))) && decide ((l.length : Int) ≤ 300)
mutual
def wordsU : U → Bool
  | ⟨_, _, label, head, words, kids⟩ => !decide (30 < (label.size : Int)) && shortM head && shortM words && wordsUL kids
def wordsUL : List U → Bool
  | [] => true
  | k :: ks => wordsU k && wordsUL ks
end
theorem wordsU_eq (u : U) : wordsU u = (!decide (30 < (u.label.size : Int)) && shortM u.head && shortM u.words && wordsUL u.kids) := by cases u; simp only [wordsU]
theorem wordsUL_mem {l : List U} (h : wordsUL l = true) : ∀ k ∈ l, wordsU k = true := by
  induction l with
  | nil => simp
  | cons a l ih => simp only [wordsUL, Bool.and_eq_true] at h; intro k hk; rcases List.mem_cons.1 hk with rfl | hk; exact h.1; exact ih h.2 k hk
def fewU (u : U) (m : Int) : Bool := decide (sizeM u 0 m ≤ m) && wordsU u
theorem wordsU_all (u : U) (h : wordsU u = true) : ∀ z ∈ every u, wordsU z = true := by
  intro z hz
  rw [every_eq, List.mem_cons] at hz
  rcases hz with rfl | hz
  · exact h
  rw [wordsU_eq, Bool.and_eq_true] at h
  obtain ⟨k, hk, hz⟩ := everyL_mem.1 hz
  exact wordsU_all k (wordsUL_mem h.2 k hk) z hz
termination_by SizeOf.sizeOf u
decreasing_by exact kid_lt hk
theorem wordsU_small {u : U} (h : wordsU u = true) : small (every u) := by
  intro z hz
  have := wordsU_all u h z hz
  rw [wordsU_eq] at this
  simp only [shortM, Bool.and_eq_true, decide_eq_true_eq] at this
  omega
structure BookT (u : U) (m : Int) : Prop where
  few : ((every u).length : Int) ≤ m
  small : small (every u)
  kind : u.kind = 0
  may : mayM u = true
  dist : Distinct u
theorem BookT.right {u : U} {m : Int} (h : BookT u m) : rightM u = true := by have := h.may; simp only [mayM, Bool.and_eq_true] at this; exact this.1.1.1
theorem BookT.good {u : U} {m : Int} (h : BookT u m) : GoodT u := right_good u h.right
theorem BookT.depth {u : U} {m : Int} (h : BookT u m) : depthM u ≤ 8 := by have := h.may; simp only [mayM, Bool.and_eq_true, decide_eq_true_eq] at this; omega
end Go.Ai
namespace Go.Ai.Tryz
open Go Go.Ai Go.Proofs
variable {w0 : World}
theorem spec71E (l : List Wd) (H : AH) (Q : AV → AH → Prop) (h : Q (.bool (shortM l)) H) : ACalls Tryz.prog w0 71 [.slice (l.map eW)] H Q := by
  refine enter71 (by simp) fun hwf hok R hR hR0 => ?_
  have hlen := (hok (.slice (l.map eW)) (by simp)).slice
  rw [List.length_map] at hlen
  unfold x71
  simp only [go_sem]
  refine AX.each0 ttOk eW l (by omega) (fun p => [(0, .slice (l.map eW)), (3, .int .i64 p.length)]) (fun p q => l.all (fun w => !decide (100 < (w.text.size : Int))) = q.all (fun w => !decide (100 < (w.text.size : Int)))) (by simp only [go_sem]) rfl (fun hi hwf K R' hQ hb => ?_) fun pre c ks h2 hi hwf K R' hK hQ hb ha hl hw => ?_
  · unfold l71_0
    simp only [go_sem, hb]
    refine hQ _ _ _ ?_
    simp only [go_sem]
    exact ret1 hR h (by simp only [go_sem, shortM, hi, List.length_map, List.all_nil, Bool.true_and]) (.refl hwf) rfl
  · unfold l71_0
    simp only [go_sem, hb, ha, hw]
    refine ⟨by omega, fun e => ?_, fun e => ?_⟩
    · refine hQ _ _ _ ?_
      simp only [go_sem]
      exact ret1 hR h (by simp only [go_sem, shortM, hi, List.all_cons, e]; rfl) (.refl hwf) rfl
    · exact hK _ _ (by rw [hi, List.all_cons, e]; rfl) (.refl hwf) (by simp only [go_sem, len_snoc])
theorem spec44E (u : U) (H : AH) (Q : AV → AH → Prop) (h : Q (.bool (wordsU u)) H) : ACalls Tryz.prog w0 44 [eU u] H Q := by
  refine enter44 (by simp) fun hwf hok R hR hR0 => ?_
  have hu := U.good (hok (eU u) (by simp))
  have hkl := hu.kids
  have fin : ∀ b env' H', look 2 env' = .bool b → wordsU u = b → H.Sub H' → R .ret env' H' := fun b env' H' h1 h2 h3 => ret1 hR h (by rw [h1, h2]) h3 rfl
  unfold x44
  cases c0 : decide (30 < (u.label.size : Int)) with
  | true => simp only [go_sem, c0]; exact fin false _ _ (by simp only [go_sem]) (by rw [wordsU_eq, c0]; rfl) (by simp only [go_sem, hwf])
  | false =>
  simp only [go_sem, c0]
  refine spec71E u.head _ _ ?_
  cases c1 : shortM u.head with
  | false => simp only [go_sem, Bool.not_false]; exact fin false _ _ (by simp only [go_sem]) (by rw [wordsU_eq, c1]; simp) (by simp only [go_sem, hwf])
  | true =>
  simp only [go_sem, Bool.not_true]
  refine spec71E u.words _ _ ?_
  cases c2 : shortM u.words with
  | false => simp only [go_sem, Bool.not_false]; exact fin false _ _ (by simp only [go_sem]) (by rw [wordsU_eq, c2]; simp) (by simp only [go_sem, hwf])
  | true =>
  have e0 : wordsU u = wordsUL u.kids := by rw [wordsU_eq, c0, c1, c2]; rfl
  simp only [go_sem, Bool.not_true]
  refine AX.each ttOk eU u.kids (by omega) (fun p => [(1, .ptr H.n 0), (3, .int .i64 p.length)]) (fun _ => H.push (.cells u.cs 27)) (fun p q => wordsUL u.kids = wordsUL q) (by simp only [go_sem]) (by simp only [U.cs]) rfl
      (fun hi hwf' K R' hQ hb => ?_) fun pre k ks h2 hi hwf' K R' hK hQ hb' ha hl hw => ?_
  · unfold l44_0
    simp only [go_sem, U.cs, hb]
    refine hQ _ _ _ ?_
    simp only [go_sem]
    exact fin true _ _ (by simp only [go_sem]) (by rw [e0, hi]; rfl) (by simp only [go_sem, hwf])
  · unfold l44_0
    simp only [go_sem, U.cs, hb', ha]
    refine ⟨by omega, spec44E k _ _ ?_⟩
    have hs : wordsUL (k :: ks) = (wordsU k && wordsUL ks) := rfl
    cases c3 : wordsU k with
    | true =>
      simp only [go_sem, Bool.not_true, hw]
      exact hK _ _ (by rw [hi, hs, c3]; rfl) (.refl hwf') (by simp only [go_sem, len_snoc]; simp) (Nat.le_refl _) (Nat.le_refl _)
    | false =>
      simp only [go_sem, Bool.not_false]
      refine hQ _ _ _ ?_
      simp only [go_sem]
      exact fin false _ _ (by simp only [go_sem]) (by rw [e0, hi, hs, c3]; rfl) (by simp only [go_sem, hwf])
termination_by SizeOf.sizeOf u
decreasing_by exact kid_lt (mem_of h2)
theorem spec14E (u : U) (m : Int) (hm : 0 ≤ m ∧ m ≤ 1000000000) (H : AH) (Q : AV → AH → Prop) (h : Q (.bool (fewU u m)) H) : ACalls Tryz.prog w0 14 [eU u, .int .i64 m] H Q := by
  refine enter14 (by simp) fun hwf hok R hR hR0 => ?_
  unfold x14
  simp only [go_sem]
  refine spec43 u 0 m (by omega) (by omega) (by omega) (by omega) _ _ ?_
  cases c : decide (sizeM u 0 m ≤ m) with
  | false => simp only [go_sem, c]; exact ret1 hR h (by simp only [go_sem, fewU, c]; rfl) (by simp only [go_sem, hwf]) rfl
  | true =>
    simp only [go_sem, c]
    refine spec44E u _ _ ?_
    simp only [go_sem]
    exact ret1 hR h (by simp only [go_sem, fewU, c, Bool.true_and]) (by simp only [go_sem, hwf]) rfl
def bookB (u : U) (m : Int) : Bool := fewU u m && (decide (u.kind = 0) && (mayM u && (match u.kids with | [] => true | k :: _ => !decide (k.id = u.id))))
theorem bookB_t {u : U} {m : Int} (h : bookB u m = true) : BookT u m := by
  simp only [bookB, fewU, Bool.and_eq_true, decide_eq_true_eq] at h
  obtain ⟨⟨h1, h2⟩, h3, h4, h5⟩ := h
  refine ⟨?_, wordsU_small h2, h3, h4, ids_distinct ?_ fun k ks hk => ?_⟩
  · have := sizeM_every u 0 m h1; omega
  · simp only [mayM, Bool.and_eq_true] at h4; exact h4.2
  · rw [hk] at h5; simpa using h5
theorem spec4 (u : U) (m : Int) (hm : 0 ≤ m ∧ m ≤ 1000) (H : AH) (Q : AV → AH → Prop) (h : Q (.bool (bookB u m)) H) : ACalls Tryz.prog w0 4 [eU u, .int .i64 m] H Q := by
  refine enter4 (by simp) fun hwf hok R hR hR0 => ?_
  have fin : ∀ b env' H', look 4 env' = .bool b → bookB u m = b → H.Sub H' → R .ret env' H' := fun b env' H' h1 h2 h3 => ret1 hR h (by rw [h1, h2]) h3 rfl
  unfold x4
  simp only [go_sem, dr4_0, U.cs]
  refine PCalls.of (r := .bool (fewU u m)) (fun H' => spec14E u m (by omega) _ _ ⟨rfl, rfl⟩) ?_
  cases c0 : fewU u m with
  | false => simp only [go_sem]; exact fin false _ _ (by simp only [go_sem]) (by simp only [bookB, c0]; rfl) (by simp only [go_sem, hwf])
  | true =>
  have c0' := c0
  simp only [fewU, Bool.and_eq_true, decide_eq_true_eq] at c0'
  have hb := sizeM_every u 0 m c0'.1
  have hs := wordsU_small c0'.2
  cases c1 : decide (u.kind = 0) with
  | false => simp only [go_sem, c1]; exact fin false _ _ (by simp only [go_sem]) (by simp only [bookB, c0, c1]; rfl) (by simp only [go_sem, hwf])
  | true =>
  simp only [go_sem, c1]
  refine PCalls.of (r := .bool (mayM u)) (fun H' => spec15E u (by omega) hs _ _ ⟨rfl, rfl⟩) ?_
  cases c2 : mayM u with
  | false => simp only [go_sem]; exact fin false _ _ (by simp only [go_sem]) (by simp only [bookB, c0, c1, c2]; rfl) (by simp only [go_sem, hwf])
  | true =>
  rcases hu : u.kids with _ | ⟨k, ks⟩
  · simp only [go_sem]
    exact fin true _ _ (by simp [go_sem]) (by simp [bookB, c0, c1, c2, hu]) (by simp only [go_sem, hwf])
  · simp only [go_sem, hu]
    refine ⟨fun _ => fin _ _ _ (by simp only [go_sem]; rfl) (by simp [bookB, c0, c1, c2, hu]) (by simp only [go_sem, hwf]), fun e => ?_⟩
    simp only [decide_eq_true_eq] at e
    omega
end Go.Ai.Tryz

set_option linter.unusedVariables false
set_option linter.unusedSimpArgs false
set_option maxRecDepth 20000
set_option maxHeartbeats 1000000
namespace Go.Ai
open Go Go.Ai.Tryz
theorem path_unique {u y : U} {l m : List Step} (hd : Distinct u) (h : Path u l y) (k : Path u m y) : l = m := by rw [← h.steps hd, ← k.steps hd]
theorem outM_mid (pre post : List U) (y : U) : outM (pre ++ y :: post) pre.length = pre ++ post := by simp [outM]
theorem insL_mid (pre post : List U) (y : U) : insL (pre ++ post) pre.length y = pre ++ y :: post := by simp [insL]
theorem updM_idf (i : Id) (u : U) : updM i (fun l => l) u = u := updM_self i _ u fun _ _ _ => rfl
theorem parent_of (u : U) {y : U} (hd : Distinct u) (hy : y ∈ every u) (hne : y.id ≠ u.id) : ∃ l z pre post, Path u l z ∧ pre ++ y :: post = z.kids := by
  rw [every_eq, List.mem_cons] at hy
  rcases hy with rfl | hy
  · exact absurd rfl hne
  obtain ⟨k, hk, hy⟩ := everyL_mem.1 hy
  by_cases hyk : y.id = k.id
  · have := (hd.kid hk).eq hy (self_mem k) hyk
    subst this
    obtain ⟨pre, post, e⟩ := List.append_of_mem hk
    exact ⟨[], u, pre, post, .nil u, e.symm⟩
  · obtain ⟨l, z, pre, post, h1, h2⟩ := parent_of k (hd.kid hk) hy hyk
    exact ⟨_, z, pre, post, .cons hk h1, h2⟩
termination_by SizeOf.sizeOf u
decreasing_by exact kid_lt hk
theorem sub_rest {pre post : List U} {y : U} : (idsOf (everyL (pre ++ post))).Sublist (idsOf (everyL (pre ++ y :: post))) := by
  rw [everyL_append, everyL_split]
  simp only [idsOf_append]
  exact List.Sublist.append (.refl _) (List.sublist_append_right _ _)
theorem removed {u y z p : U} {l lp : List Step} {pre post : List U} (hd : Distinct u) (hz : Path u l z) (e : pre ++ y :: post = z.kids) (hp : Path u lp p) (hny : p ∉ every y) :
    Distinct (updM z.id (fun _ => pre ++ post) u) ∧ Path (updM z.id (fun _ => pre ++ post) u) lp (updM z.id (fun _ => pre ++ post) p) := by
  obtain ⟨A, B, h⟩ := upd_ids u z hd hz.mem
  have h0 := h (fun l => l)
  rw [updM_idf] at h0
  refine ⟨?_, ?_⟩
  · unfold Distinct at hd ⊢
    rw [h (fun _ => pre ++ post)]
    rw [h0, ← e] at hd
    exact hd.sublist ((List.Sublist.append (.refl _) sub_rest).append (.refl _))
  · by_cases hpz : p ∈ everyL z.kids
    · rw [← e] at hpz
      obtain ⟨k, hk, hpk⟩ := everyL_mem.1 hpz
      have hk' : k ∈ pre ++ post := by
        rcases List.mem_append.1 hk with hk | hk
        · exact List.mem_append.2 (.inl hk)
        · rcases List.mem_cons.1 hk with rfl | hk
          · exact absurd hpk hny
          · exact List.mem_append.2 (.inr hk)
      obtain ⟨m, hm⟩ := path_of k p hpk
      have h1 : Path u (l ++ stp k :: m) p := hz.trans (.cons (by rw [← e]; exact hk) hm)
      have h2 : Path (updM z.id (fun _ => pre ++ post) u) (l ++ stp k :: m) p := (hz.here hd _).trans (.cons hk' hm)
      have h3 : updM z.id (fun _ => pre ++ post) p = p := by
        refine updM_off _ _ _ fun hm' => ?_
        obtain ⟨w, hw, ew⟩ := List.mem_map.1 hm'
        have hw2 : w ∈ everyL z.kids := by rw [← e]; exact everyL_sub hpz w hw
        have := hd.eq (hz.sub w (below_mem hw2)) hz.mem ew
        subst this
        exact hd.notin hz.mem hw2
      rw [path_unique hd hp h1, h3]
      exact h2
    · exact hp.upd _ _ fun w hw ew => by
        have := hd.eq hw hz.mem ew
        subst this
        exact hpz
theorem removed_ids {u y z : U} {l : List Step} {pre post : List U} (hd : Distinct u) (hz : Path u l z) (e : pre ++ y :: post = z.kids) (i : Id) (hi : i ∈ idsOf (every (updM z.id (fun _ => pre ++ post) u))) : i ∈ idsOf (every u) ∧ i ∉ idsOf (every y) := by
  obtain ⟨A, B, h⟩ := upd_ids u z hd hz.mem
  have h0 := h (fun l => l)
  rw [updM_idf, ← e, everyL_split] at h0
  rw [h, everyL_append] at hi
  unfold Distinct at hd
  rw [h0] at hd ⊢
  simp only [idsOf_append, List.mem_append, List.nodup_append] at hi hd ⊢
  obtain ⟨⟨hA, ⟨hpre, ⟨hy, hpost, h1⟩, h2⟩, h3⟩, hB, h4⟩ := hd
  refine ⟨by rcases hi with (hi | hi | hi) | hi <;> simp [hi], fun hm => ?_⟩
  rcases hi with (hi | hi | hi) | hi
  · exact h3 i hi i (.inr (.inl hm)) rfl
  · exact h2 i hi i (.inl hm) rfl
  · exact h1 i hm i hi rfl
  · exact h4 i (.inr (.inr (.inl hm))) i hi rfl
theorem atM_mem {l : List U} {id : Id} (h : id ∈ idsOf l) : ∃ n : Nat, atM l id 0 = n ∧ n < l.length := by
  obtain ⟨k, hk, rfl⟩ := List.mem_map.1 h
  clear h
  obtain ⟨pre, post, e, hp⟩ : ∃ pre post, pre ++ post = l ∧ (∃ c ∈ post.head?, c.id = k.id) ∧ ∀ x ∈ pre, x.id ≠ k.id := by
    induction l with
    | nil => cases hk
    | cons a l ih =>
      by_cases ha : a.id = k.id
      · exact ⟨[], a :: l, rfl, ⟨a, rfl, ha⟩, by simp⟩
      · rcases List.mem_cons.1 hk with rfl | hk
        · exact absurd rfl ha
        · obtain ⟨pre, post, e, h1, h2⟩ := ih hk
          exact ⟨a :: pre, post, by rw [← e]; rfl, h1, fun x hx => by rcases List.mem_cons.1 hx with rfl | hx; exact ha; exact h2 x hx⟩
  obtain ⟨⟨c, hc, ec⟩, hp⟩ := hp
  rcases post with _ | ⟨c', ps⟩
  · cases hc
  · simp at hc; subst hc
    refine ⟨pre.length, ?_, by rw [← e]; simp⟩
    rw [← e, ← ec]
    exact atM_hit (fun x hx => by rw [ec]; exact hp x hx) rfl
end Go.Ai
