/- A part of the proof: no statement of the seat is proved in this text. -/
import Derived.Test.YtdmhbplibcolbaaGreatN7
set_option linter.unusedVariables false
set_option linter.unusedSimpArgs false
set_option maxRecDepth 20000
set_option maxHeartbeats 1000000
namespace Go.Ai
open Go Go.Ai.Tryz
def updM (i : Id) (f : List U → List U) : U → U
  | ⟨a, b, c, d, e, kids⟩ => if a = i then ⟨a, b, c, d, e, f kids⟩ else ⟨a, b, c, d, e, updL i f kids⟩
where updL (i : Id) (f : List U → List U) : List U → List U
  | [] => []
  | k :: ks => updM i f k :: updL i f ks
theorem updL_eq (i : Id) (f : List U → List U) (l : List U) : updM.updL i f l = l.map (updM i f) := by induction l with
  | nil => rfl
  | cons k ks ih => simp [updM.updL, ih]
theorem updM_eq (i : Id) (f : List U → List U) (u : U) : updM i f u = { u with kids := if u.id = i then f u.kids else u.kids.map (updM i f) } := by
  cases u; simp only [updM, updL_eq]; split <;> simp_all
theorem updM_id (i : Id) (f : List U → List U) (u : U) : (updM i f u).id = u.id := by rw [updM_eq]
theorem updM_stp (i : Id) (f : List U → List U) (u : U) : stp (updM i f u) = stp u := by rw [updM_eq]; rfl
theorem updM_stps (i : Id) (f : List U → List U) (l : List U) : (l.map (updM i f)).map stp = l.map stp := by simp [updM_stp, Function.comp_def]
theorem updM_hit {i : Id} {u : U} (f : List U → List U) (h : u.id = i) : updM i f u = { u with kids := f u.kids } := by rw [updM_eq, if_pos h]
theorem updM_miss {i : Id} {u : U} (f : List U → List U) (h : u.id ≠ i) : updM i f u = { u with kids := u.kids.map (updM i f) } := by rw [updM_eq, if_neg h]
theorem map_self {α : Type} {f : α → α} {l : List α} (h : ∀ x ∈ l, f x = x) : l.map f = l := by
  induction l with
  | nil => rfl
  | cons a l ih => simp [h a (by simp), ih (fun x hx => h x (by simp [hx]))]
theorem updM_self (i : Id) (f : List U → List U) (u : U) (h : ∀ z ∈ every u, z.id = i → f z.kids = z.kids) : updM i f u = u := by
  by_cases hu : u.id = i
  · rw [updM_hit f hu, h u (self_mem u) hu]; cases u; rfl
  · rw [updM_miss f hu, map_self fun x hx => updM_self i f x fun z hz => h z (below_mem (everyL_mem.2 ⟨x, hx, hz⟩))]; cases u; rfl
termination_by SizeOf.sizeOf u
decreasing_by exact kid_lt hx
theorem updM_off (i : Id) (f : List U → List U) (u : U) (h : i ∉ idsOf (every u)) : updM i f u = u := updM_self i f u fun z hz e => absurd (by rw [← e]; exact idsOf_mem hz) h
theorem updM_updM (i : Id) (f g : List U → List U) (u : U) : updM i f (updM i g u) = updM i (fun l => f (g l)) u := by
  by_cases hu : u.id = i
  · rw [updM_hit g hu, updM_hit _ hu, updM_hit f (show U.id { u with kids := g u.kids } = i from hu)]
  · rw [updM_miss g hu, updM_miss _ hu, updM_miss f (show U.id { u with kids := u.kids.map (updM i g) } ≠ i from hu)]
    simp only [List.map_map]
    congr 1
    exact List.map_congr_left fun x hx => updM_updM i f g x
termination_by SizeOf.sizeOf u
decreasing_by exact kid_lt hx
theorem updM_congr (i : Id) (f g : List U → List U) (u : U) (h : ∀ z ∈ every u, z.id = i → f z.kids = g z.kids) : updM i f u = updM i g u := by
  by_cases hu : u.id = i
  · rw [updM_hit g hu, updM_hit f hu, h u (self_mem u) hu]
  · rw [updM_miss g hu, updM_miss f hu]
    congr 1
    exact List.map_congr_left fun x hx => updM_congr i f g x fun z hz => h z (below_mem (everyL_mem.2 ⟨x, hx, hz⟩))
termination_by SizeOf.sizeOf u
decreasing_by exact kid_lt hx
theorem Path.upd {u y : U} {l : List Step} (h : Path u l y) (i : Id) (f : List U → List U) (hn : ∀ z ∈ every u, z.id = i → y ∉ everyL z.kids) : Path (updM i f u) l (updM i f y) := by
  induction h with
  | nil u => exact .nil _
  | @cons u k y l hk hp ih =>
    have hu : u.id ≠ i := fun e => hn u (self_mem u) e (Path.mem_kids hk hp)
    have hk' : updM i f k ∈ (updM i f u).kids := by rw [updM_miss f hu]; exact List.mem_map_of_mem hk
    have := Path.cons hk' (ih fun z hz e => hn z (below_mem (everyL_mem.2 ⟨k, hk, hz⟩)) e)
    rwa [updM_stp] at this
theorem Distinct.notin {u z : U} (h : Distinct u) (hz : z ∈ every u) : z ∉ everyL z.kids := fun hm => (h.mem hz).kids.2 (idsOf_mem hm)
theorem Path.here {u z : U} {l : List Step} (h : Path u l z) (hd : Distinct u) (f : List U → List U) : Path (updM z.id f u) l { z with kids := f z.kids } := by
  have := h.upd z.id f fun y hy e => by
    have := hd.eq hy h.mem e
    subst this
    exact hd.notin hy
  rwa [updM_hit f rfl] at this
theorem withM_off (x u : U) (h : x.id ∉ idsOf (every u)) : withM x u = u := by
  rw [withM_eq, if_neg (fun e => h (by rw [← e]; exact idsOf_mem (self_mem u))), map_self fun k hk => withM_off x k fun hm => h (by
    obtain ⟨w, hw, ew⟩ := List.mem_map.1 hm
    rw [← ew]; exact idsOf_mem (below_mem (everyL_mem.2 ⟨k, hk, hw⟩)))]
  cases u; rfl
termination_by SizeOf.sizeOf u
decreasing_by exact kid_lt hk
theorem withM_upd (u z : U) (hd : Distinct u) (hz : z ∈ every u) (g : List U) : withM { z with kids := g } u = updM z.id (fun _ => g) u := by
  by_cases hu : u.id = z.id
  · have := hd.eq (self_mem u) hz hu
    subst this
    rw [withM_eq, if_pos rfl, updM_hit _ rfl]
  · rw [withM_eq, if_neg hu, updM_miss _ hu]
    rw [every_eq, List.mem_cons] at hz
    rcases hz with rfl | hz
    · exact absurd rfl hu
    obtain ⟨k, hk, hz⟩ := everyL_mem.1 hz
    obtain ⟨pre, post, e⟩ := List.append_of_mem hk
    have hap := hd.apart e.symm hz
    congr 1
    rw [e, List.map_append, List.map_append, List.map_cons, List.map_cons, withM_upd k z (hd.kid hk) hz g]
    congr 1
    · exact List.map_congr_left fun x hx => by rw [withM_off { z with kids := g } _ (hap.1 x hx), updM_off _ _ _ (hap.1 x hx)]
    · congr 1
      exact List.map_congr_left fun x hx => by rw [withM_off { z with kids := g } _ (hap.2 x hx), updM_off _ _ _ (hap.2 x hx)]
termination_by SizeOf.sizeOf u
decreasing_by exact kid_lt hk
theorem upd_ids (u z : U) (hd : Distinct u) (hz : z ∈ every u) : ∃ A B, ∀ f : List U → List U, idsOf (every (updM z.id f u)) = A ++ idsOf (everyL (f z.kids)) ++ B := by
  by_cases hu : u.id = z.id
  · have := hd.eq (self_mem u) hz hu
    subst this
    exact ⟨[u.id], [], fun f => by rw [updM_hit f rfl, every_eq, List.append_nil]; rfl⟩
  · rw [every_eq, List.mem_cons] at hz
    rcases hz with rfl | hz
    · exact absurd rfl hu
    obtain ⟨k, hk, hz⟩ := everyL_mem.1 hz
    obtain ⟨pre, post, e⟩ := List.append_of_mem hk
    have hap := hd.apart e.symm hz
    obtain ⟨A, B, h⟩ := upd_ids k z (hd.kid hk) hz
    refine ⟨u.id :: (idsOf (everyL pre) ++ A), B ++ idsOf (everyL post), fun f => ?_⟩
    have e1 : pre.map (updM z.id f) = pre := map_self fun x hx => updM_off _ _ _ (hap.1 x hx)
    have e2 : post.map (updM z.id f) = post := map_self fun x hx => updM_off _ _ _ (hap.2 x hx)
    rw [updM_miss f hu, every_eq]
    simp only [e, List.map_append, List.map_cons, e1, e2]
    rw [everyL_split]
    show u.id :: idsOf _ = _
    rw [idsOf_append, idsOf_append, h f]
    simp
termination_by SizeOf.sizeOf u
decreasing_by exact kid_lt hk
theorem upd_mem (i : Id) (f : List U → List U) (u y : U) (h : y ∈ every (updM i f u)) : ∃ z ∈ every u, (z.id ≠ i ∧ y = updM i f z) ∨ (z.id = i ∧ (y = { z with kids := f z.kids } ∨ y ∈ everyL (f z.kids))) := by
  by_cases hu : u.id = i
  · rw [updM_hit f hu, every_eq, List.mem_cons] at h
    exact ⟨u, self_mem u, .inr ⟨hu, h⟩⟩
  · have h0 := h
    rw [updM_miss f hu, every_eq, List.mem_cons] at h
    rcases h with h | h
    · exact ⟨u, self_mem u, .inl ⟨hu, by rw [h, updM_miss f hu]⟩⟩
    · obtain ⟨k', hk', h⟩ := everyL_mem.1 h
      obtain ⟨k, hk, rfl⟩ := List.mem_map.1 hk'
      obtain ⟨z, hz, h⟩ := upd_mem i f k y h
      exact ⟨z, below_mem (everyL_mem.2 ⟨k, hk, hz⟩), h⟩
termination_by SizeOf.sizeOf u
decreasing_by exact kid_lt hk
def NodeOk (z : U) : Prop := (∀ k ∈ z.kids, stepOk (stp k) = true) ∧ (z.kids.map stp).Nodup
def GoodT (u : U) : Prop := ∀ z ∈ every u, NodeOk z
theorem GoodT.at {u y : U} (h : GoodT u) (hy : y ∈ every u) : GoodT y := fun z hz => h z (every_sub hy z hz)
theorem GoodT.upd {u : U} (h : GoodT u) (i : Id) (f : List U → List U) (hf : ∀ z ∈ every u, z.id = i → NodeOk { z with kids := f z.kids } ∧ ∀ y ∈ everyL (f z.kids), NodeOk y) : GoodT (updM i f u) := by
  intro y hy
  obtain ⟨z, hz, ⟨h1, rfl⟩ | ⟨h1, rfl | h2⟩⟩ := upd_mem i f u y hy
  · rw [updM_miss f h1]
    refine ⟨fun k hk => ?_, ?_⟩
    · obtain ⟨k', hk', rfl⟩ := List.mem_map.1 hk
      rw [updM_stp]
      exact (h z hz).1 k' hk'
    · show ((z.kids.map (updM i f)).map stp).Nodup
      rw [updM_stps]
      exact (h z hz).2
  · exact (hf z hz h1).1
  · exact (hf z hz h1).2 y h2
theorem sel_one {l : List U} {k : U} (h : (l.map stp).Nodup) (hk : k ∈ l) : sel (stp k) l = [k] := by
  induction l with
  | nil => cases hk
  | cons a l ih =>
    rw [List.map_cons, List.nodup_cons] at h
    have hat : ∀ y : U, isAt y (stp k) = decide (stp y = stp k) := fun y => by simp only [isAt, stp, Step.eq_iff]; exact (Bool.decide_and _ _).symm
    rcases List.mem_cons.1 hk with rfl | hk
    · have : ∀ x ∈ l, isAt x (stp k) = false := fun x hx => by
        rw [hat]; simp
        intro e; exact h.1 (by rw [← e]; exact List.mem_map_of_mem hx)
      have h2 : sel (stp k) l = [] := by unfold sel; simpa using this
      have h3 : isAt k (stp k) = true := by rw [hat]; simp
      unfold sel at h2 ⊢
      rw [List.filter_cons, if_pos h3, h2]
    · have h3 : isAt a (stp k) = false := by
        rw [hat]; simp
        intro e; exact h.1 (by rw [e]; exact List.mem_map_of_mem hk)
      have := ih h.2 hk
      unfold sel at this ⊢
      rw [List.filter_cons, if_neg (by rw [h3]; simp), this]
theorem Path.walk {u y : U} {l : List Step} (h : Path u l y) (hg : GoodT u) : walkM l [u] = [y] := by
  induction h with
  | nil u => rfl
  | @cons u k y l hk hp ih =>
    show walkM l (stepM (stp k) [u]) = [y]
    rw [stepM_one, sel_one (hg u (self_mem u)).2 hk]
    exact ih (hg.at (below_mem (kid_mem hk)))
theorem Path.stepsOk {u y : U} {l : List Step} (h : Path u l y) (hg : GoodT u) : okFrom false l = true := by
  induction h with
  | nil u => rfl
  | @cons u k y l hk hp ih =>
    show (((false && isBook (stp k)) || stepOk (stp k)) && okFrom false l) = true
    rw [(hg u (self_mem u)).1 k hk, ih (hg.at (below_mem (kid_mem hk)))]; simp
def bookStep : Step := ⟨0, ByteArray.empty⟩
theorem Path.one {u y : U} {l : List Step} (h : Path u l y) (hd : Distinct u) (hg : GoodT u) (h8 : l.length ≤ 8) : idsM u (bookStep :: l) = [y.id] := by
  have hb : isBook bookStep = true := by decide
  have hok : addrOk' (bookStep :: l) = true := by
    unfold addrOk'
    rw [show okFrom true (bookStep :: l) = (((true && isBook bookStep) || stepOk bookStep) && okFrom false l) from rfl, hb, h.stepsOk hg]
    simp; omega
  unfold idsM foundM
  rw [if_pos hok]
  show idsOf (walkM l (startM u bookStep)) = _
  unfold startM
  rw [if_pos hb, h.walk hg]; rfl
theorem Path.whole {u y : U} {l : List Step} (h : Path u l y) (hd : Distinct u) : wholeM u y.id = bookStep :: l := by
  have hw : wayM y.id u ≠ [] := fun e => by have := h.len hd; rw [e] at this; simp at this
  unfold wholeM
  rw [if_neg hw, h.steps hd]; rfl
theorem depth_kid {l : List U} {k : U} (h : k ∈ l) : 1 + depthM k ≤ depthL l := by
  induction l with
  | nil => cases h
  | cons a l ih =>
    rcases List.mem_cons.1 h with rfl | h
    · simp only [depthL]; omega
    · have := ih h; simp only [depthL]; omega
theorem Path.depth {u y : U} {l : List Step} (h : Path u l y) : l.length + depthM y ≤ depthM u := by
  induction h with
  | nil u => simp
  | @cons u k y l hk hp ih =>
    have := depth_kid hk
    rw [depthM_eq u]
    simp only [List.length_cons]
    omega
end Go.Ai

set_option linter.unusedVariables false
set_option linter.unusedSimpArgs false
set_option maxRecDepth 20000
set_option maxHeartbeats 1000000
namespace Go.Ai.Tryz
open Go Go.Ai Go.Proofs
variable {w0 : World}
theorem spec5 (x : It) (H : AH) (Q : AV → AH → Prop) (h : ∀ b, (b = true → fewIt x) → Q (.bool b) H) : ACalls Tryz.prog w0 5 [eIt x] H Q := by
  refine enter5 (by simp) fun hwf hok R hR hR0 => ?_
  obtain ⟨lby, lat, lto, lold, lnew, hkid⟩ := It.byLen (hok (eIt x) (by simp))
  have fin : ∀ b env' H', look 2 env' = .bool b → (b = true → fewIt x) → H.Sub H' → R .ret env' H' := fun b env' H' h2 h4 h3 => ret1 hR (h b h4) h2 h3 rfl
  unfold x5
  simp only [go_sem, It.cs]
  repeat' first
    | refine And.intro ?_ ?_
    | refine fun (_ : _ = _) => ?_
    | (refine spec14 _ _ _ (fun b hu => ?_); cases b <;> simp only [go_sem, Bool.not_true, Bool.not_false])
  all_goals first
    | exact fin false _ _ (by simp only [go_sem]) (by simp) (by simp only [go_sem, hwf])
    | skip
  rename_i c1 c2 c3 c4 c5 c6 c7 c8 c9
  have hu := hu rfl
  simp only [decide_eq_false_iff_not, List.length_map] at c1 c2 c3 c4 c5 c6 c7 c8 c9
  refine AX.each ttOk AV.str x.old (by omega) (fun p => [(1, .ptr H.n 0), (3, .int .i64 p.length)]) (fun _ => H.push (.cells x.cs 34)) (fun p q => ∀ s ∈ p, s.size ≤ 100) (by simp only [go_sem]) (by simp only [It.cs]) (by simp)
      (fun hi hwf' K R' hQ hb => ?_) fun pre k ks h2 hi hwf' K R' hK hQ hb' ha hl hw => ?_
  rotate_left
  · unfold l5_0
    simp only [go_sem, It.cs, hb', ha, hw]
    refine ⟨by omega, fun e => ?_, fun e => ?_⟩ <;> simp only [decide_eq_true_eq, decide_eq_false_iff_not] at e
    · refine hQ _ _ _ ?_
      simp only [go_sem]
      exact fin false _ _ (by simp only [go_sem]) (by simp) (by simp only [go_sem, hwf])
    · exact hK _ _ (fun s hs => by rcases List.mem_append.1 hs with hs | hs; exact hi s hs; simp at hs; subst hs; omega) (.refl hwf') (by simp only [go_sem, len_snoc]; simp) (Nat.le_refl _) (Nat.le_refl _)
  unfold l5_0
  simp only [go_sem, It.cs, hb]
  refine hQ _ _ _ ?_
  simp only [go_sem]
  have o1 := hi
  clear hi hb hQ
  refine AX.each ttOk AV.str x.new (by omega) (fun p => [(1, .ptr H.n 0), (4, .int .i64 p.length)]) (fun _ => H.push (.cells x.cs 34)) (fun p q => ∀ s ∈ p, s.size ≤ 100) (by simp only [go_sem]) (by simp only [It.cs]) (by simp)
      (fun hi hwf' K R' hQ hb => ?_) fun pre k ks h2 hi hwf' K R' hK hQ hb' ha hl hw => ?_
  rotate_left
  · unfold l5_1
    simp only [go_sem, It.cs, hb', ha, hw]
    refine ⟨by omega, fun e => ?_, fun e => ?_⟩ <;> simp only [decide_eq_true_eq, decide_eq_false_iff_not] at e
    · refine hQ _ _ _ ?_
      simp only [go_sem]
      exact fin false _ _ (by simp only [go_sem]) (by simp) (by simp only [go_sem, hwf])
    · exact hK _ _ (fun s hs => by rcases List.mem_append.1 hs with hs | hs; exact hi s hs; simp at hs; subst hs; omega) (.refl hwf') (by simp only [go_sem, len_snoc]; simp) (Nat.le_refl _) (Nat.le_refl _)
  unfold l5_1
  simp only [go_sem, It.cs, hb]
  refine hQ _ _ _ ?_
  simp only [go_sem]
  have o2 := hi
  clear hi hb hQ
  refine AX.each ttOk eS x.at' (by omega) (fun p => [(1, .ptr H.n 0), (5, .int .i64 p.length)]) (fun _ => H.push (.cells x.cs 34)) (fun p q => True) (by simp only [go_sem]) (by simp only [It.cs]) trivial
      (fun hi hwf' K R' hQ hb => ?_) fun pre k ks h2 hi hwf' K R' hK hQ hb' ha hl hw => ?_
  rotate_left
  · unfold l5_2
    simp only [go_sem, It.cs, hb', ha, hw]
    refine ⟨by omega, fun e => ?_, fun e => ?_⟩
    · refine hQ _ _ _ ?_
      simp only [go_sem]
      exact fin false _ _ (by simp only [go_sem]) (by simp) (by simp only [go_sem, hwf])
    · exact hK _ _ trivial (.refl hwf') (by simp only [go_sem, len_snoc]; simp) (Nat.le_refl _) (Nat.le_refl _)
  unfold l5_2
  simp only [go_sem, It.cs, hb]
  refine hQ _ _ _ ?_
  simp only [go_sem]
  clear hi hb hQ
  refine AX.each ttOk eS x.to (by omega) (fun p => [(1, .ptr H.n 0), (6, .int .i64 p.length)]) (fun _ => H.push (.cells x.cs 34)) (fun p q => True) (by simp only [go_sem]) (by simp only [It.cs]) trivial
      (fun hi hwf' K R' hQ hb => ?_) fun pre k ks h2 hi hwf' K R' hK hQ hb' ha hl hw => ?_
  rotate_left
  · unfold l5_3
    simp only [go_sem, It.cs, hb', ha, hw]
    refine ⟨by omega, fun e => ?_, fun e => ?_⟩
    · refine hQ _ _ _ ?_
      simp only [go_sem]
      exact fin false _ _ (by simp only [go_sem]) (by simp) (by simp only [go_sem, hwf])
    · exact hK _ _ trivial (.refl hwf') (by simp only [go_sem, len_snoc]; simp) (Nat.le_refl _) (Nat.le_refl _)
  unfold l5_3
  simp only [go_sem, It.cs, hb]
  refine hQ _ _ _ ?_
  simp only [go_sem]
  clear hi hb hQ
  refine AX.each ttOk eIt x.by' (by omega) (fun p => [(1, .ptr H.n 0), (7, .int .i64 p.length)]) (fun _ => H.push (.cells x.cs 34)) (fun p q => ∀ k ∈ p, fewIt k) (by simp only [go_sem]) (by simp only [It.cs]) (by simp)
      (fun hi hwf' K R' hQ hb => ?_) fun pre k ks h2 hi hwf' K R' hK hQ hb' ha hl hw => ?_
  · unfold l5_5
    simp only [go_sem, It.cs, hb]
    refine hQ _ _ _ ?_
    simp only [go_sem]
    refine fin true _ _ (by simp only [go_sem]) (fun _ => ?_) (by simp only [go_sem, hwf])
    rw [fewIt_eq]
    exact ⟨⟨by omega, by omega, by omega, by omega, by omega, hu.1, hu.2, o1, o2, by omega⟩, fewIts_of hi⟩
  have hkm := mem_of h2
  obtain ⟨kby, _⟩ := It.byLen (hkid k hkm)
  unfold l5_5
  simp only [go_sem, It.cs, hb']
  refine AX.each ttOk eIt k.by' (by omega) (fun p => [(1, .ptr H.n 0), (7, .int .i64 pre.length), (8, .int .i64 p.length)]) (fun _ => H.push (.cells x.cs 34)) (fun p q => True) (by simp only [go_sem]) (by simp only [It.cs]) trivial
      (fun hi2 hwf2 K2 R2 hQ2 hb2 => ?_) fun p2 k2 ks2 g2 hi2 hwf2 K2 R2 hK2 hQ2 hb2 ha2 hl2 hw2 => ?_
  · unfold l5_4
    simp only [go_sem, It.cs, ha, hb2]
    refine ⟨by omega, hQ2 _ _ _ ?_⟩
    simp only [go_sem, ha]
    refine ⟨by omega, spec5 k _ _ fun b hk => ?_⟩
    cases b <;> simp only [go_sem, Bool.not_true, Bool.not_false, hw]
    · refine hQ _ _ _ ?_
      simp only [go_sem]
      exact fin false _ _ (by simp only [go_sem]) (by simp) (by simp only [go_sem, hwf])
    · exact hK _ _ (fun s hs => by rcases List.mem_append.1 hs with hs | hs; exact hi s hs; simp at hs; subst hs; exact hk rfl) (.refl hwf') (by simp only [go_sem, len_snoc]; simp) (Nat.le_refl _) (Nat.le_refl _)
  · unfold l5_4
    simp only [go_sem, It.cs, ha, hb2, ha2, hw2]
    refine ⟨by omega, by omega, by omega, fun e => ?_, fun e => ?_⟩
    · refine hQ2 _ _ _ ?_
      simp only [go_sem]
      refine hQ _ _ _ ?_
      simp only [go_sem]
      exact fin false _ _ (by simp only [go_sem]) (by simp) (by simp only [go_sem, hwf])
    · exact hK2 _ _ trivial (.refl hwf2) (by simp only [go_sem, len_snoc]; simp) (Nat.le_refl _) (Nat.le_refl _)
termination_by SizeOf.sizeOf x
decreasing_by exact by_lt hkm
end Go.Ai.Tryz
