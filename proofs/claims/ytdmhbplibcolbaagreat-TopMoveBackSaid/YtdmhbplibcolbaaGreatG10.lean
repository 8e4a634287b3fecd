/- A part of the proof: no statement of the seat is proved in this text. -/
import Derived.Test.YtdmhbplibcolbaaGreatG9
set_option linter.unusedVariables false
set_option linter.unusedSimpArgs false
set_option maxRecDepth 20000
set_option maxHeartbeats 1000000
namespace Go.Ai.Tryz
open Go Go.Ai Go.Proofs
variable {w0 : World}
theorem spec8 (u : U) (x : It) (hb : (every u).length ≤ 1000) (H : AH) (Q : AV → AH → Prop) (h : Q (.tup [eId (oneM (idsM u x.at')).1, .int .i64 (oneM (idsM u x.at')).2]) H) : ACalls Tryz.prog w0 8 [eU u, eIt x] H Q := by
  refine enter8 (by simp) fun hwf hok R hR hR0 => ?_
  unfold x8
  simp only [go_sem]
  refine spec37 u x.at' hb _ _ ?_
  simp only [go_sem]
  refine hR _ _ _ (ares_ct (ares1_cell (v := eId (oneM (idsM u x.at')).1) (cs := [.int .i64 (oneM (idsM u x.at')).1.act, .int .i64 (oneM (idsM u x.at')).1.item, .int .i64 (oneM (idsM u x.at')).1.n]) (e := 23) tt_23 (a := 4) (id := H.n + 1 + 1) (off := 0) (by simp only [go_sem]) (by simp only [go_sem]) (by decide) (by simp only [go_sem]) rfl) (by simp only [go_sem])) (.same (.push (.push (.push (.refl hwf) _) _) _) rfl h)
end Go.Ai.Tryz

set_option linter.unusedVariables false
set_option linter.unusedSimpArgs false
namespace Go.Ai
open Go Go.Ai.Tryz
mutual
theorem way_split (t : Id) (u : U) (h : wayM t u ≠ []) : ∃ l y, wayM t u = l ++ [y] ∧ y.id = t := by
  cases u with
  | mk a b c d e kids =>
    have hl := wayL_split t kids
    simp only [wayM] at h ⊢
    split at h
    · rename_i ha
      rw [if_pos ha]
      exact ⟨[], _, rfl, ha⟩
    · rename_i ha
      rw [if_neg ha]
      split at h
      · exact absurd rfl h
      · rename_i w ws hw
        obtain ⟨l, y, h1, h2⟩ := hl (by rw [hw]; simp)
        rw [hw] at h1
        rw [h1]
        exact ⟨_ :: l, y, rfl, h2⟩
theorem wayL_split (t : Id) (l : List U) (h : wayL t l ≠ []) : ∃ m y, wayL t l = m ++ [y] ∧ y.id = t := by
  cases l with
  | nil => simp [wayL] at h
  | cons k ks =>
    have h1 := way_split t k
    have h2 := wayL_split t ks
    simp only [wayL] at h ⊢
    split at h
    · exact h2 h
    · rename_i w ws hk
      rw [← hk]
      exact h1 (by rw [hk]; simp)
end
mutual
theorem way_sub (t : Id) (u : U) : ∀ x ∈ wayM t u, wayM t x ≠ [] := by
  cases u with
  | mk a b c d e kids =>
    intro x hx
    have hl := wayL_sub t kids
    have hself := wayM_eq t ⟨a, b, c, d, e, kids⟩
    simp only [wayM] at hx
    split at hx
    · rename_i ha
      simp only [List.mem_singleton] at hx
      subst hx
      rw [hself, if_pos ha]; simp
    · rename_i ha
      split at hx
      · cases hx
      · rename_i w ws hw
        rcases List.mem_cons.1 hx with rfl | hx
        · rw [hself, if_neg ha, hw]; simp
        · exact hl x (by rw [hw]; exact hx)
theorem wayL_sub (t : Id) (l : List U) : ∀ x ∈ wayL t l, wayM t x ≠ [] := by
  cases l with
  | nil => intro x hx; simp [wayL] at hx
  | cons k ks =>
    intro x hx
    have h1 := way_sub t k
    have h2 := wayL_sub t ks
    simp only [wayL] at hx
    split at hx
    · exact h2 x hx
    · rename_i w ws hk; exact h1 x (by rw [hk]; exact hx)
end
theorem way_id {t : Id} {u : U} (h : wayM t u ≠ []) : ∃ y ∈ every u, y.id = t := by
  obtain ⟨l, y, h1, h2⟩ := way_split t u h
  exact ⟨y, wayM_mem t u y (by rw [h1]; simp), h2⟩
theorem idsOf_append (a b : List U) : idsOf (a ++ b) = idsOf a ++ idsOf b := by simp [idsOf]
theorem idsOf_mem {x : U} {l : List U} (h : x ∈ l) : x.id ∈ idsOf l := List.mem_map_of_mem h
mutual
theorem mem_way (t : Id) (u x : U) (hn : (idsOf (every u)).Nodup) (hx : x ∈ every u) (ht : wayM t x ≠ []) : x ∈ wayM t u := by
  obtain ⟨y, hy, hyt⟩ := way_id ht
  cases u with
  | mk a b c d e kids =>
    have hself := wayM_eq t ⟨a, b, c, d, e, kids⟩
    have hl := memL_way t kids x
    simp only [every, List.mem_cons] at hx hn
    rw [show idsOf (⟨a, b, c, d, e, kids⟩ :: everyL kids) = a :: idsOf (everyL kids) from rfl, List.nodup_cons] at hn
    rcases hx with rfl | hx
    · rw [hself] at ht ⊢
      split
      · simp
      · rename_i ha
        rw [if_neg ha] at ht
        split
        · rename_i hw; rw [hw] at ht; exact absurd rfl ht
        · simp
    · have hm := hl hn.2 hx ht
      rw [hself, if_neg]
      · split
        · rename_i hw; rw [hw] at hm; cases hm
        · rename_i w ws hw; rw [hw] at hm; exact List.mem_cons_of_mem _ hm
      · intro ha
        simp only at ha
        have hyk : y ∈ everyL kids := everyL_sub hx y hy
        exact hn.1 (by rw [ha, ← hyt]; exact idsOf_mem hyk)
theorem memL_way (t : Id) (l : List U) (x : U) (hn : (idsOf (everyL l)).Nodup) (hx : x ∈ everyL l) (ht : wayM t x ≠ []) : x ∈ wayL t l := by
  obtain ⟨y, hy, hyt⟩ := way_id ht
  cases l with
  | nil => simp [everyL] at hx
  | cons k ks =>
    have h1 := mem_way t k x
    have h2 := memL_way t ks x
    simp only [everyL, List.mem_append, idsOf_append] at hx hn
    rw [List.nodup_append] at hn
    obtain ⟨n1, n2, n3⟩ := hn
    simp only [wayL]
    rcases hx with hx | hx
    · have hm := h1 n1 hx ht
      split
      · rename_i hw; rw [hw] at hm; cases hm
      · rename_i w ws hw; rw [hw] at hm; exact hm
    · split
      · exact h2 n2 hx ht
      · rename_i w ws hw
        exfalso
        obtain ⟨z, hz, hzt⟩ := way_id (t := t) (u := k) (by rw [hw]; simp)
        have hyk : y ∈ everyL ks := everyL_sub hx y hy
        exact n3 _ (idsOf_mem hz) _ (idsOf_mem hyk) (by rw [hzt, hyt])
end
def ancM (u : U) (t : Id) : List Id := (idsOf (wayM t u).dropLast).reverse
theorem nodup_id {l : List U} (hn : (idsOf l).Nodup) {x y : U} (hx : x ∈ l) (hy : y ∈ l) (h : x.id = y.id) : x = y := by
  induction l with
  | nil => cases hx
  | cons z l ih =>
    rw [show idsOf (z :: l) = z.id :: idsOf l from rfl, List.nodup_cons] at hn
    rcases List.mem_cons.1 hx with rfl | hx'
    · rcases List.mem_cons.1 hy with rfl | hy'
      · rfl
      · exact absurd (by rw [h]; exact idsOf_mem hy') hn.1
    · rcases List.mem_cons.1 hy with rfl | hy'
      · exact absurd (by rw [← h]; exact idsOf_mem hx') hn.1
      · exact ih hn.2 hx' hy'
theorem findM_id {u : U} {id : Id} (h : wayM id u ≠ []) : (findM u id).1 ∈ every u ∧ (findM u id).1.id = id := by
  obtain ⟨l, y, h1, h2⟩ := way_split id u h
  have : findM u id = (y, true) := by
    unfold findM
    rw [h1]
    simp
  rw [this]
  exact ⟨wayM_mem id u y (by rw [h1]; simp), h2⟩
theorem anc_iff {u : U} {id t : Id} (hn : (idsOf (every u)).Nodup) (hid : wayM id u ≠ []) (hne : t ≠ id) : decide (id ∈ ancM u t) = (findM (findM u id).1 t).2 := by
  obtain ⟨f1, f2⟩ := findM_id hid
  rw [Bool.eq_iff_iff, decide_eq_true_eq, findM_ok]
  constructor
  · intro h
    simp only [ancM, List.mem_reverse] at h
    obtain ⟨x, hx, hxi⟩ := List.mem_map.1 h
    have hxw : x ∈ wayM t u := (List.dropLast_subset _) hx
    have := way_sub t u x hxw
    have he : x = (findM u id).1 := nodup_id hn (wayM_mem t u x hxw) f1 (hxi.trans f2.symm)
    rw [← he]
    cases hw : wayM t x with
    | nil => exact absurd hw this
    | cons => rfl
  · intro h
    have hw : wayM t (findM u id).1 ≠ [] := by intro e; rw [e] at h; simp at h
    have hm := mem_way t u _ hn f1 hw
    obtain ⟨l, y, h1, h2⟩ := way_split t u (fun e => by rw [e] at hm; cases hm)
    rw [ancM, h1, List.dropLast_concat, List.mem_reverse]
    rw [h1, List.mem_append, List.mem_singleton] at hm
    rcases hm with hm | hm
    · rw [← f2]; exact idsOf_mem hm
    · exact absurd (by rw [← h2, ← hm, f2]) hne
end Go.Ai

set_option linter.unusedVariables false
set_option linter.unusedSimpArgs false
set_option maxRecDepth 20000
set_option maxHeartbeats 1000000
namespace Go.Ai.Tryz
open Go Go.Ai Go.Proofs
variable {w0 : World}
theorem spec94 (l : List Id) (id : Id) (hlen : l.length ≤ 1000000) (H : AH) (Q : AV → AH → Prop) (h : ∀ n : Int, decide (0 ≤ n) = decide (id ∈ l) → Q (.int .i64 n) H) : ACalls Tryz.prog w0 94 [.slice (l.map eId), eId id] H Q := by
  refine enter94 (by simp) fun hwf hok R hR hR0 => ?_
  have fin : ∀ n env' H', look 4 env' = .int .i64 n → H.Sub H' → decide (0 ≤ n) = decide (id ∈ l) → R .ret env' H' := fun b env' H' h2 h3 h4 => hR _ _ _ rfl (.same h3 (by rw [h2]; rfl) (by rw [h2]; exact h b h4))
  unfold x94
  simp only [go_sem]
  refine AX.iter (S := List Id × List Id) ttOk (fun a => [(0, .slice (l.map eId)), (3, .ptr H.n 0), (7, .int .i64 (l.map eId).length), (8, .int .i64 a.1.length)]) (fun _ => H.push (.cells id.cs 23)) (fun a => a.2.length) (fun a => a.1 ++ a.2 = l ∧ id ∉ a.1) ([], l) ?_ rfl ⟨rfl, by simp⟩ ?_
  · simp only [go_sem]
  rintro ⟨pre, post⟩ ⟨h2, h3⟩ hk2 hwf2 K2 R2 hK2 hQ2
  simp only at h2 h3 hK2
  unfold l94_0
  rcases post with _ | ⟨k, ks⟩
  · have hb := ge_of h2 eId
    simp only [go_sem, hb]
    refine hQ2 _ _ _ ?_
    simp only [go_sem]
    refine fin (-1) _ _ (by simp only [go_sem]) (.push (.refl hwf) _) ?_
    rw [List.append_nil] at h2
    rw [h2] at h3
    simp [h3]
  · have hb := lt_of h2 eId
    have ha := at_of h2 eId
    have hl := len_of h2
    have hw : IntKind.i64.wrap ((pre.length : Int) + 1) = pre.length + 1 := wrap_i64.2 (by omega)
    simp only [go_sem, hb, dr94_0, ha, hw, Id.cs]
    refine ⟨by omega, fun e => ?_, fun e => ?_⟩
    · refine hQ2 _ _ _ ?_
      simp only [go_sem]
      refine fin pre.length _ _ (by simp only [go_sem]) (.push (.refl hwf) _) ?_
      have : id = k := by simpa using e
      have hm : id ∈ l := by rw [← h2, this]; simp
      simp [hm]
    · have hne : ¬id = k := by simpa using e
      refine hK2 _ _ (pre ++ [k], ks) (by simp) ⟨snoc_of h2, by simp [h3, hne]⟩ (.refl hwf2) (Nat.le_refl _) (Nat.le_refl _) ?_
      simp only [go_sem, len_snoc]
      simp
theorem spec69 (l : List Id) (id : Id) (hlen : l.length ≤ 1000000) (H : AH) (Q : AV → AH → Prop) (h : Q (.bool (decide (id ∈ l))) H) : ACalls Tryz.prog w0 69 [.slice (l.map eId), eId id] H Q := by
  refine enter69 (by simp) fun hwf hok R hR hR0 => ?_
  unfold x69
  simp only [go_sem]
  refine spec94 l id hlen _ _ fun n hn => ?_
  simp only [go_sem]
  refine hR _ _ _ rfl (.same (.push (.refl hwf) _) (by simp only [go_sem]) ?_)
  simp only [go_sem, hn]; exact h
theorem spec70 (u : U) (id : Id) (hb : (every u).length ≤ 1000) (H : AH) (Q : AV → AH → Prop) (h : Q (.slice ((ancM u id).map eId)) H) : ACalls Tryz.prog w0 70 [eU u, eId id] H Q := by
  refine enter70 (by simp) fun hwf hok R hR hR0 => ?_
  have hwl := wayM_len id u
  unfold x70
  simp only [go_sem]
  refine spec91 u id hb _ _ ?_
  rcases hwk : wayM id u with _ | ⟨w1, ws⟩
  · have han : ancM u id = [] := by simp [ancM, hwk, idsOf]
    rw [han] at h
    simp only [go_sem, wayV]
    refine AX.iter (S := Unit) ttOk (fun _ => [(5, .nilS), (7, .int .i64 (-2))]) (fun _ => (H.push (.cells u.cs 27)).push (.cells id.cs 23)) (fun _ => 0) (fun _ => True) () ?_ rfl trivial ?_
    · simp only [go_sem]
      exact .refl _
    rintro _ _ hk0 hwf0 K0 R0 hK0 hQ0
    unfold l70_0
    simp only [go_sem]
    refine hQ0 _ _ _ ?_
    simp only [go_sem]
    refine hR _ _ _ rfl (.forget (.push (.push (.refl hwf) _) _) ?_ ?_)
    · simp only [go_sem, AV.forget]
    · simp only [go_sem, AV.forget]; exact h
  · have hlen : (wayM id u).length ≤ 1000 := by omega
    have hne : wayM id u ≠ [] := by rw [hwk]; simp
    rw [← hwk]
    have hv : wayV (wayM id u) = .slice ((wayM id u).map eU) := by rw [hwk]; rfl
    obtain ⟨l, y, hly, -⟩ := way_split id u hne
    have hll : (wayM id u).length = l.length + 1 := by rw [hly]; simp
    have e1 : IntKind.i64.wrap ((((wayM id u).map eU).length : Int) - 2) = (l.length : Int) - 1 := by rw [List.length_map, wrap_i64.2 (by omega)]; omega
    rw [hv]
    simp only [go_sem, e1]
    refine AX.own0 (k := 5) 23 3 (by simp only [go_sem]) ?_
    refine AX.iter (S := List U × List U) ttOk (fun a => [(5, .own ((idsOf a.2).reverse.map eId) H.m), (6, .slice ((wayM id u).map eU)), (7, .int .i64 ((a.1.length : Int) - 1))]) (fun a => ((H.push (.cells u.cs 27)).push (.cells id.cs 23)).pushTok ⟨((idsOf a.2).reverse.map eId).length, 23, 3⟩) (fun a => a.1.length)
      (fun a => a.1 ++ a.2 = l) (l, []) ?_ rfl (by simp) ?_
    · simp only [go_sem, idsOf_nil]
      exact .refl _
    · rintro ⟨pre, post⟩ h2 hk hwf' K R' hK hQ
      simp only at h2 hK ⊢
      unfold l70_0
      rcases List.eq_nil_or_concat pre with rfl | ⟨pre, k, rfl⟩
      · have e2 : ((([] : List U).length : Nat) : Int) - 1 = -1 := rfl
        have e3 : (0 : Int) - 1 = -1 := rfl
        simp only [go_sem, e3]
        refine hQ _ _ _ ?_
        simp only [go_sem]
        refine hR _ _ _ rfl (.forget (.pushTok (.push (.push (.refl hwf) _) _) _) ?_ ?_)
        · simp only [go_sem, AV.forget]
        · simp only [go_sem, AV.forget]
          rw [List.nil_append] at h2
          rw [h2, show l = (wayM id u).dropLast by rw [hly, List.dropLast_concat]]; exact h
      · rw [List.concat_eq_append] at h2
        simp only [List.concat_eq_append] at hK ⊢
        have e2 : (((pre ++ [k]).length : Nat) : Int) - 1 = pre.length := by simp
        rw [e2]
        have hkids : pre ++ k :: (post ++ [y]) = wayM id u := by rw [hly, ← h2]; simp
        have ha := at_of hkids eU
        have hl := len_of hkids
        have e4 : decide ((0 : Int) ≤ (pre.length : Int)) = true := by simp
        have hw : IntKind.i64.wrap ((pre.length : Int) - 1) = pre.length - 1 := wrap_i64.2 (by omega)
        simp only [go_sem, e4, ha, hw]
        refine ⟨by omega, by omega, ?_⟩
        have hll2 : pre.length + 1 + post.length = l.length := by rw [← h2]; simp; omega
        have hpl : ((idsOf post).reverse.map eId).length = post.length := by simp [idsOf]
        refine ⟨by rw [hpl]; omega, ?_⟩
        have e5 : (idsOf (k :: post)).reverse.map eId = (idsOf post).reverse.map eId ++ [eId k.id] := by simp [idsOf]
        refine hK _ _ (pre, k :: post) (by simp) (by rw [← h2]; simp) ?_ (Nat.le_refl _) (Nat.le_refl _) ?_
        · rw [e5]
          refine .pushTok (.refl (WF_pushTok (WF_push_cells (WF_push_cells hwf _ _ ?_) _ _ ?_) _)) _
          · simp only [go_sem, U.cs]
          · simp only [go_sem, Id.cs]
        · simp only [go_sem, e5]
          simp
end Go.Ai.Tryz
