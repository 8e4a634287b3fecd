/- A part of the proof: no statement of the seat is proved in this text. -/
import Derived.Test.YtcphpaeebaacgaaG9
set_option linter.unusedVariables false
set_option linter.unusedSimpArgs false
namespace Go.Ai
open Go Go.Ai.Try
/-! ### Ancestors: to stand on the way to a unit is to have it inside, where the IDs differ. -/
mutual
theorem way_split (t : Id) (u : U) (h : wayM t u ≠ []) : ∃ l y, wayM t u = l ++ [y] ∧ y.id = t := by
  cases u with
  | mk a b c d e kids =>
    have hl := wayL_split t kids
    simp only [wayM] at h ⊢
    split at h
    · rename_i ha
      rw [if_pos ha]
      exact ⟨[], _, rfl, ha⟩
    · rename_i ha
      rw [if_neg ha]
      split at h
      · exact absurd rfl h
      · rename_i w ws hw
        obtain ⟨l, y, h1, h2⟩ := hl (by rw [hw]; simp)
        rw [hw] at h1
        rw [h1]
        exact ⟨_ :: l, y, rfl, h2⟩
theorem wayL_split (t : Id) (l : List U) (h : wayL t l ≠ []) : ∃ m y, wayL t l = m ++ [y] ∧ y.id = t := by
  cases l with
  | nil => simp [wayL] at h
  | cons k ks =>
    have h1 := way_split t k
    have h2 := wayL_split t ks
    simp only [wayL] at h ⊢
    split at h
    · exact h2 h
    · rename_i w ws hk
      rw [← hk]
      exact h1 (by rw [hk]; simp)
end
mutual
theorem way_sub (t : Id) (u : U) : ∀ x ∈ wayM t u, wayM t x ≠ [] := by
  cases u with
  | mk a b c d e kids =>
    intro x hx
    have hl := wayL_sub t kids
    have hself := wayM_eq t ⟨a, b, c, d, e, kids⟩
    simp only [wayM] at hx
    split at hx
    · rename_i ha
      simp only [List.mem_singleton] at hx
      subst hx
      rw [hself, if_pos ha]; simp
    · rename_i ha
      split at hx
      · cases hx
      · rename_i w ws hw
        rcases List.mem_cons.1 hx with rfl | hx
        · rw [hself, if_neg ha, hw]; simp
        · exact hl x (by rw [hw]; exact hx)
theorem wayL_sub (t : Id) (l : List U) : ∀ x ∈ wayL t l, wayM t x ≠ [] := by
  cases l with
  | nil => intro x hx; simp [wayL] at hx
  | cons k ks =>
    intro x hx
    have h1 := way_sub t k
    have h2 := wayL_sub t ks
    simp only [wayL] at hx
    split at hx
    · exact h2 x hx
    · rename_i w ws hk; exact h1 x (by rw [hk]; exact hx)
end
theorem way_id {t : Id} {u : U} (h : wayM t u ≠ []) : ∃ y ∈ every u, y.id = t := by
  obtain ⟨l, y, h1, h2⟩ := way_split t u h
  exact ⟨y, wayM_mem t u y (by rw [h1]; simp), h2⟩
theorem idsOf_append (a b : List U) : idsOf (a ++ b) = idsOf a ++ idsOf b := by simp [idsOf]
theorem idsOf_mem {x : U} {l : List U} (h : x ∈ l) : x.id ∈ idsOf l := List.mem_map_of_mem h
mutual
theorem mem_way (t : Id) (u x : U) (hn : (idsOf (every u)).Nodup) (hx : x ∈ every u) (ht : wayM t x ≠ []) : x ∈ wayM t u := by
  obtain ⟨y, hy, hyt⟩ := way_id ht
  cases u with
  | mk a b c d e kids =>
    have hself := wayM_eq t ⟨a, b, c, d, e, kids⟩
    have hl := memL_way t kids x
    simp only [every, List.mem_cons] at hx hn
    rw [show idsOf (⟨a, b, c, d, e, kids⟩ :: everyL kids) = a :: idsOf (everyL kids) from rfl, List.nodup_cons] at hn
    rcases hx with rfl | hx
    · rw [hself] at ht ⊢
      split
      · simp
      · rename_i ha
        rw [if_neg ha] at ht
        split
        · rename_i hw; rw [hw] at ht; exact absurd rfl ht
        · simp
    · have hm := hl hn.2 hx ht
      rw [hself, if_neg]
      · split
        · rename_i hw; rw [hw] at hm; cases hm
        · rename_i w ws hw; rw [hw] at hm; exact List.mem_cons_of_mem _ hm
      · intro ha
        simp only at ha
        have hyk : y ∈ everyL kids := everyL_sub hx y hy
        exact hn.1 (by rw [ha, ← hyt]; exact idsOf_mem hyk)
theorem memL_way (t : Id) (l : List U) (x : U) (hn : (idsOf (everyL l)).Nodup) (hx : x ∈ everyL l) (ht : wayM t x ≠ []) : x ∈ wayL t l := by
  obtain ⟨y, hy, hyt⟩ := way_id ht
  cases l with
  | nil => simp [everyL] at hx
  | cons k ks =>
    have h1 := mem_way t k x
    have h2 := memL_way t ks x
    simp only [everyL, List.mem_append, idsOf_append] at hx hn
    rw [List.nodup_append] at hn
    obtain ⟨n1, n2, n3⟩ := hn
    simp only [wayL]
    rcases hx with hx | hx
    · have hm := h1 n1 hx ht
      split
      · rename_i hw; rw [hw] at hm; cases hm
      · rename_i w ws hw; rw [hw] at hm; exact hm
    · split
      · exact h2 n2 hx ht
      · rename_i w ws hw
        exfalso
        obtain ⟨z, hz, hzt⟩ := way_id (t := t) (u := k) (by rw [hw]; simp)
        have hyk : y ∈ everyL ks := everyL_sub hx y hy
        exact n3 _ (idsOf_mem hz) _ (idsOf_mem hyk) (by rw [hzt, hyt])
end
/-- The IDs of the ancestors, the nearest first. -/
def ancM (u : U) (t : Id) : List Id := (idsOf (wayM t u).dropLast).reverse
theorem nodup_id {l : List U} (hn : (idsOf l).Nodup) {x y : U} (hx : x ∈ l) (hy : y ∈ l) (h : x.id = y.id) : x = y := by
  induction l with
  | nil => cases hx
  | cons z l ih =>
    rw [show idsOf (z :: l) = z.id :: idsOf l from rfl, List.nodup_cons] at hn
    rcases List.mem_cons.1 hx with rfl | hx'
    · rcases List.mem_cons.1 hy with rfl | hy'
      · rfl
      · exact absurd (by rw [h]; exact idsOf_mem hy') hn.1
    · rcases List.mem_cons.1 hy with rfl | hy'
      · exact absurd (by rw [← h]; exact idsOf_mem hx') hn.1
      · exact ih hn.2 hx' hy'
theorem findM_id {u : U} {id : Id} (h : wayM id u ≠ []) : (findM u id).1 ∈ every u ∧ (findM u id).1.id = id := by
  obtain ⟨l, y, h1, h2⟩ := way_split id u h
  have : findM u id = (y, true) := by
    unfold findM
    rw [h1]
    simp
  rw [this]
  exact ⟨wayM_mem id u y (by rw [h1]; simp), h2⟩
theorem anc_iff {u : U} {id t : Id} (hn : (idsOf (every u)).Nodup) (hid : wayM id u ≠ []) (hne : t ≠ id) : decide (id ∈ ancM u t) = (findM (findM u id).1 t).2 := by
  obtain ⟨f1, f2⟩ := findM_id hid
  rw [Bool.eq_iff_iff, decide_eq_true_eq, findM_ok]
  constructor
  · intro h
    simp only [ancM, List.mem_reverse] at h
    obtain ⟨x, hx, hxi⟩ := List.mem_map.1 h
    have hxw : x ∈ wayM t u := (List.dropLast_subset _) hx
    have := way_sub t u x hxw
    have he : x = (findM u id).1 := nodup_id hn (wayM_mem t u x hxw) f1 (hxi.trans f2.symm)
    rw [← he]
    cases hw : wayM t x with
    | nil => exact absurd hw this
    | cons => rfl
  · intro h
    have hw : wayM t (findM u id).1 ≠ [] := by intro e; rw [e] at h; simp at h
    have hm := mem_way t u _ hn f1 hw
    obtain ⟨l, y, h1, h2⟩ := way_split t u (fun e => by rw [e] at hm; cases hm)
    rw [ancM, h1, List.dropLast_concat, List.mem_reverse]
    rw [h1, List.mem_append, List.mem_singleton] at hm
    rcases hm with hm | hm
    · rw [← f2]; exact idsOf_mem hm
    · exact absurd (by rw [← h2, ← hm, f2]) hne
end Go.Ai
