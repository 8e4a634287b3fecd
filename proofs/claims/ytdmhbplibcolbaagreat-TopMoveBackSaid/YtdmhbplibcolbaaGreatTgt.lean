/- A part of the proof: no statement of the seat is proved in this text. -/
import Derived.Test.YtdmhbplibcolbaaGreatRf
set_option linter.unusedVariables false
set_option linter.unusedSimpArgs false
namespace Go.Ai
open Go Go.Ai.Tryz
def eSp (i : Id) (a : Int) : AV := .agg [.int .i64 i.act, .int .i64 i.item, .int .i64 i.n, .int .i64 a]
@[go_sem] theorem cells_eSp (i : Id) (a : Int) : (eSp i a).cells = [.int .i64 i.act, .int .i64 i.item, .int .i64 i.n, .int .i64 a] := rfl
@[go_sem] theorem fold_eSp (i : Id) (a : Int) : AV.agg [.int .i64 i.act, .int .i64 i.item, .int .i64 i.n, .int .i64 a] = eSp i a := rfl
@[go_sem] theorem agg_eSp (i : Id) (a : Int) : (eSp i a).isAgg = true := rfl
@[go_sem] theorem fit_eSp (i : Id) (a : Int) (n m : Nat) : (eSp i a).fit n m = true := rfl
theorem idxW_bd (id : Id) (l : List U) (n : Nat) : -1 ≤ idxW id l n ∧ idxW id l n ≤ n + l.length := by
  induction l generalizing n with
  | nil => simp [idxW]
  | cons k ks ih =>
    simp only [idxW, List.length_cons]
    split
    · have := ih (n + 1); omega
    · omega
theorem parentM_bd (u : U) (id : Id) (hb : (every u).length ≤ 1000) : -1 ≤ (parentM u id).2.1 ∧ (parentM u id).2.1 ≤ 1000 := by
  unfold parentM
  split
  · simp
  · split
    · rename_i p hp
      have h1 := idxW_bd id p.kids 0
      have h2 := every_le u p (wayM_mem id u p (List.mem_of_getElem? hp))
      rw [every_eq p, List.length_cons] at h2
      have h3 := len_everyL p.kids
      simp only; omega
    · simp
def leadM (w : Int) (u : U) (id : Id) : Id × Int × Int :=
  if w = 0 then (id, 0, 0) else if w = 1 then (id, (findM u id).1.kids.length, 0) else
    if (parentM u id).2.2 then ((parentM u id).1, (parentM u id).2.1 + (if w = 2 then 1 else 0), 0) else (zeroId, 0, 9)
def insM (u : U) (p : List Step) (w : Int) : Id × Int × Int :=
  if (decide (0 ≤ w) && decide (w ≤ 3)) = true then
    if (oneM (idsM u p)).2 = 0 then
      if (leadM w u (oneM (idsM u p)).1).2.2 = 0 then leadM w u (oneM (idsM u p)).1 else (zeroId, 0, (leadM w u (oneM (idsM u p)).1).2.2)
    else (zeroId, 0, (oneM (idsM u p)).2)
  else (zeroId, 0, 1)
theorem findM_every {u : U} {id : Id} (h : (findM u id).2 = true) : (findM u id).1 ∈ every u := by
  unfold findM at h ⊢
  split
  · rename_i x hx; exact wayM_mem id u x (List.mem_of_getElem? hx)
  · rename_i e; rw [e] at h; cases h
theorem findM_kids (u : U) (id : Id) (hb : (every u).length ≤ 1000) : (findM u id).1.kids.length ≤ 1000 := by
  by_cases h : (findM u id).2 = true
  · have h1 := findM_every h
    have h2 := every_le u _ h1
    rw [every_eq (findM u id).1, List.length_cons] at h2
    have h3 := len_everyL (findM u id).1.kids
    omega
  · have h' : (findM u id).2 = false := by simpa using h
    rw [findM_none (wayM_nil h')]; simp [zeroU]
end Go.Ai
namespace Go.Ai.Tryz
open Go Go.Ai Go.Proofs
variable {w0 : World}
theorem spec85 (n : Int) (H : AH) (Q : AV → AH → Prop) (h : Q (.int .i64 0) H) : ACalls Tryz.prog w0 85 [.int .i64 n] H Q := by
  refine enter85 (by simp) fun hwf hok R hR hR0 => ?_
  unfold x85
  simp only [go_sem]
  exact hR _ _ _ rfl (.same (.refl hwf) rfl h)
theorem spec87 (n : Int) (H : AH) (Q : AV → AH → Prop) (h : Q (.int .i64 n) H) : ACalls Tryz.prog w0 87 [.int .i64 n] H Q := by
  refine enter87 (by simp) fun hwf hok R hR hR0 => ?_
  unfold x87
  simp only [go_sem]
  exact hR _ _ _ rfl (.same (.refl hwf) rfl h)
theorem spec84 (u : U) (id : Id) (hb : (every u).length ≤ 1000) (hs : small (every u)) (f : FuncId) (g : Int → Int) (hf : ∀ (n : Int) (H : AH) (Q : AV → AH → Prop), Q (.int .i64 (g n)) H → ACalls Tryz.prog w0 f [.int .i64 n] H Q)
    (H : AH) (Q : AV → AH → Prop) (h : Q (.tup [eSp id (g (findM u id).1.kids.length), .int .i64 0]) H) : ACalls Tryz.prog w0 84 [eU u, eId id, .fn f []] H Q := by
  refine enter84 (by simp) fun hwf hok R hR hR0 => ?_
  unfold x84
  simp only [go_sem]
  refine spec105 u id hb hs _ _ ?_
  simp only [go_sem, dr84_0]
  refine PCalls.of (r := .int .i64 (g (((findM u id).1.kids.map eU).length))) (fun H' => hf _ _ _ ⟨rfl, rfl⟩) ?_
  simp only [go_sem]
  exact hR _ _ _ (ares_ct (ares1_cell (v := eSp (id) (g ((findM u id).1.kids.map eU).length)) (id := H.n + 1 + 1) (off := 0) (cs := [.int .i64 (id).act, .int .i64 (id).item, .int .i64 (id).n, .int .i64 (g ((findM u id).1.kids.map eU).length)]) (e := 82) tt_82 (by simp only [go_sem]) (by simp only [go_sem]) (by decide) (by simp only [go_sem]) rfl) (w := .int .i64 0) (by simp only [go_sem])) (.same (.push (.push (.push (.push (.refl hwf) _) _) _) _) rfl (by simpa only [List.length_map] using h))
theorem spec89 (u : U) (id : Id) (b : Int) (hb0 : 0 ≤ b ∧ b ≤ 1) (hb : (every u).length ≤ 1000) (H : AH) (Q : AV → AH → Prop)
    (h : Q (if (parentM u id).2.2 then .tup [eSp (parentM u id).1 ((parentM u id).2.1 + b), .int .i64 0] else .tup [eSp zeroId 0, .int .i64 9]) H) : ACalls Tryz.prog w0 89 [eU u, eId id, .int .i64 b] H Q := by
  refine enter89 (by simp) fun hwf hok R hR hR0 => ?_
  unfold x89
  simp only [go_sem]
  refine spec68 u id hb _ _ ?_
  simp only [go_sem]
  have hpb := parentM_bd u id hb
  by_cases hp : (parentM u id).2.2 = true
  · rw [if_pos hp] at h
    simp only [go_sem, hp, Bool.not_true]
    rw [wrap_i64.2 (by omega)]
    exact hR _ _ _ (ares_ct (ares1_cell (v := eSp ((parentM u id).1) ((parentM u id).2.1 + b)) (id := H.n + 1 + 1) (off := 0) (cs := [.int .i64 ((parentM u id).1).act, .int .i64 ((parentM u id).1).item, .int .i64 ((parentM u id).1).n, .int .i64 ((parentM u id).2.1 + b)]) (e := 82) tt_82 (by simp only [go_sem]) (by simp only [go_sem]) (by decide) (by simp only [go_sem]) rfl) (w := .int .i64 0) (by simp only [go_sem])) (.same (.push (.push (.push (.push (.refl hwf) _) _) _) _) rfl (by simpa only [List.length_map] using h))
  · rw [if_neg hp] at h
    have hp' : (parentM u id).2.2 = false := by simpa using hp
    simp only [go_sem, hp', Bool.not_false]
    exact hR _ _ _ (ares_ct (ares1_cell (v := eSp (zeroId) (0)) (id := H.n + 1 + 1) (off := 0) (cs := [.int .i64 (zeroId).act, .int .i64 (zeroId).item, .int .i64 (zeroId).n, .int .i64 (0)]) (e := 82) tt_82 (by simp only [go_sem]) (by simp only [go_sem]; rfl) (by decide) (by simp only [go_sem]) rfl) (w := .int .i64 9) (by simp only [go_sem])) (.same (.push (.push (.push (.push (.refl hwf) _) _) _) _) rfl (by simpa only [List.length_map] using h))
theorem spec83 (u : U) (id : Id) (hb : (every u).length ≤ 1000) (hs : small (every u)) (H : AH) (Q : AV → AH → Prop) (h : Q (.tup [eSp (leadM 0 u id).1 (leadM 0 u id).2.1, .int .i64 (leadM 0 u id).2.2]) H) : ACalls Tryz.prog w0 83 [eU u, eId id] H Q := by
  refine enter83 (by simp) fun hwf hok R hR hR0 => ?_
  unfold x83
  simp only [go_sem]
  refine spec84 u id hb hs 85 (fun _ => 0) spec85 _ _ ?_
  simp only [go_sem]
  rw [show leadM 0 u id = (id, 0, 0) from rfl] at h
  exact hR _ _ _ (ares_ct (ares1_cell (v := eSp (id) (0)) (id := H.n + 1 + 1) (off := 0) (cs := [.int .i64 (id).act, .int .i64 (id).item, .int .i64 (id).n, .int .i64 (0)]) (e := 82) tt_82 (by simp only [go_sem]) (by simp only [go_sem]) (by decide) (by simp only [go_sem]) rfl) (w := .int .i64 0) (by simp only [go_sem])) (.same (.push (.push (.push (.refl hwf) _) _) _) rfl (by simpa only [List.length_map] using h))
theorem spec86 (u : U) (id : Id) (hb : (every u).length ≤ 1000) (hs : small (every u)) (H : AH) (Q : AV → AH → Prop) (h : Q (.tup [eSp (leadM 1 u id).1 (leadM 1 u id).2.1, .int .i64 (leadM 1 u id).2.2]) H) : ACalls Tryz.prog w0 86 [eU u, eId id] H Q := by
  refine enter86 (by simp) fun hwf hok R hR hR0 => ?_
  unfold x86
  simp only [go_sem]
  refine spec84 u id hb hs 87 (fun n => n) spec87 _ _ ?_
  simp only [go_sem]
  rw [show leadM 1 u id = (id, (((findM u id).1.kids.length : Nat) : Int), 0) from rfl] at h
  exact hR _ _ _ (ares_ct (ares1_cell (v := eSp (id) ((((findM u id).1.kids.length : Nat) : Int))) (id := H.n + 1 + 1) (off := 0) (cs := [.int .i64 (id).act, .int .i64 (id).item, .int .i64 (id).n, .int .i64 ((((findM u id).1.kids.length : Nat) : Int))]) (e := 82) tt_82 (by simp only [go_sem]) (by simp only [go_sem]) (by decide) (by simp only [go_sem]) rfl) (w := .int .i64 0) (by simp only [go_sem])) (.same (.push (.push (.push (.refl hwf) _) _) _) rfl (by simpa only [List.length_map] using h))
theorem spec88 (u : U) (id : Id) (hb : (every u).length ≤ 1000) (hs : small (every u)) (H : AH) (Q : AV → AH → Prop) (h : Q (.tup [eSp (leadM 2 u id).1 (leadM 2 u id).2.1, .int .i64 (leadM 2 u id).2.2]) H) : ACalls Tryz.prog w0 88 [eU u, eId id] H Q := by
  refine enter88 (by simp) fun hwf hok R hR hR0 => ?_
  unfold x88
  simp only [go_sem]
  refine spec89 u id 1 (by omega) hb _ _ ?_
  by_cases hp : (parentM u id).2.2 = true
  · rw [show leadM 2 u id = ((parentM u id).1, (parentM u id).2.1 + 1, 0) by simp [leadM, hp]] at h
    rw [if_pos hp]
    simp only [go_sem]
    exact hR _ _ _ (ares_ct (ares1_cell (v := eSp ((parentM u id).1) ((parentM u id).2.1 + 1)) (id := H.n + 1 + 1) (off := 0) (cs := [.int .i64 ((parentM u id).1).act, .int .i64 ((parentM u id).1).item, .int .i64 ((parentM u id).1).n, .int .i64 ((parentM u id).2.1 + 1)]) (e := 82) tt_82 (by simp only [go_sem]) (by simp only [go_sem]) (by decide) (by simp only [go_sem]) rfl) (w := .int .i64 0) (by simp only [go_sem])) (.same (.push (.push (.push (.refl hwf) _) _) _) rfl (by simpa only [List.length_map] using h))
  · rw [show leadM 2 u id = (zeroId, 0, 9) by simp [leadM, hp]] at h
    rw [if_neg hp]
    simp only [go_sem]
    exact hR _ _ _ (ares_ct (ares1_cell (v := eSp (zeroId) (0)) (id := H.n + 1 + 1) (off := 0) (cs := [.int .i64 (zeroId).act, .int .i64 (zeroId).item, .int .i64 (zeroId).n, .int .i64 (0)]) (e := 82) tt_82 (by simp only [go_sem]) (by simp only [go_sem]) (by decide) (by simp only [go_sem]) rfl) (w := .int .i64 9) (by simp only [go_sem])) (.same (.push (.push (.push (.refl hwf) _) _) _) rfl (by simpa only [List.length_map] using h))
theorem spec90 (u : U) (id : Id) (hb : (every u).length ≤ 1000) (hs : small (every u)) (H : AH) (Q : AV → AH → Prop) (h : Q (.tup [eSp (leadM 3 u id).1 (leadM 3 u id).2.1, .int .i64 (leadM 3 u id).2.2]) H) : ACalls Tryz.prog w0 90 [eU u, eId id] H Q := by
  refine enter90 (by simp) fun hwf hok R hR hR0 => ?_
  unfold x90
  simp only [go_sem]
  refine spec89 u id 0 (by omega) hb _ _ ?_
  by_cases hp : (parentM u id).2.2 = true
  · rw [show leadM 3 u id = ((parentM u id).1, (parentM u id).2.1 + 0, 0) by simp [leadM, hp]] at h
    rw [if_pos hp]
    simp only [go_sem]
    exact hR _ _ _ (ares_ct (ares1_cell (v := eSp ((parentM u id).1) ((parentM u id).2.1 + 0)) (id := H.n + 1 + 1) (off := 0) (cs := [.int .i64 ((parentM u id).1).act, .int .i64 ((parentM u id).1).item, .int .i64 ((parentM u id).1).n, .int .i64 ((parentM u id).2.1 + 0)]) (e := 82) tt_82 (by simp only [go_sem]) (by simp only [go_sem]) (by decide) (by simp only [go_sem]) rfl) (w := .int .i64 0) (by simp only [go_sem])) (.same (.push (.push (.push (.refl hwf) _) _) _) rfl (by simpa only [List.length_map] using h))
  · rw [show leadM 3 u id = (zeroId, 0, 9) by simp [leadM, hp]] at h
    rw [if_neg hp]
    simp only [go_sem]
    exact hR _ _ _ (ares_ct (ares1_cell (v := eSp (zeroId) (0)) (id := H.n + 1 + 1) (off := 0) (cs := [.int .i64 (zeroId).act, .int .i64 (zeroId).item, .int .i64 (zeroId).n, .int .i64 (0)]) (e := 82) tt_82 (by simp only [go_sem]) (by simp only [go_sem]) (by decide) (by simp only [go_sem]) rfl) (w := .int .i64 9) (by simp only [go_sem])) (.same (.push (.push (.push (.refl hwf) _) _) _) rfl (by simpa only [List.length_map] using h))
theorem spec67 (H : AH) (Q : AV → AH → Prop) (h : Q (.agg [.fn 83 [], .fn 86 [], .fn 88 [], .fn 90 []]) H) : ACalls Tryz.prog w0 67 [] H Q := by
  refine enter67 (by simp) fun hwf hok R hR hR0 => ?_
  unfold x67
  simp only [go_sem, Nat.zero_mul, Nat.reduceMul, List.take_zero, List.nil_append, List.singleton_append, List.drop_zero, List.take_succ_cons, List.drop_succ_cons, List.cons_append]
  refine hR _ _ _ (ares_c (ares1_cell (v := .agg [.fn 83 [], .fn 86 [], .fn 88 [], .fn 90 []]) (id := H.n) (off := 0) (cs := [.fn 83 [], .fn 86 [], .fn 88 [], .fn 90 []]) (e := 110) tt_110 (by simp only [go_sem]) (by simp only [go_sem]) (by decide) (by simp only [go_sem]) rfl)) (.same (.push (.refl hwf) _) rfl h)
end Go.Ai.Tryz
