/- A part of the proof: no statement of the seat is proved in this text. -/
import Derived.Test.YtcphpaeebaacgaaG6
set_option linter.unusedVariables false
set_option linter.unusedSimpArgs false
set_option maxRecDepth 20000
namespace Go.Ai
open Go Go.Ai.Try
theorem ACalls.weakArgs {P : Program} {w0 : World} {f : FuncId} {args args' : List AV} {H : AH} {Q : AV → AH → Prop} (hl : args.length = args'.length) (hw : ∀ (j : Nat) (c d : AV), args[j]? = some c → args'[j]? = some d → c.Weak d) (h : ACalls P w0 f args' H Q) : ACalls P w0 f args H Q := by
  refine ⟨h.fn, fun G w vs hS hr => h.run G w vs hS ⟨hl ▸ hr.1, fun j d v h1 h2 => ?_⟩⟩
  have hj : j < args.length := by rw [hl]; exact (List.getElem?_eq_some_iff.1 h1).1
  exact hw j _ d (List.getElem?_eq_getElem hj) h1 G v (hr.2 j _ v (List.getElem?_eq_getElem hj) h2)
theorem AV.Weak.trans {a b c : AV} (h : a.Weak b) (k : b.Weak c) : a.Weak c := fun G v hv => k G v (h G v hv)
theorem AV.Weak.slice {l l' : List AV} {sz : Nat} (hl : l.length = l'.length) (hs : ∀ x, x ∈ l' → x.cells.length = sz) (hf : (flat l).length = (flat l').length) (h : ∀ (j : Nat) (c d : AV), (flat l)[j]? = some c → (flat l')[j]? = some d → c.Weak d) : (AV.slice l).Weak (.slice l') := by
  intro G v hv
  rcases hv.slice_inv with ⟨rfl, rfl⟩ | ⟨b, off, cap, sz', rfl, h1, h2, h3, h4⟩ | ⟨a, cap, rfl, rfl⟩
  rotate_left 2
  · have : l' = [] := List.eq_nil_of_length_eq_zero (by rw [← hl]; rfl)
    subst this
    exact .sliceE a cap
  · have : l' = [] := List.eq_nil_of_length_eq_zero (by rw [← hl]; rfl)
    subst this
    exact .sliceNil
  · rw [hl]
    refine Rep.slice_mk (sz := sz) (fun o d hd => ?_) hs (by omega) (by omega)
    have ho : o < (flat l).length := by rw [hf]; exact (List.getElem?_eq_some_iff.1 hd).1
    obtain ⟨u, k1, k2⟩ := h4 o _ (List.getElem?_eq_getElem ho)
    exact ⟨u, k1, h o _ d (List.getElem?_eq_getElem ho) hd G u k2⟩
def zItem : List AV := [.int .i64 0, .nilS, .nilS, .int .i64 0, .int .i64 0, .int .i64 0, .int .i64 0, .int .i64 0, .int .i64 0, .str ByteArray.empty, .nilS, .nilS, .nilS, .nilS, .nilS, .str ByteArray.empty, .str ByteArray.empty, .int .i64 0, .int .i64 0, .str ByteArray.empty, .int .i64 0, .int .i64 0, .int .i64 0, .str ByteArray.empty, .nilS]
/-- An item of which nothing stands but At. -/
def itemAt (p : List Step) : AV := .agg (.int .i64 0 :: .slice (p.map eS) :: zItem.drop 2)
end Go.Ai
namespace Go.Ai.Try
open Go Go.Ai Go.Proofs
variable {w0 : World}
theorem hes : ByteArray.empty.size = 0 := rfl
theorem weak_zeroU : (AV.agg [.int .i64 0, .int .i64 0, .int .i64 0, .int .i64 0, .str ByteArray.empty, .nilS, .nilS, .nilS]).Weak (eU zeroU) := by rw [eU_eq]; exact AV.Weak.cells _
theorem spec8 (p : List Step) (H : AH) (Q : AV → AH → Prop) (h : ∀ b, Q (.bool b) H) : ACalls Try.prog w0 8 [itemAt p] H Q := by
  refine enter8 (by simp) fun hwf hok R hR hR0 => ?_
  have fin : ∀ b env' H', look 2 env' = .bool b → H.Sub H' → R .ret env' H' := fun b env' H' h2 h3 => hR _ _ _ rfl (.same h3 (by rw [h2]; rfl) (by rw [h2]; exact h b))
  unfold x8
  simp only [itemAt, zItem, List.drop]
  cases h12 : decide (12 < (((p.map eS).length : Nat) : Int)) with
  | true =>
    simp only [go_sem, List.mem_singleton, forall_eq, List.not_mem_nil, false_imp_iff, implies_true, Int.reduceToNat, Int.reduceLT, decide_true, decide_false, Nat.reduceEqDiff, ↓reduceIte, Nat.reduceAdd, Int.reduceLE, Int.reduceNeg, Nat.reduceLeDiff, Nat.reduceLT, Int.reduceEq, Nat.reduceEqDiff, List.map_nil, List.length_nil, List.map_cons, List.length_cons, h12]
    exact fin false _ _ (by simp only [go_sem, List.mem_singleton, forall_eq, List.not_mem_nil, false_imp_iff, implies_true, Int.reduceToNat, Int.reduceLT, decide_true, decide_false, Nat.reduceEqDiff, ↓reduceIte, Nat.reduceAdd, Int.reduceLE, Int.reduceNeg, Nat.reduceLeDiff, Nat.reduceLT, Int.reduceEq, Nat.reduceEqDiff, List.map_nil, List.length_nil, List.map_cons, List.length_cons]) (.push (.refl hwf) _)
  | false =>
    simp only [go_sem, List.mem_singleton, forall_eq, List.not_mem_nil, false_imp_iff, implies_true, Int.reduceToNat, Int.reduceLT, decide_true, decide_false, Nat.reduceEqDiff, ↓reduceIte, Nat.reduceAdd, Int.reduceLE, Int.reduceNeg, Nat.reduceLeDiff, Nat.reduceLT, Int.reduceEq, Nat.reduceEqDiff, List.map_nil, List.length_nil, List.map_cons, List.length_cons, h12, hes]
    refine ACalls.weakArgs (args' := [eU zeroU, .int .i64 30]) rfl (fun j c d h1 h2 => ?_) ?_
    · match j with
      | 0 => simp at h1 h2; subst h1; subst h2; exact weak_zeroU
      | 1 => simp at h1 h2; subst h1; subst h2; exact .refl _
      | j + 2 => simp at h1
    refine spec18 zeroU _ _ fun b hb => ?_
    cases b with
    | false =>
      simp only [go_sem, List.mem_singleton, forall_eq, List.not_mem_nil, false_imp_iff, implies_true, Int.reduceToNat, Int.reduceLT, decide_true, decide_false, Nat.reduceEqDiff, ↓reduceIte, Nat.reduceAdd, Int.reduceLE, Int.reduceNeg, Nat.reduceLeDiff, Nat.reduceLT, Int.reduceEq, Nat.reduceEqDiff, List.map_nil, List.length_nil, List.map_cons, List.length_cons, Bool.not_false]
      exact fin false _ _ (by simp only [go_sem, List.mem_singleton, forall_eq, List.not_mem_nil, false_imp_iff, implies_true, Int.reduceToNat, Int.reduceLT, decide_true, decide_false, Nat.reduceEqDiff, ↓reduceIte, Nat.reduceAdd, Int.reduceLE, Int.reduceNeg, Nat.reduceLeDiff, Nat.reduceLT, Int.reduceEq, Nat.reduceEqDiff, List.map_nil, List.length_nil, List.map_cons, List.length_cons]) (.push (.refl hwf) _)
    | true =>
      simp only [go_sem, List.mem_singleton, forall_eq, List.not_mem_nil, false_imp_iff, implies_true, Int.reduceToNat, Int.reduceLT, decide_true, decide_false, Nat.reduceEqDiff, ↓reduceIte, Nat.reduceAdd, Int.reduceLE, Int.reduceNeg, Nat.reduceLeDiff, Nat.reduceLT, Int.reduceEq, Nat.reduceEqDiff, List.map_nil, List.length_nil, List.map_cons, List.length_cons, Bool.not_true]
      refine AX.iter (S := Unit) ttOk (fun _ => [(1, .ptr H.n 0), (3, .int .i64 0)]) (fun _ => H.push (.cells (.int .i64 0 :: .slice (p.map eS) :: zItem.drop 2) 37)) (fun _ => 0) (fun _ => True) () ?_ rfl trivial ?_
      · simp only [go_sem, List.mem_singleton, forall_eq, List.not_mem_nil, false_imp_iff, implies_true, Int.reduceToNat, Int.reduceLT, decide_true, decide_false, Nat.reduceEqDiff, ↓reduceIte, Nat.reduceAdd, Int.reduceLE, Int.reduceNeg, Nat.reduceLeDiff, Nat.reduceLT, Int.reduceEq, Nat.reduceEqDiff, List.map_nil, List.length_nil, List.map_cons, List.length_cons]
      rintro _ _ hk0 hwf0 K0 R0 hK0 hQ0
      unfold l8_0
      simp only [zItem, List.drop]
      simp only [go_sem, List.mem_singleton, forall_eq, List.not_mem_nil, false_imp_iff, implies_true, Int.reduceToNat, Int.reduceLT, decide_true, decide_false, Nat.reduceEqDiff, ↓reduceIte, Nat.reduceAdd, Int.reduceLE, Int.reduceNeg, Nat.reduceLeDiff, Nat.reduceLT, Int.reduceEq, Nat.reduceEqDiff, List.map_nil, List.length_nil, List.map_cons, List.length_cons]
      refine hQ0 _ _ _ ?_
      simp only [go_sem, List.mem_singleton, forall_eq, List.not_mem_nil, false_imp_iff, implies_true, Int.reduceToNat, Int.reduceLT, decide_true, decide_false, Nat.reduceEqDiff, ↓reduceIte, Nat.reduceAdd, Int.reduceLE, Int.reduceNeg, Nat.reduceLeDiff, Nat.reduceLT, Int.reduceEq, Nat.reduceEqDiff, List.map_nil, List.length_nil, List.map_cons, List.length_cons]
      refine AX.iter (S := Unit) ttOk (fun _ => [(1, .ptr H.n 0), (4, .int .i64 0)]) (fun _ => H.push (.cells (.int .i64 0 :: .slice (p.map eS) :: zItem.drop 2) 37)) (fun _ => 0) (fun _ => True) () ?_ rfl trivial ?_
      · simp only [go_sem, List.mem_singleton, forall_eq, List.not_mem_nil, false_imp_iff, implies_true, Int.reduceToNat, Int.reduceLT, decide_true, decide_false, Nat.reduceEqDiff, ↓reduceIte, Nat.reduceAdd, Int.reduceLE, Int.reduceNeg, Nat.reduceLeDiff, Nat.reduceLT, Int.reduceEq, Nat.reduceEqDiff, List.map_nil, List.length_nil, List.map_cons, List.length_cons]
      rintro _ _ hk1 hwf1 K1 R1 hK1 hQ1
      unfold l8_1
      simp only [zItem, List.drop]
      simp only [go_sem, List.mem_singleton, forall_eq, List.not_mem_nil, false_imp_iff, implies_true, Int.reduceToNat, Int.reduceLT, decide_true, decide_false, Nat.reduceEqDiff, ↓reduceIte, Nat.reduceAdd, Int.reduceLE, Int.reduceNeg, Nat.reduceLeDiff, Nat.reduceLT, Int.reduceEq, Nat.reduceEqDiff, List.map_nil, List.length_nil, List.map_cons, List.length_cons]
      refine hQ1 _ _ _ ?_
      simp only [go_sem, List.mem_singleton, forall_eq, List.not_mem_nil, false_imp_iff, implies_true, Int.reduceToNat, Int.reduceLT, decide_true, decide_false, Nat.reduceEqDiff, ↓reduceIte, Nat.reduceAdd, Int.reduceLE, Int.reduceNeg, Nat.reduceLeDiff, Nat.reduceLT, Int.reduceEq, Nat.reduceEqDiff, List.map_nil, List.length_nil, List.map_cons, List.length_cons]
      refine AX.iter (S := List Step × List Step) ttOk (fun a => [(1, .ptr H.n 0), (5, .int .i64 a.1.length)]) (fun _ => H.push (.cells (.int .i64 0 :: .slice (p.map eS) :: zItem.drop 2) 37)) (fun a => a.2.length) (fun a => a.1 ++ a.2 = p) ([], p) ?_ rfl rfl ?_
      · simp only [go_sem, List.mem_singleton, forall_eq, List.not_mem_nil, false_imp_iff, implies_true, Int.reduceToNat, Int.reduceLT, decide_true, decide_false, Nat.reduceEqDiff, ↓reduceIte, Nat.reduceAdd, Int.reduceLE, Int.reduceNeg, Nat.reduceLeDiff, Nat.reduceLT, Int.reduceEq, Nat.reduceEqDiff, List.map_nil, List.length_nil, List.map_cons, List.length_cons]
      rintro ⟨pre, post⟩ h2 hk2 hwf2 K2 R2 hK2 hQ2
      simp only at h2 hK2
      unfold l8_2
      simp only [zItem, List.drop]
      rcases post with _ | ⟨k, ks⟩
      · have hb := ge_of h2 eS
        simp only [go_sem, List.mem_singleton, forall_eq, List.not_mem_nil, false_imp_iff, implies_true, Int.reduceToNat, Int.reduceLT, decide_true, decide_false, Nat.reduceEqDiff, ↓reduceIte, Nat.reduceAdd, Int.reduceLE, Int.reduceNeg, Nat.reduceLeDiff, Nat.reduceLT, Int.reduceEq, Nat.reduceEqDiff, List.map_nil, List.length_nil, List.map_cons, List.length_cons, hb]
        refine hQ2 _ _ _ ?_
        simp only [go_sem, List.mem_singleton, forall_eq, List.not_mem_nil, false_imp_iff, implies_true, Int.reduceToNat, Int.reduceLT, decide_true, decide_false, Nat.reduceEqDiff, ↓reduceIte, Nat.reduceAdd, Int.reduceLE, Int.reduceNeg, Nat.reduceLeDiff, Nat.reduceLT, Int.reduceEq, Nat.reduceEqDiff, List.map_nil, List.length_nil, List.map_cons, List.length_cons]
        refine AX.iter (S := Unit) ttOk (fun _ => [(1, .ptr H.n 0), (6, .int .i64 0)]) (fun _ => H.push (.cells (.int .i64 0 :: .slice (p.map eS) :: zItem.drop 2) 37)) (fun _ => 0) (fun _ => True) () ?_ rfl trivial ?_
        · simp only [go_sem, List.mem_singleton, forall_eq, List.not_mem_nil, false_imp_iff, implies_true, Int.reduceToNat, Int.reduceLT, decide_true, decide_false, Nat.reduceEqDiff, ↓reduceIte, Nat.reduceAdd, Int.reduceLE, Int.reduceNeg, Nat.reduceLeDiff, Nat.reduceLT, Int.reduceEq, Nat.reduceEqDiff, List.map_nil, List.length_nil, List.map_cons, List.length_cons]
        rintro _ _ hk3 hwf3 K3 R3 hK3 hQ3
        unfold l8_3
        simp only [zItem, List.drop]
        simp only [go_sem, List.mem_singleton, forall_eq, List.not_mem_nil, false_imp_iff, implies_true, Int.reduceToNat, Int.reduceLT, decide_true, decide_false, Nat.reduceEqDiff, ↓reduceIte, Nat.reduceAdd, Int.reduceLE, Int.reduceNeg, Nat.reduceLeDiff, Nat.reduceLT, Int.reduceEq, Nat.reduceEqDiff, List.map_nil, List.length_nil, List.map_cons, List.length_cons]
        refine hQ3 _ _ _ ?_
        simp only [go_sem, List.mem_singleton, forall_eq, List.not_mem_nil, false_imp_iff, implies_true, Int.reduceToNat, Int.reduceLT, decide_true, decide_false, Nat.reduceEqDiff, ↓reduceIte, Nat.reduceAdd, Int.reduceLE, Int.reduceNeg, Nat.reduceLeDiff, Nat.reduceLT, Int.reduceEq, Nat.reduceEqDiff, List.map_nil, List.length_nil, List.map_cons, List.length_cons]
        refine AX.iter (S := Unit) ttOk (fun _ => [(1, .ptr H.n 0), (7, .int .i64 0)]) (fun _ => H.push (.cells (.int .i64 0 :: .slice (p.map eS) :: zItem.drop 2) 37)) (fun _ => 0) (fun _ => True) () ?_ rfl trivial ?_
        · simp only [go_sem, List.mem_singleton, forall_eq, List.not_mem_nil, false_imp_iff, implies_true, Int.reduceToNat, Int.reduceLT, decide_true, decide_false, Nat.reduceEqDiff, ↓reduceIte, Nat.reduceAdd, Int.reduceLE, Int.reduceNeg, Nat.reduceLeDiff, Nat.reduceLT, Int.reduceEq, Nat.reduceEqDiff, List.map_nil, List.length_nil, List.map_cons, List.length_cons]
        rintro _ _ hk5 hwf5 K5 R5 hK5 hQ5
        unfold l8_5
        simp only [zItem, List.drop]
        simp only [go_sem, List.mem_singleton, forall_eq, List.not_mem_nil, false_imp_iff, implies_true, Int.reduceToNat, Int.reduceLT, decide_true, decide_false, Nat.reduceEqDiff, ↓reduceIte, Nat.reduceAdd, Int.reduceLE, Int.reduceNeg, Nat.reduceLeDiff, Nat.reduceLT, Int.reduceEq, Nat.reduceEqDiff, List.map_nil, List.length_nil, List.map_cons, List.length_cons]
        refine hQ5 _ _ _ ?_
        simp only [go_sem, List.mem_singleton, forall_eq, List.not_mem_nil, false_imp_iff, implies_true, Int.reduceToNat, Int.reduceLT, decide_true, decide_false, Nat.reduceEqDiff, ↓reduceIte, Nat.reduceAdd, Int.reduceLE, Int.reduceNeg, Nat.reduceLeDiff, Nat.reduceLT, Int.reduceEq, Nat.reduceEqDiff, List.map_nil, List.length_nil, List.map_cons, List.length_cons]
        exact fin true _ _ (by simp only [go_sem, List.mem_singleton, forall_eq, List.not_mem_nil, false_imp_iff, implies_true, Int.reduceToNat, Int.reduceLT, decide_true, decide_false, Nat.reduceEqDiff, ↓reduceIte, Nat.reduceAdd, Int.reduceLE, Int.reduceNeg, Nat.reduceLeDiff, Nat.reduceLT, Int.reduceEq, Nat.reduceEqDiff, List.map_nil, List.length_nil, List.map_cons, List.length_cons]) (.push (.refl hwf) _)
      · have hb := lt_of h2 eS
        have ha := at_of h2 eS
        have hl := len_of h2
        have hpl : p.length ≤ 12 := by simp at h12; omega
        have hw : IntKind.i64.wrap ((pre.length : Int) + 1) = pre.length + 1 := wrap_i64.2 (by omega)
        simp only [go_sem, List.mem_singleton, forall_eq, List.not_mem_nil, false_imp_iff, implies_true, Int.reduceToNat, Int.reduceLT, decide_true, decide_false, Nat.reduceEqDiff, ↓reduceIte, Nat.reduceAdd, Int.reduceLE, Int.reduceNeg, Nat.reduceLeDiff, Nat.reduceLT, Int.reduceEq, Nat.reduceEqDiff, List.map_nil, List.length_nil, List.map_cons, List.length_cons, hb, ha, hw]
        refine ⟨by omega, fun _ => ?_, fun _ => ?_⟩
        · refine hQ2 _ _ _ ?_
          simp only [go_sem, List.mem_singleton, forall_eq, List.not_mem_nil, false_imp_iff, implies_true, Int.reduceToNat, Int.reduceLT, decide_true, decide_false, Nat.reduceEqDiff, ↓reduceIte, Nat.reduceAdd, Int.reduceLE, Int.reduceNeg, Nat.reduceLeDiff, Nat.reduceLT, Int.reduceEq, Nat.reduceEqDiff, List.map_nil, List.length_nil, List.map_cons, List.length_cons]
          exact fin false _ _ (by simp only [go_sem, List.mem_singleton, forall_eq, List.not_mem_nil, false_imp_iff, implies_true, Int.reduceToNat, Int.reduceLT, decide_true, decide_false, Nat.reduceEqDiff, ↓reduceIte, Nat.reduceAdd, Int.reduceLE, Int.reduceNeg, Nat.reduceLeDiff, Nat.reduceLT, Int.reduceEq, Nat.reduceEqDiff, List.map_nil, List.length_nil, List.map_cons, List.length_cons]) (.push (.refl hwf) _)
        · refine hK2 _ _ (pre ++ [k], ks) (by simp) (snoc_of h2) (.refl hwf2) (Nat.le_refl _) (Nat.le_refl _) ?_
          simp only [go_sem, List.mem_singleton, forall_eq, List.not_mem_nil, false_imp_iff, implies_true, Int.reduceToNat, Int.reduceLT, decide_true, decide_false, Nat.reduceEqDiff, ↓reduceIte, Nat.reduceAdd, Int.reduceLE, Int.reduceNeg, Nat.reduceLeDiff, Nat.reduceLT, Int.reduceEq, Nat.reduceEqDiff, List.map_nil, List.length_nil, List.map_cons, List.length_cons, len_snoc]
          simp
end Go.Ai.Try

set_option linter.unusedVariables false
set_option linter.unusedSimpArgs false
set_option maxRecDepth 20000
namespace Go.Ai
open Go Go.Ai.Try
def wk1 : U := ⟨⟨1, 0, 1⟩, 2, ⟨#[49]⟩, [], [], []⟩
def wk2 : U := ⟨⟨1, 0, 2⟩, 2, ⟨#[50]⟩, [], [], []⟩
def wku : U := ⟨⟨0, 0, 0⟩, 0, ⟨#[]⟩, [], [], [wk1, wk2]⟩
theorem wk_a : insM wku [⟨2, ⟨#[49]⟩⟩] 2 = (⟨0, 0, 0⟩, 1, 0) := by decide
theorem wk_b : insM wku [] 1 = (⟨0, 0, 0⟩, 2, 0) := by decide
theorem AV.Weak.sliceF {l l' : List AV} {sz : Nat} (hl : l.length = l'.length) (hs : ∀ x, x ∈ l' → x.cells.length = sz) (hf : flat l' = (flat l).map AV.forget) : (AV.slice l).Weak (.slice l') :=
  AV.Weak.slice hl hs (by rw [hf]; simp) fun j c d h1 h2 => by
    rw [hf, List.getElem?_map, h1] at h2
    simp at h2; subst h2
    exact .forget c
def wkA : List AV := [.agg [.int .i64 1, .int .i64 0, .int .i64 1, .int .i64 2, .str ⟨#[49]⟩, .nilS, .nilS, .nilS], .agg [.int .i64 1, .int .i64 0, .int .i64 2, .int .i64 2, .str ⟨#[50]⟩, .nilS, .nilS, .nilS]]
theorem weak_kids (t : Nat) : (AV.own wkA t).Weak (.slice ([wk1, wk2].map eU)) := by
  refine AV.Weak.trans (.forget _) (AV.Weak.sliceF (sz := 8) rfl (fun x hx => (elem_eU _ x hx).1) ?_)
  show (eU wk1).cells ++ ((eU wk2).cells ++ []) = _
  rw [cells_eU, cells_eU]
  rfl
theorem weak_wku (t : Nat) : (AV.agg [.int .i64 0, .int .i64 0, .int .i64 0, .int .i64 0, .str ByteArray.empty, .nilS, .nilS, .own wkA t]).Weak (eU wku) := by
  rw [eU_eq]
  refine .agg rfl fun j c d h1 h2 => ?_
  match j with
  | 0 => simp [U.cs] at h1 h2; subst h1; subst h2; exact .refl _
  | 1 => simp [U.cs] at h1 h2; subst h1; subst h2; exact .refl _
  | 2 => simp [U.cs] at h1 h2; subst h1; subst h2; exact .refl _
  | 3 => simp [U.cs] at h1 h2; subst h1; subst h2; exact .refl _
  | 4 => simp [U.cs] at h1 h2; subst h1; subst h2; exact .refl _
  | 5 => simp [U.cs] at h1 h2; subst h1; subst h2; exact AV.Weak.forget .nilS
  | 6 => simp [U.cs] at h1 h2; subst h1; subst h2; exact AV.Weak.forget .nilS
  | 7 => simp only [U.cs, List.getElem?_cons_succ, List.getElem?_cons_zero, Option.some.injEq] at h1 h2; subst h1; subst h2; exact weak_kids t
  | j + 8 => simp at h1
theorem wk_small : small (every wku) := by
  intro x hx
  have : every wku = [wku, wk1, wk2] := rfl
  rw [this] at hx
  simp at hx
  rcases hx with rfl | rfl | rfl <;> simp [wku, wk1, wk2]
end Go.Ai
namespace Go.Ai.Try
open Go Go.Ai Go.Proofs
variable {w0 : World}
theorem spec6 (H : AH) (Q : AV → AH → Prop) (h : Q (.bool true) H) : ACalls Try.prog w0 6 [] H Q := by
  refine enter6 (by simp) fun hwf hok R hR hR0 => ?_
  have fin : ∀ env' H', look 0 env' = .bool true → H.Sub H' → R .ret env' H' := fun env' H' h2 h3 => hR _ _ _ rfl (.same h3 (by rw [h2]; rfl) (by rw [h2]; exact h))
  have e49 : ((#[49] : Array UInt8).size ≤ 281474976710656) = True := by simp
  have e50 : ((#[50] : Array UInt8).size ≤ 281474976710656) = True := by simp
  unfold x6
  simp only [go_sem, List.mem_singleton, forall_eq, List.not_mem_nil, false_imp_iff, implies_true, Int.reduceToNat, Int.reduceLT, decide_true, decide_false, Nat.reduceEqDiff, ↓reduceIte, Nat.reduceAdd, Int.reduceLE, Int.reduceNeg, Nat.reduceLeDiff, Nat.reduceLT, Int.reduceEq, Nat.reduceEqDiff, List.map_nil, List.length_nil, List.map_cons, List.length_cons, e49, e50, List.nil_append, List.singleton_append, List.cons_append]
  refine ⟨⟨rfl, by decide, by omega⟩, by omega, ?_⟩
  refine ACalls.weakArgs (args' := [eU wku, .slice ([(⟨2, ⟨#[49]⟩⟩ : Step)].map eS), .int .i64 2]) rfl (fun j c d h1 h2 => ?_) ?_
  · match j with
    | 0 => simp only [List.getElem?_cons_zero, Option.some.injEq] at h1 h2; subst h1; subst h2; exact weak_wku _
    | 1 => simp only [List.getElem?_cons_succ, List.getElem?_cons_zero, Option.some.injEq] at h1 h2; subst h1; subst h2; exact AV.Weak.forget (.own _ _)
    | 2 => simp only [List.getElem?_cons_succ, List.getElem?_cons_zero, Option.some.injEq] at h1 h2; subst h1; subst h2; exact .refl _
    | j + 3 => simp at h1
  refine spec9 wku _ 2 (by decide) wk_small _ _ ?_
  rw [wk_a]
  simp only [go_sem, List.mem_singleton, forall_eq, List.not_mem_nil, false_imp_iff, implies_true, Int.reduceToNat, Int.reduceLT, decide_true, decide_false, Nat.reduceEqDiff, ↓reduceIte, Nat.reduceAdd, Int.reduceLE, Int.reduceNeg, Nat.reduceLeDiff, Nat.reduceLT, Int.reduceEq, Nat.reduceEqDiff, List.map_nil, List.length_nil, List.map_cons, List.length_cons]
  refine ACalls.weakArgs (args' := [eU wku, .slice (([] : List Step).map eS), .int .i64 1]) rfl (fun j c d h1 h2 => ?_) ?_
  · match j with
    | 0 => simp only [List.getElem?_cons_zero, Option.some.injEq] at h1 h2; subst h1; subst h2; exact weak_wku _
    | 1 => simp only [List.getElem?_cons_succ, List.getElem?_cons_zero, Option.some.injEq] at h1 h2; subst h1; subst h2; exact AV.Weak.forget .nilS
    | 2 => simp only [List.getElem?_cons_succ, List.getElem?_cons_zero, Option.some.injEq] at h1 h2; subst h1; subst h2; exact .refl _
    | j + 3 => simp at h1
  refine spec9 wku _ 1 (by decide) wk_small _ _ ?_
  rw [wk_b]
  have ez : decide ((⟨0, 0, 0⟩ : Id) = zeroId) = true := rfl
  simp only [go_sem, List.mem_singleton, forall_eq, List.not_mem_nil, false_imp_iff, implies_true, Int.reduceToNat, Int.reduceLT, decide_true, decide_false, Nat.reduceEqDiff, ↓reduceIte, Nat.reduceAdd, Int.reduceLE, Int.reduceNeg, Nat.reduceLeDiff, Nat.reduceLT, Int.reduceEq, Nat.reduceEqDiff, List.map_nil, List.length_nil, List.map_cons, List.length_cons, ez]
  exact fin _ _ (by simp only [go_sem, List.mem_singleton, forall_eq, List.not_mem_nil, false_imp_iff, implies_true, Int.reduceToNat, Int.reduceLT, decide_true, decide_false, Nat.reduceEqDiff, ↓reduceIte, Nat.reduceAdd, Int.reduceLE, Int.reduceNeg, Nat.reduceLeDiff, Nat.reduceLT, Int.reduceEq, Nat.reduceEqDiff, List.map_nil, List.length_nil, List.map_cons, List.length_cons]) (.push (.push (.pushTok (.push (.pushTok (.refl hwf) _) _) _) _) _)
theorem spec3 (u : U) (p : List Step) (w : Int) (H : AH) (Q : AV → AH → Prop) (h : Q (.bool true) H) : ACalls Try.prog w0 3 [eU u, .slice (p.map eS), .int .i64 w] H Q := by
  refine enter3 (by simp) fun hwf hok R hR hR0 => ?_
  have fin : ∀ env' H', look 6 env' = .bool true → H.Sub H' → R .ret env' H' := fun env' H' h2 h3 => hR _ _ _ rfl (.same h3 (by rw [h2]; rfl) (by rw [h2]; exact h))
  unfold x3
  simp only [go_sem, List.mem_singleton, forall_eq, List.not_mem_nil, false_imp_iff, implies_true, Int.reduceToNat, Int.reduceLT, decide_true, decide_false, Nat.reduceEqDiff, ↓reduceIte, Nat.reduceAdd, Int.reduceLE, Int.reduceNeg, Nat.reduceLeDiff, Nat.reduceLT, Int.reduceEq, Nat.reduceEqDiff, List.map_nil, List.length_nil, List.map_cons, List.length_cons]
  refine spec6 _ _ ?_
  simp only [go_sem, List.mem_singleton, forall_eq, List.not_mem_nil, false_imp_iff, implies_true, Int.reduceToNat, Int.reduceLT, decide_true, decide_false, Nat.reduceEqDiff, ↓reduceIte, Nat.reduceAdd, Int.reduceLE, Int.reduceNeg, Nat.reduceLeDiff, Nat.reduceLT, Int.reduceEq, Nat.reduceEqDiff, List.map_nil, List.length_nil, List.map_cons, List.length_cons, Bool.not_true]
  refine spec7 u _ _ fun b hb => ?_
  cases b with
  | false =>
    simp only [go_sem, List.mem_singleton, forall_eq, List.not_mem_nil, false_imp_iff, implies_true, Int.reduceToNat, Int.reduceLT, decide_true, decide_false, Nat.reduceEqDiff, ↓reduceIte, Nat.reduceAdd, Int.reduceLE, Int.reduceNeg, Nat.reduceLeDiff, Nat.reduceLT, Int.reduceEq, Nat.reduceEqDiff, List.map_nil, List.length_nil, List.map_cons, List.length_cons, Bool.not_false]
    exact fin _ _ (by simp only [go_sem, List.mem_singleton, forall_eq, List.not_mem_nil, false_imp_iff, implies_true, Int.reduceToNat, Int.reduceLT, decide_true, decide_false, Nat.reduceEqDiff, ↓reduceIte, Nat.reduceAdd, Int.reduceLE, Int.reduceNeg, Nat.reduceLeDiff, Nat.reduceLT, Int.reduceEq, Nat.reduceEqDiff, List.map_nil, List.length_nil, List.map_cons, List.length_cons]) (.push (.refl hwf) _)
  | true =>
    obtain ⟨hb1, hs, -⟩ := hb rfl
    simp only [go_sem, List.mem_singleton, forall_eq, List.not_mem_nil, false_imp_iff, implies_true, Int.reduceToNat, Int.reduceLT, decide_true, decide_false, Nat.reduceEqDiff, ↓reduceIte, Nat.reduceAdd, Int.reduceLE, Int.reduceNeg, Nat.reduceLeDiff, Nat.reduceLT, Int.reduceEq, Nat.reduceEqDiff, List.map_nil, List.length_nil, List.map_cons, List.length_cons, Bool.not_true]
    refine spec8 p _ _ fun b2 => ?_
    cases b2 with
    | false =>
      simp only [go_sem, List.mem_singleton, forall_eq, List.not_mem_nil, false_imp_iff, implies_true, Int.reduceToNat, Int.reduceLT, decide_true, decide_false, Nat.reduceEqDiff, ↓reduceIte, Nat.reduceAdd, Int.reduceLE, Int.reduceNeg, Nat.reduceLeDiff, Nat.reduceLT, Int.reduceEq, Nat.reduceEqDiff, List.map_nil, List.length_nil, List.map_cons, List.length_cons, Bool.not_false]
      exact fin _ _ (by simp only [go_sem, List.mem_singleton, forall_eq, List.not_mem_nil, false_imp_iff, implies_true, Int.reduceToNat, Int.reduceLT, decide_true, decide_false, Nat.reduceEqDiff, ↓reduceIte, Nat.reduceAdd, Int.reduceLE, Int.reduceNeg, Nat.reduceLeDiff, Nat.reduceLT, Int.reduceEq, Nat.reduceEqDiff, List.map_nil, List.length_nil, List.map_cons, List.length_cons]) (.push (.refl hwf) _)
    | true =>
      simp only [go_sem, List.mem_singleton, forall_eq, List.not_mem_nil, false_imp_iff, implies_true, Int.reduceToNat, Int.reduceLT, decide_true, decide_false, Nat.reduceEqDiff, ↓reduceIte, Nat.reduceAdd, Int.reduceLE, Int.reduceNeg, Nat.reduceLeDiff, Nat.reduceLT, Int.reduceEq, Nat.reduceEqDiff, List.map_nil, List.length_nil, List.map_cons, List.length_cons, Bool.not_true]
      refine spec9 u p w (by omega) hs _ _ ?_
      simp only [go_sem, List.mem_singleton, forall_eq, List.not_mem_nil, false_imp_iff, implies_true, Int.reduceToNat, Int.reduceLT, decide_true, decide_false, Nat.reduceEqDiff, ↓reduceIte, Nat.reduceAdd, Int.reduceLE, Int.reduceNeg, Nat.reduceLeDiff, Nat.reduceLT, Int.reduceEq, Nat.reduceEqDiff, List.map_nil, List.length_nil, List.map_cons, List.length_cons]
      refine spec10 u p w (by omega) _ _ ?_
      have e1 : decide ((insM u p w).1 = (insM u p w).1) = true := by simp
      have e2 : decide ((insM u p w).2.1 = (insM u p w).2.1) = true := by simp
      have e3 : decide ((insM u p w).2.2 = (insM u p w).2.2) = true := by simp
      simp only [go_sem, List.mem_singleton, forall_eq, List.not_mem_nil, false_imp_iff, implies_true, Int.reduceToNat, Int.reduceLT, decide_true, decide_false, Nat.reduceEqDiff, ↓reduceIte, Nat.reduceAdd, Int.reduceLE, Int.reduceNeg, Nat.reduceLeDiff, Nat.reduceLT, Int.reduceEq, Nat.reduceEqDiff, List.map_nil, List.length_nil, List.map_cons, List.length_cons, e1, e2, e3]
      exact fin _ _ (by simp only [go_sem, List.mem_singleton, forall_eq, List.not_mem_nil, false_imp_iff, implies_true, Int.reduceToNat, Int.reduceLT, decide_true, decide_false, Nat.reduceEqDiff, ↓reduceIte, Nat.reduceAdd, Int.reduceLE, Int.reduceNeg, Nat.reduceLeDiff, Nat.reduceLT, Int.reduceEq, Nat.reduceEqDiff, List.map_nil, List.length_nil, List.map_cons, List.length_cons]) (.push (.push (.push (.refl hwf) _) _) _)
end Go.Ai.Try
