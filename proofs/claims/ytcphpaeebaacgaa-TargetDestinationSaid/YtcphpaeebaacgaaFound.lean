/- A part of the proof: no statement of the seat is proved in this text. -/
import Derived.Test.YtcphpaeebaacgaaAdr
import Derived.Test.YtcphpaeebaacgaaAdr2
set_option linter.unusedVariables false
set_option linter.unusedSimpArgs false
namespace Go.Ai
open Go
theorem aset_self {α : Type} (k : Nat) (x : α) (l : List (Nat × α)) (h : alook k l = some x) : aset k x l = l := by
  induction l with
  | nil => rfl
  | cons p e ih =>
    obtain ⟨j, v⟩ := p
    simp only [alook, aset] at h ⊢
    split
    · rename_i hj; rw [if_pos hj] at h; cases h; rfl
    · rename_i hj; rw [if_neg hj] at h; rw [ih h]
theorem aset_aset {α : Type} (k : Nat) (x y : α) (l : List (Nat × α)) : aset k x (aset k y l) = aset k x l := by
  induction l with
  | nil => rfl
  | cons p e ih =>
    obtain ⟨j, v⟩ := p
    simp only [aset]
    split
    · rename_i hj; simp [aset, hj]
    · rename_i hj; simp [aset, hj, ih]
/-- The heap with a row, that lies in the cell ia, at l. -/
def rowH (H : AH) (tk ia : Nat) (te ce : TypeId) (sz : Nat) (l : List AV) : AH := (H.putTok tk ⟨l.length, te, sz⟩).put ia (.cells [.own l tk] ce)
section
variable {H : AH} {tk ia : Nat} {te ce : TypeId} {sz : Nat} {l l' : List AV}
theorem rowH_self (h1 : H.obj ia = some (.cells [.own l tk] ce)) (h2 : H.tok tk = some ⟨l.length, te, sz⟩) : rowH H tk ia te ce sz l = H := by
  simp only [rowH, AH.put, AH.putTok, aset_self _ _ _ h2, aset_self _ _ _ h1]
theorem rowH_rowH : rowH (rowH H tk ia te ce sz l) tk ia te ce sz l' = rowH H tk ia te ce sz l' := by simp only [rowH, AH.put, AH.putTok, aset_aset]
@[go_sem] theorem rowH_n : (rowH H tk ia te ce sz l).n = H.n := rfl
@[go_sem] theorem rowH_m : (rowH H tk ia te ce sz l).m = H.m := rfl
theorem rowH_push (h : ia ≠ H.n) (o : AObj) : rowH (H.push o) tk ia te ce sz l = (rowH H tk ia te ce sz l).push o := by simp only [rowH]; rw [← AH.put_push (by exact h)]; rfl
theorem rowH_obj_ne {i : Nat} (h : i ≠ ia) : (rowH H tk ia te ce sz l).obj i = H.obj i := by simp only [rowH]; rw [obj_put, if_neg h]; rfl
theorem rowH_obj (h : H.obj ia ≠ none) : (rowH H tk ia te ce sz l).obj ia = some (.cells [.own l tk] ce) := by
  simp only [rowH]; rw [obj_put, if_pos rfl]
  obtain ⟨o, ho⟩ := Option.ne_none_iff_exists'.1 h
  rw [show (H.putTok tk ⟨l.length, te, sz⟩).obj ia = H.obj ia from rfl, ho]; rfl
theorem rowH_tok (h : H.tok tk ≠ none) : (rowH H tk ia te ce sz l).tok tk = some ⟨l.length, te, sz⟩ := by
  show (H.putTok tk ⟨l.length, te, sz⟩).tok tk = _
  obtain ⟨o, ho⟩ := Option.ne_none_iff_exists'.1 h
  rw [tok_putTok, if_pos rfl, ho]; rfl
theorem rowH_WF (h : H.WF) (ht : tk < H.m) (hf : AV.fitL H.n H.m l = true) : (rowH H tk ia te ce sz l).WF := by
  refine ⟨fun i hi => ?_, fun t ht' => ?_, fun i cs t ho => ?_, fun i es ho e he => ?_⟩
  · simp only [rowH, obj_put_ne]; exact h.obj i hi
  · show (H.putTok tk ⟨l.length, te, sz⟩).tok t = none
    rw [tok_putTok, if_neg (by simp only [rowH_m] at ht'; omega)]; exact h.tok t ht'
  · by_cases e : i = ia
    · subst e
      simp only [rowH] at ho
      rw [obj_put, if_pos rfl] at ho
      cases h1 : (H.putTok tk ⟨l.length, te, sz⟩).obj i with
      | none => rw [h1] at ho; cases ho
      | some o =>
        rw [h1] at ho; cases ho
        simp [AV.fitL, AV.fit, ht, hf, rowH_n, rowH_m]
    · rw [rowH_obj_ne e] at ho; exact h.fit i cs t ho
  · by_cases e' : i = ia
    · subst e'
      simp only [rowH] at ho
      rw [obj_put, if_pos rfl] at ho
      cases h1 : (H.putTok tk ⟨l.length, te, sz⟩).obj i with
      | none => rw [h1] at ho; cases ho
      | some o => rw [h1] at ho; cases ho
    · rw [rowH_obj_ne e'] at ho; exact h.fitM i es ho e he
end
def sel (s : Step) (l : List U) : List U := l.filter (isAt · s)
end Go.Ai
namespace Go.Ai.Try
open Go Go.Ai Go.Proofs
variable {w0 : World}

theorem spec57 (x : U) (s : Step) (r : List Step) (l : List U) (tk ia ip : Nat) (H : AH) (h1 : H.obj ia = some (.cells [.own (l.map eU) tk] 25)) (h2 : H.obj ip = some (.cells [.slice ((s :: r).map eS)] 28)) (h3 : H.tok tk = some ⟨l.length, 27, 8⟩) (hlen : l.length ≤ 1000000)
    (Q : AV → AH → Prop) (h : Q (.tup []) (rowH H tk ia 27 25 8 ((l ++ sel s [x]).map eU))) : ACalls Try.prog w0 57 [eU x, .ptr ip 0, .ptr ia 0] H Q := by
  refine enter57 (by simp) fun hwf hok R hR hR0 => ?_
  have hx := U.good (hok (eU x) (by simp))
  have na : ¬ ia = H.n := by intro e; subst e; rw [hwf.obj _ (Nat.le_refl _)] at h1; cases h1
  have np : ¬ ip = H.n := by intro e; subst e; rw [hwf.obj _ (Nat.le_refl _)] at h2; cases h2
  have ht : tk < H.m := by
    rcases Nat.lt_or_ge tk H.m with h4 | h4
    · exact h4
    · rw [hwf.tok _ h4] at h3; cases h3
  unfold x57
  simp only [go_sem, List.mem_singleton, forall_eq, List.not_mem_nil, false_imp_iff, implies_true, Int.reduceToNat, Int.reduceLT, decide_true, decide_false, Nat.reduceEqDiff, ↓reduceIte, Nat.reduceAdd, Int.reduceLE, Int.reduceNeg, Nat.reduceLeDiff, Nat.reduceLT, dr57_0, na, np, h2, List.map_cons]
  refine PCalls.of (r := .bool (isAt x s)) (fun H' => spec58 x s _ _ ⟨rfl, rfl⟩) ?_
  by_cases hs : isAt x s = true
  · simp only [go_sem, List.mem_singleton, forall_eq, List.not_mem_nil, false_imp_iff, implies_true, Int.reduceToNat, Int.reduceLT, decide_true, decide_false, Nat.reduceEqDiff, ↓reduceIte, Nat.reduceAdd, Int.reduceLE, Int.reduceNeg, Nat.reduceLeDiff, Nat.reduceLT, hs]
    refine dr57_1 _ _ _ ?_
    simp only [go_sem, List.mem_singleton, forall_eq, List.not_mem_nil, false_imp_iff, implies_true, Int.reduceToNat, Int.reduceLT, decide_true, decide_false, Nat.reduceEqDiff, ↓reduceIte, Nat.reduceAdd, Int.reduceLE, Int.reduceNeg, Nat.reduceLeDiff, Nat.reduceLT, na, np, h1]
    refine ⟨by decide, l.map eU, tk, _, eU x, ia, 0, [.own (l.map eU) tk], 25, by simp only [go_sem, List.mem_singleton, forall_eq, List.not_mem_nil, false_imp_iff, implies_true, Int.reduceToNat, Int.reduceLT, decide_true, decide_false, Nat.reduceEqDiff, ↓reduceIte, Nat.reduceAdd, Int.reduceLE, Int.reduceNeg, Nat.reduceLeDiff, Nat.reduceLT], by simp only [go_sem, List.mem_singleton, forall_eq, List.not_mem_nil, false_imp_iff, implies_true, Int.reduceToNat, Int.reduceLT, decide_true, decide_false, Nat.reduceEqDiff, ↓reduceIte, Nat.reduceAdd, Int.reduceLE, Int.reduceNeg, Nat.reduceLeDiff, Nat.reduceLT]; rfl, by simp only [go_sem, List.mem_singleton, forall_eq, List.not_mem_nil, false_imp_iff, implies_true, Int.reduceToNat, Int.reduceLT, decide_true, decide_false, Nat.reduceEqDiff, ↓reduceIte, Nat.reduceAdd, Int.reduceLE, Int.reduceNeg, Nat.reduceLeDiff, Nat.reduceLT], by simp only [go_sem, List.mem_singleton, forall_eq, List.not_mem_nil, false_imp_iff, implies_true, Int.reduceToNat, Int.reduceLT, decide_true, decide_false, Nat.reduceEqDiff, ↓reduceIte, Nat.reduceAdd, Int.reduceLE, Int.reduceNeg, Nat.reduceLeDiff, Nat.reduceLT], by simp only [go_sem, List.mem_singleton, forall_eq, List.not_mem_nil, false_imp_iff, implies_true, Int.reduceToNat, Int.reduceLT, decide_true, decide_false, Nat.reduceEqDiff, ↓reduceIte, Nat.reduceAdd, Int.reduceLE, Int.reduceNeg, Nat.reduceLeDiff, Nat.reduceLT], ⟨rfl, rfl⟩, by simp only [go_sem, List.mem_singleton, forall_eq, List.not_mem_nil, false_imp_iff, implies_true, Int.reduceToNat, Int.reduceLT, decide_true, decide_false, Nat.reduceEqDiff, ↓reduceIte, Nat.reduceAdd, Int.reduceLE, Int.reduceNeg, Nat.reduceLeDiff, Nat.reduceLT], by simp only [go_sem, List.mem_singleton, forall_eq, List.not_mem_nil, false_imp_iff, implies_true, Int.reduceToNat, Int.reduceLT, decide_true, decide_false, Nat.reduceEqDiff, ↓reduceIte, Nat.reduceAdd, Int.reduceLE, Int.reduceNeg, Nat.reduceLeDiff, Nat.reduceLT, h3, List.length_map], by simp only [go_sem, List.mem_singleton, forall_eq, List.not_mem_nil, false_imp_iff, implies_true, Int.reduceToNat, Int.reduceLT, decide_true, decide_false, Nat.reduceEqDiff, ↓reduceIte, Nat.reduceAdd, Int.reduceLE, Int.reduceNeg, Nat.reduceLeDiff, Nat.reduceLT, na, h1], by simp, by simp only [go_sem, List.mem_singleton, forall_eq, List.not_mem_nil, false_imp_iff, implies_true, Int.reduceToNat, Int.reduceLT, decide_true, decide_false, Nat.reduceEqDiff, ↓reduceIte, Nat.reduceAdd, Int.reduceLE, Int.reduceNeg, Nat.reduceLeDiff, Nat.reduceLT, List.length_map]; omega, by simp; omega, ?_⟩
    have e : sel s [x] = [x] := by simp [sel, hs]
    rw [e, List.map_append, List.map_singleton] at h
    refine hR0 _ _ (hR _ _ _ ⟨_, rfl, rfl⟩ (.inl ⟨.tup [], rowH H tk ia 27 25 8 (l.map eU ++ [eU x]), .refl _, rfl, ?_, rfl, rfl, h⟩))
    rw [show (l.map eU).length + 1 = (l.map eU ++ [eU x]).length by simp]
    show AH.Sub _ (rowH (H.push _) tk ia 27 25 8 (l.map eU ++ [eU x]))
    rw [rowH_push na]
    exact .push (.refl (rowH_WF hwf ht (by simp only [go_sem, List.mem_singleton, forall_eq, List.not_mem_nil, false_imp_iff, implies_true, Int.reduceToNat, Int.reduceLT, decide_true, decide_false, Nat.reduceEqDiff, ↓reduceIte, Nat.reduceAdd, Int.reduceLE, Int.reduceNeg, Nat.reduceLeDiff, Nat.reduceLT]))) _
  · have hs' : isAt x s = false := by simpa using hs
    simp only [go_sem, List.mem_singleton, forall_eq, List.not_mem_nil, false_imp_iff, implies_true, Int.reduceToNat, Int.reduceLT, decide_true, decide_false, Nat.reduceEqDiff, ↓reduceIte, Nat.reduceAdd, Int.reduceLE, Int.reduceNeg, Nat.reduceLeDiff, Nat.reduceLT, hs']
    refine hR0 _ _ (hR _ _ _ ⟨_, rfl, rfl⟩ (.same (.push (.refl hwf) _) rfl ?_))
    have e : sel s [x] = [] := by simp [sel, hs']
    rw [e, List.append_nil, rowH_self h1 (by simpa using h3)] at h
    exact h
end Go.Ai.Try

set_option linter.unusedVariables false
set_option linter.unusedSimpArgs false
namespace Go.Ai
open Go
theorem AH.WF.lt {H : AH} (h : H.WF) {i : Nat} {o : AObj} (ho : H.obj i = some o) : i < H.n := by
  rcases Nat.lt_or_ge i H.n with h1 | h1
  · exact h1
  · rw [h.obj i h1] at ho; cases ho
theorem sel_append (s : Step) (a b : List U) : sel s (a ++ b) = sel s a ++ sel s b := by simp [sel]
theorem sel_len (s : Step) (a : List U) : (sel s a).length ≤ a.length := List.length_filter_le _ _
theorem sel_cons (s : Step) (x : U) (b : List U) : sel s (x :: b) = sel s [x] ++ sel s b := by rw [← List.singleton_append, sel_append]
end Go.Ai
namespace Go.Ai.Try
open Go Go.Ai Go.Proofs
variable {w0 : World}

theorem spec56 (u : U) (s : Step) (r : List Step) (l : List U) (tk ia ip : Nat) (H : AH) (h1 : H.obj ia = some (.cells [.own (l.map eU) tk] 25)) (h2 : H.obj ip = some (.cells [.slice ((s :: r).map eS)] 28)) (h3 : H.tok tk = some ⟨l.length, 27, 8⟩) (hpa : ip ≠ ia)
    (hlen : l.length + (every u).length ≤ 1000000)
    (Q : AV → AH → Prop) (h : Q (.tup []) (rowH H tk ia 27 25 8 ((l ++ sel s (every u)).map eU))) : ACalls Try.prog w0 56 [eU u, .fn 57 [.ptr ip 0, .ptr ia 0]] H Q := by
  refine enter56 (by simp) fun hwf hok R hR hR0 => ?_
  have hu := U.good (hok (eU u) (by simp))
  have hia : ia < H.n := hwf.lt h1
  have hip : ip < H.n := hwf.lt h2
  have na : ¬ ia = H.n := by omega
  have np : ¬ ip = H.n := by omega
  have na1 : ¬ ia = H.n + 1 := by omega
  have np1 : ¬ ip = H.n + 1 := by omega
  have ht : tk < H.m := by
    rcases Nat.lt_or_ge tk H.m with h4 | h4
    · exact h4
    · rw [hwf.tok _ h4] at h3; cases h3
  have ho1 : ∀ l', (rowH H tk ia 27 25 8 l').obj ia = some (.cells [.own l' tk] 25) := fun l' => rowH_obj (by rw [h1]; simp)
  have ho2 : ∀ l', (rowH H tk ia 27 25 8 l').obj ip = some (.cells [.slice ((s :: r).map eS)] 28) := fun l' => by rw [rowH_obj_ne hpa]; exact h2
  have ho3 : ∀ l', (rowH H tk ia 27 25 8 l').tok tk = some ⟨l'.length, 27, 8⟩ := fun l' => rowH_tok (by rw [h3]; simp)
  have hkl := hu.kids
  rw [every_eq] at hlen h
  simp only [List.length_cons] at hlen
  have hwf' : ∀ l' : List U, (rowH H tk ia 27 25 8 (l'.map eU)).WF := fun l' => rowH_WF hwf ht (by simp only [go_sem, List.mem_singleton, forall_eq, List.not_mem_nil, false_imp_iff, implies_true, Int.reduceToNat, Int.reduceLT, decide_true, decide_false, Nat.reduceEqDiff, ↓reduceIte, Nat.reduceAdd, Int.reduceLE, Int.reduceNeg, Nat.reduceLeDiff, Nat.reduceLT])
  unfold x56
  simp only [go_sem, List.mem_singleton, forall_eq, List.not_mem_nil, false_imp_iff, implies_true, Int.reduceToNat, Int.reduceLT, decide_true, decide_false, Nat.reduceEqDiff, ↓reduceIte, Nat.reduceAdd, Int.reduceLE, Int.reduceNeg, Nat.reduceLeDiff, Nat.reduceLT]
  refine spec57 u s r l tk ia ip _ ?_ ?_ ?_ ?_ _ ?_
  · simp only [go_sem, List.mem_singleton, forall_eq, List.not_mem_nil, false_imp_iff, implies_true, Int.reduceToNat, Int.reduceLT, decide_true, decide_false, Nat.reduceEqDiff, ↓reduceIte, Nat.reduceAdd, Int.reduceLE, Int.reduceNeg, Nat.reduceLeDiff, Nat.reduceLT, na, h1]
  · simp only [go_sem, List.mem_singleton, forall_eq, List.not_mem_nil, false_imp_iff, implies_true, Int.reduceToNat, Int.reduceLT, decide_true, decide_false, Nat.reduceEqDiff, ↓reduceIte, Nat.reduceAdd, Int.reduceLE, Int.reduceNeg, Nat.reduceLeDiff, Nat.reduceLT, np, h2]
  · simp only [go_sem, List.mem_singleton, forall_eq, List.not_mem_nil, false_imp_iff, implies_true, Int.reduceToNat, Int.reduceLT, decide_true, decide_false, Nat.reduceEqDiff, ↓reduceIte, Nat.reduceAdd, Int.reduceLE, Int.reduceNeg, Nat.reduceLeDiff, Nat.reduceLT, h3]
  · omega
  rw [rowH_push na]
  simp only [go_sem, List.mem_singleton, forall_eq, List.not_mem_nil, false_imp_iff, implies_true, Int.reduceToNat, Int.reduceLT, decide_true, decide_false, Nat.reduceEqDiff, ↓reduceIte, Nat.reduceAdd, Int.reduceLE, Int.reduceNeg, Nat.reduceLeDiff, Nat.reduceLT]
  refine AX.iter (S := List U × List U) ttOk (fun a => [(1, .fn 57 [.ptr ip 0, .ptr ia 0]), (10, .slice (u.kids.map eU)), (11, .int .i64 (u.kids.map eU).length), (12, .int .i64 a.1.length)]) (fun a => (rowH H tk ia 27 25 8 ((l ++ sel s (u :: everyL a.1)).map eU)).push (.cells u.cs 27)) (fun a => a.2.length)
    (fun a => a.1 ++ a.2 = u.kids) ([], u.kids) ?_ (by simp only [everyL]; rfl) rfl ?_
  · simp only [go_sem, List.mem_singleton, forall_eq, List.not_mem_nil, false_imp_iff, implies_true, Int.reduceToNat, Int.reduceLT, decide_true, decide_false, Nat.reduceEqDiff, ↓reduceIte, Nat.reduceAdd, Int.reduceLE, Int.reduceNeg, Nat.reduceLeDiff, Nat.reduceLT]
    exact Weak_of rfl
  · rintro ⟨pre, post⟩ h4 hk hwf1 K R' hK hQ
    simp only at h4 hK ⊢
    unfold l56_0
    rcases post with _ | ⟨k, ks⟩
    · have hb := ge_of h4 eU
      simp only [go_sem, List.mem_singleton, forall_eq, List.not_mem_nil, false_imp_iff, implies_true, Int.reduceToNat, Int.reduceLT, decide_true, decide_false, Nat.reduceEqDiff, ↓reduceIte, Nat.reduceAdd, Int.reduceLE, Int.reduceNeg, Nat.reduceLeDiff, Nat.reduceLT, hb]
      refine hQ _ _ _ ?_
      simp only [go_sem, List.mem_singleton, forall_eq, List.not_mem_nil, false_imp_iff, implies_true, Int.reduceToNat, Int.reduceLT, decide_true, decide_false, Nat.reduceEqDiff, ↓reduceIte, Nat.reduceAdd, Int.reduceLE, Int.reduceNeg, Nat.reduceLeDiff, Nat.reduceLT]
      rw [List.append_nil] at h4
      rw [← h4] at h
      refine hR0 _ _ (hR _ _ _ ⟨_, rfl, rfl⟩ (.inl ⟨.tup [], _, .refl _, rfl, .push (.refl (hwf' _)) _, rfl, rfl, h⟩))
    · have hb := lt_of h4 eU
      have ha := at_of h4 eU
      have hl := len_of h4
      have hsum : everyL u.kids = everyL pre ++ (every k ++ everyL ks) := by rw [← h4, everyL_append]; rfl
      have hlen' := hlen
      rw [hsum, List.length_append, List.length_append] at hlen'
      have hsl := sel_len s (u :: everyL pre)
      simp only [List.length_cons] at hsl
      simp only [go_sem, List.mem_singleton, forall_eq, List.not_mem_nil, false_imp_iff, implies_true, Int.reduceToNat, Int.reduceLT, decide_true, decide_false, Nat.reduceEqDiff, ↓reduceIte, Nat.reduceAdd, Int.reduceLE, Int.reduceNeg, Nat.reduceLeDiff, Nat.reduceLT, hb, ha]
      refine ⟨by omega, ?_⟩
      refine spec56 k s r (l ++ sel s (u :: everyL pre)) tk ia ip _ ?_ ?_ ?_ hpa ?_ _ ?_
      · simp only [go_sem, List.mem_singleton, forall_eq, List.not_mem_nil, false_imp_iff, implies_true, Int.reduceToNat, Int.reduceLT, decide_true, decide_false, Nat.reduceEqDiff, ↓reduceIte, Nat.reduceAdd, Int.reduceLE, Int.reduceNeg, Nat.reduceLeDiff, Nat.reduceLT, na, na1, ho1]
      · simp only [go_sem, List.mem_singleton, forall_eq, List.not_mem_nil, false_imp_iff, implies_true, Int.reduceToNat, Int.reduceLT, decide_true, decide_false, Nat.reduceEqDiff, ↓reduceIte, Nat.reduceAdd, Int.reduceLE, Int.reduceNeg, Nat.reduceLeDiff, Nat.reduceLT, np, np1, ho2]
      · simp only [go_sem, List.mem_singleton, forall_eq, List.not_mem_nil, false_imp_iff, implies_true, Int.reduceToNat, Int.reduceLT, decide_true, decide_false, Nat.reduceEqDiff, ↓reduceIte, Nat.reduceAdd, Int.reduceLE, Int.reduceNeg, Nat.reduceLeDiff, Nat.reduceLT, ho3, List.length_map]
      · rw [List.length_append]; omega
      rw [rowH_push (by simp only [go_sem, List.mem_singleton, forall_eq, List.not_mem_nil, false_imp_iff, implies_true, Int.reduceToNat, Int.reduceLT, decide_true, decide_false, Nat.reduceEqDiff, ↓reduceIte, Nat.reduceAdd, Int.reduceLE, Int.reduceNeg, Nat.reduceLeDiff, Nat.reduceLT]; omega), rowH_push (show ia ≠ (rowH _ _ _ _ _ _ _).n from na), rowH_rowH]
      simp only [go_sem, List.mem_singleton, forall_eq, List.not_mem_nil, false_imp_iff, implies_true, Int.reduceToNat, Int.reduceLT, decide_true, decide_false, Nat.reduceEqDiff, ↓reduceIte, Nat.reduceAdd, Int.reduceLE, Int.reduceNeg, Nat.reduceLeDiff, Nat.reduceLT]
      rw [wrap_i64.2 (by omega)]
      refine hK _ _ (pre ++ [k], ks) (by simp) (snoc_of h4) ?_ (Nat.le_refl _) (Nat.le_refl _) ?_
      · rw [everyL_snoc, ← List.cons_append, sel_append, ← List.append_assoc]
        refine .push (.refl (WF_push_cells (hwf' _) _ _ ?_)) _
        simp only [go_sem, List.mem_singleton, forall_eq, List.not_mem_nil, false_imp_iff, implies_true, Int.reduceToNat, Int.reduceLT, decide_true, decide_false, Nat.reduceEqDiff, ↓reduceIte, Nat.reduceAdd, Int.reduceLE, Int.reduceNeg, Nat.reduceLeDiff, Nat.reduceLT, U.cs]
      · simp only [go_sem, List.mem_singleton, forall_eq, List.not_mem_nil, false_imp_iff, implies_true, Int.reduceToNat, Int.reduceLT, decide_true, decide_false, Nat.reduceEqDiff, ↓reduceIte, Nat.reduceAdd, Int.reduceLE, Int.reduceNeg, Nat.reduceLeDiff, Nat.reduceLT, len_snoc]
        simp; omega
termination_by SizeOf.sizeOf u
decreasing_by exact kid_lt (mem_of h4)
end Go.Ai.Try

set_option linter.unusedVariables false
set_option linter.unusedSimpArgs false
namespace Go.Ai
open Go
@[go_sem] theorem ne2 (n : Nat) : (n = n + 1 + 1) = False := by simp; omega
@[go_sem] theorem ne2' (n : Nat) : (n + 1 + 1 = n) = False := by simp; omega
@[go_sem] theorem ne3 (n : Nat) : (n = n + 1 + 1 + 1) = False := by simp; omega
@[go_sem] theorem ne3' (n : Nat) : (n + 1 + 1 + 1 = n) = False := by simp; omega
@[go_sem] theorem ne4 (n : Nat) : (n = n + 1 + 1 + 1 + 1) = False := by simp; omega
@[go_sem] theorem ne4' (n : Nat) : (n + 1 + 1 + 1 + 1 = n) = False := by simp; omega
@[go_sem] theorem cast0 : ((0 : Nat) : Int) = 0 := rfl
@[go_sem] theorem cast1 : ((1 : Nat) : Int) = 1 := rfl
@[go_sem] theorem eq00 : decide ((0 : Int) = 0) = true := rfl
def stepM (s : Step) (l : List U) : List U := l.flatMap fun x => sel s x.kids
def walkM : List Step → List U → List U
  | [], l => l
  | s :: r, l => walkM r (stepM s l)
def startM (u : U) (s : Step) : List U := if isBook s then [u] else sel s (every u)
def foundM (u : U) (p : List Step) : List U := if addrOk' p then (match p with | [] => [u] | s :: r => walkM r (startM u s)) else []
theorem sel_nil (s : Step) : sel s [] = [] := rfl
theorem stepM_append (s : Step) (a b : List U) : stepM s (a ++ b) = stepM s a ++ stepM s b := by simp [stepM]
theorem stepM_one (s : Step) (x : U) : stepM s [x] = sel s x.kids := by simp [stepM]
theorem len_everyL (l : List U) : l.length ≤ (everyL l).length := by
  induction l with
  | nil => simp
  | cons x l ih =>
    simp only [everyL, List.length_append, List.length_cons, every_eq x]
    omega
theorem everyL_sel (s : Step) (l : List U) : (everyL (sel s l)).length ≤ (everyL l).length := by
  induction l with
  | nil => simp [sel, everyL]
  | cons x l ih =>
    rw [sel_cons, everyL_append, List.length_append]
    simp only [everyL, List.length_append]
    have : (everyL (sel s [x])).length ≤ (every x).length := by
      simp only [sel, List.filter]
      split <;> simp [everyL]
    omega
theorem everyL_stepM (s : Step) (l : List U) : (everyL (stepM s l)).length ≤ (everyL l).length := by
  induction l with
  | nil => simp [stepM, everyL]
  | cons x l ih =>
    have e : stepM s (x :: l) = sel s x.kids ++ stepM s l := by simp [stepM]
    rw [e, everyL_append]
    simp only [everyL, List.length_append]
    have := everyL_sel s x.kids
    rw [every_eq x, List.length_cons]
    omega
mutual
theorem every_le (u : U) : ∀ x ∈ every u, (every x).length ≤ (every u).length := by
  cases u with
  | mk a b c d e kids =>
    intro x hx
    simp only [every, List.mem_cons] at hx
    rcases hx with rfl | hx
    · exact Nat.le_refl _
    · have := everyL_le kids x hx
      simp only [every, List.length_cons]; omega
theorem everyL_le (l : List U) : ∀ x ∈ everyL l, (every x).length ≤ (everyL l).length := by
  cases l with
  | nil => intro x hx; simp [everyL] at hx
  | cons k ks =>
    intro x hx
    simp only [everyL, List.mem_append, List.length_append] at hx ⊢
    rcases hx with hx | hx
    · have := every_le k x hx; omega
    · have := everyL_le ks x hx; omega
end
theorem everyL_mul {n : Nat} (l : List U) (h : ∀ x ∈ l, (every x).length ≤ n) : (everyL l).length ≤ l.length * n := by
  induction l with
  | nil => simp [everyL]
  | cons x l ih =>
    simp only [everyL, List.length_append, List.length_cons, Nat.add_mul, Nat.one_mul]
    have h1 := h x (List.mem_cons_self ..)
    have h2 := ih (fun y hy => h y (List.mem_cons_of_mem _ hy))
    omega
theorem every_pos (u : U) : 1 ≤ (every u).length := by rw [every_eq]; simp
theorem startM_size (u : U) (s : Step) (h : (every u).length ≤ 1000) : (everyL (startM u s)).length ≤ 1000000 := by
  unfold startM
  split
  · simp only [everyL, List.append_nil]; omega
  · have h1 := everyL_sel s (every u)
    have h2 := everyL_mul (every u) (every_le u)
    have h3 := Nat.mul_le_mul h h
    omega
theorem walkM_len (r : List Step) (l : List U) : (everyL (walkM r l)).length ≤ (everyL l).length := by
  induction r generalizing l with
  | nil => exact Nat.le_refl _
  | cons s r ih => exact Nat.le_trans (ih _) (everyL_stepM s l)
theorem foundM_size (u : U) (p : List Step) (h : (every u).length ≤ 1000) : (foundM u p).length ≤ 1000000 := by
  unfold foundM
  split
  · refine Nat.le_trans (len_everyL _) ?_
    split
    · simp only [everyL, List.append_nil]; omega
    · exact Nat.le_trans (walkM_len _ _) (startM_size u _ h)
  · simp
theorem put_same {H : AH} {i : Nat} {o : AObj} (h : H.obj i = some o) : H.put i o = H := by simp only [AH.put, aset_self _ _ _ h]
theorem put_put (H : AH) (i : Nat) (o o' : AObj) : (H.put i o).put i o' = H.put i o' := by simp only [AH.put, aset_aset]
theorem put_at {H : AH} {i : Nat} {o : AObj} (o' : AObj) (h : H.obj i = some o) : (H.put i o').obj i = some o' := by rw [obj_put, if_pos rfl, h]; rfl
/-- A cell's row, its right to grow forgotten. -/
theorem Sub_cell {Hb Y : AH} {id tk : Nat} {o : AObj} {l : List AV} {ct : TypeId} (hwf : Hb.WF) (ho : Hb.obj id = some o) (hn : Hb.n ≤ Y.n) (hm : Hb.m ≤ Y.m) (h1 : ∀ i, i < Hb.n → i ≠ id → Y.obj i = Hb.obj i) (h2 : ∀ t, t < Hb.m → Y.tok t = Hb.tok t)
    (h3 : Y.obj id = some (.cells [.own l tk] ct)) (hf : AV.fitL Hb.n Hb.m l = true) : (Hb.put id (.cells [.slice l] ct)).Sub Y := by
  have hat : ∀ j, (Hb.put id (.cells [.slice l] ct)).obj j = if j = id then some (.cells [.slice l] ct) else Hb.obj j := fun j => by
    rw [obj_put]; split
    · rw [ho]; rfl
    · rfl
  refine ⟨⟨fun j hj => by rw [obj_put_ne]; exact hwf.obj j hj, hwf.tok, fun j ds u hj => ?_, fun j es hj => ?_⟩, hn, hm, fun j hj => ?_, fun t ht => .inr (h2 t ht).symm⟩
  · rw [hat] at hj; split at hj
    · cases hj; simp only [AV.fitL, AV.fit, Bool.and_true]; exact hf
    · exact hwf.fit j ds u hj
  · rw [hat] at hj; split at hj
    · cases hj
    · exact hwf.fitM j es hj
  · rw [hat]; split
    · rename_i e; subst e
      rw [h3]
      exact .inr ⟨_, _, _, rfl, rfl, rfl, fun j c c' q1 q2 => by
        cases j with
        | zero => simp at q1 q2; subst q1; subst q2; exact AV.Weak.forget (.own l tk)
        | succ j => simp at q1, by simp [AV.scal]⟩
    · rename_i e; rw [h1 j hj e]; exact .inl rfl
end Go.Ai
