/- A part of the proof: no statement of the seat is proved in this text. -/
import Derived.Test.YtdmhbplibcolbaaGreatStr
set_option linter.unusedVariables false
set_option linter.unusedSimpArgs false
namespace Go.Ai
open Go
def isBook (s : Step) : Bool := decide (s.kind = 0) && decide (s.label = ⟨#[]⟩)
def isAt (u : U) (s : Step) : Bool := decide (u.kind = s.kind) && decide (u.label = s.label)
def stepOk (s : Step) : Bool := decide (1 ≤ s.kind) && decide (s.kind ≤ 7) && labelOk s.label
def stepsOk (l : List Step) : Bool := match l with | [] => true | s :: r => (isBook s || stepOk s) && r.all stepOk
def addrOk (l : List Step) : Bool := decide (l.length ≤ 9) && stepsOk l
mutual
def every : U → List U
  | ⟨a, b, c, d, e, kids⟩ => ⟨a, b, c, d, e, kids⟩ :: everyL kids
def everyL : List U → List U
  | [] => []
  | k :: ks => every k ++ everyL ks
end
theorem every_eq (u : U) : every u = u :: everyL u.kids := by cases u; rfl
theorem everyL_append (a b : List U) : everyL (a ++ b) = everyL a ++ everyL b := by
  induction a with
  | nil => rfl
  | cons k a ih => simp [everyL, ih]
theorem everyL_snoc (a : List U) (k : U) : everyL (a ++ [k]) = everyL a ++ every k := by rw [everyL_append]; simp [everyL]
end Go.Ai
namespace Go.Ai.Tryz
open Go Go.Ai Go.Proofs
variable {w0 : World}
theorem spec51 (s : Step) (H : AH) (Q : AV → AH → Prop) (h : Q (.bool (isBook s)) H) : ACalls Tryz.prog w0 51 [eS s] H Q := by
  refine enter51 (by simp) fun hwf hok R hR hR0 => ?_
  unfold x51
  simp only [go_sem]
  simp only [decide_eq_true_eq, decide_eq_false_iff_not]
  refine ⟨fun h1 => ?_, fun h1 => ?_⟩
  · refine hR _ _ _ rfl (.same (.push (.refl hwf) _) rfl ?_)
    simp only [look]; simp
    have e : isBook s = decide (s.label = ⟨#[]⟩) := by simp [isBook, h1]
    rw [← e]; exact h
  · refine hR _ _ _ rfl (.same (.push (.refl hwf) _) rfl ?_)
    simp only [look]; simp
    have e : isBook s = false := by simp [isBook, h1]
    rw [← e]; exact h
theorem spec101 (s : Step) (H : AH) (Q : AV → AH → Prop) (h : Q (.bool (isBook s)) H) : ACalls Tryz.prog w0 101 [eS s] H Q := by
  refine enter101 (by simp) fun hwf hok R hR hR0 => ?_
  unfold x101
  simp only [go_sem]
  simp only [decide_eq_true_eq, decide_eq_false_iff_not]
  refine ⟨fun h1 => ?_, fun h1 => ?_⟩
  · refine hR _ _ _ rfl (.same (.push (.refl hwf) _) rfl ?_)
    simp only [look]; simp
    have e : isBook s = decide (s.label = ⟨#[]⟩) := by simp [isBook, h1]
    rw [← e]; exact h
  · refine hR _ _ _ rfl (.same (.push (.refl hwf) _) rfl ?_)
    simp only [look]; simp
    have e : isBook s = false := by simp [isBook, h1]
    rw [← e]; exact h
theorem spec98 (u : U) (s : Step) (H : AH) (Q : AV → AH → Prop) (h : Q (.bool (isAt u s)) H) : ACalls Tryz.prog w0 98 [eU u, eS s] H Q := by
  refine enter98 (by simp) fun hwf hok R hR hR0 => ?_
  unfold x98
  simp only [go_sem]
  simp only [decide_eq_true_eq, decide_eq_false_iff_not]
  refine ⟨fun h1 => ?_, fun h1 => ?_⟩
  · refine hR _ _ _ rfl (.same (.push (.push (.refl hwf) _) _) rfl ?_)
    simp only [look]; simp
    have e : isAt u s = decide (u.label = s.label) := by simp [isAt, h1]
    rw [← e]; exact h
  · refine hR _ _ _ rfl (.same (.push (.push (.refl hwf) _) _) rfl ?_)
    simp only [look]; simp
    have e : isAt u s = false := by simp [isAt, h1]
    rw [← e]; exact h
theorem spec104 (u : U) (s : Step) (H : AH) (Q : AV → AH → Prop) (h : Q (.bool (isAt u s)) H) : ACalls Tryz.prog w0 104 [eU u, eS s] H Q := by
  refine enter104 (by simp) fun hwf hok R hR hR0 => ?_
  unfold x104
  simp only [go_sem]
  simp only [decide_eq_true_eq, decide_eq_false_iff_not]
  refine ⟨fun h1 => ?_, fun h1 => ?_⟩
  · refine hR _ _ _ rfl (.same (.push (.push (.refl hwf) _) _) rfl ?_)
    simp only [look]; simp
    have e : isAt u s = decide (u.label = s.label) := by simp [isAt, h1]
    rw [← e]; exact h
  · refine hR _ _ _ rfl (.same (.push (.push (.refl hwf) _) _) rfl ?_)
    simp only [look]; simp
    have e : isAt u s = false := by simp [isAt, h1]
    rw [← e]; exact h
theorem spec62 (u : U) (hb : (every u).length ≤ 1000000) (H : AH) (Q : AV → AH → Prop) (h : Q (.slice ((every u).map eU)) H) : ACalls Tryz.prog w0 62 [eU u] H Q := by
  refine enter62 (by simp) fun hwf hok R hR hR0 => ?_
  have hu := U.good (hok (eU u) (by simp))
  have hlen := hu.kids
  rw [every_eq] at hb h
  have hb' := hb
  simp only [List.length_cons] at hb'
  unfold x62
  simp only [go_sem]
  refine ⟨by decide, ?_⟩
  refine AX.iter (S := List U × List U) ttOk (fun s => [(1, .ptr H.n 0), (3, .own ((u :: everyL s.1).map eU) H.m), (4, .int .i64 s.1.length)]) (fun s => (H.push (.cells u.cs 27)).pushTok ⟨((u :: everyL s.1).map eU).length, 27, 8⟩) (fun s => s.2.length)
    (fun s => s.1 ++ s.2 = u.kids) ([], u.kids) ?_ rfl rfl ?_
  · simp only [go_sem, everyL]
    exact Weak_of rfl
  · rintro ⟨pre, post⟩ h2 hk hwf' K R' hK hQ
    simp only at h2 hK ⊢
    unfold l62_0
    rcases post with _ | ⟨k, ks⟩
    · have hb := ge_of h2 eU
      simp only [go_sem, U.cs, hb]
      refine hQ _ _ _ ?_
      simp only [go_sem]
      refine hR _ _ _ rfl (.forget (.pushTok (.push (.refl hwf) _) _) ?_ ?_)
      · simp only [go_sem, AV.forget]
      · simp only [go_sem, AV.forget]
        rw [List.append_nil] at h2
        rw [h2]; exact h
    · have hb := lt_of h2 eU
      have ha := at_of h2 eU
      have hl := len_of h2
      have hsum : everyL u.kids = everyL pre ++ (every k ++ everyL ks) := by rw [← h2, everyL_append]; rfl
      rw [hsum, List.length_append, List.length_append] at hb'
      simp only [go_sem, U.cs, hb, ha]
      refine ⟨by omega, ?_⟩
      refine spec62 k (by omega) _ _ ?_
      simp only [go_sem]
      refine ⟨elem_eU _, ⟨by simp; omega, by simp; omega⟩, ?_⟩
      rw [wrap_i64.2 (by omega)]
      refine hK _ _ (pre ++ [k], ks) (by simp) (snoc_of h2) ?_ (Nat.le_refl _) (Nat.le_refl _) ?_
      · simp only [go_sem, U.cs, everyL_snoc, List.map_append]
        refine .refl (WF_pushTok (WF_push_cells hwf _ _ ?_) _)
        simp only [go_sem]
      · simp only [go_sem, everyL_snoc, List.map_append, len_snoc]
        simp
termination_by SizeOf.sizeOf u
decreasing_by exact kid_lt (mem_of h2)
end Go.Ai.Tryz

set_option linter.unusedVariables false
set_option linter.unusedSimpArgs false
namespace Go.Ai
open Go
theorem aset_self {α : Type} (k : Nat) (x : α) (l : List (Nat × α)) (h : alook k l = some x) : aset k x l = l := by
  induction l with
  | nil => rfl
  | cons p e ih =>
    obtain ⟨j, v⟩ := p
    simp only [alook, aset] at h ⊢
    split
    · rename_i hj; rw [if_pos hj] at h; cases h; rfl
    · rename_i hj; rw [if_neg hj] at h; rw [ih h]
theorem aset_aset {α : Type} (k : Nat) (x y : α) (l : List (Nat × α)) : aset k x (aset k y l) = aset k x l := by
  induction l with
  | nil => rfl
  | cons p e ih =>
    obtain ⟨j, v⟩ := p
    simp only [aset]
    split
    · rename_i hj; simp [aset, hj]
    · rename_i hj; simp [aset, hj, ih]
def rowH (H : AH) (tk ia : Nat) (te ce : TypeId) (sz : Nat) (l : List AV) : AH := (H.putTok tk ⟨l.length, te, sz⟩).put ia (.cells [.own l tk] ce)
section
variable {H : AH} {tk ia : Nat} {te ce : TypeId} {sz : Nat} {l l' : List AV}
theorem rowH_self (h1 : H.obj ia = some (.cells [.own l tk] ce)) (h2 : H.tok tk = some ⟨l.length, te, sz⟩) : rowH H tk ia te ce sz l = H := by
  simp only [rowH, AH.put, AH.putTok, aset_self _ _ _ h2, aset_self _ _ _ h1]
theorem rowH_rowH : rowH (rowH H tk ia te ce sz l) tk ia te ce sz l' = rowH H tk ia te ce sz l' := by simp only [rowH, AH.put, AH.putTok, aset_aset]
@[go_sem] theorem rowH_n : (rowH H tk ia te ce sz l).n = H.n := rfl
@[go_sem] theorem rowH_m : (rowH H tk ia te ce sz l).m = H.m := rfl
theorem rowH_push (h : ia ≠ H.n) (o : AObj) : rowH (H.push o) tk ia te ce sz l = (rowH H tk ia te ce sz l).push o := by simp only [rowH]; rw [← AH.put_push (by exact h)]; rfl
theorem rowH_obj_ne {i : Nat} (h : i ≠ ia) : (rowH H tk ia te ce sz l).obj i = H.obj i := by simp only [rowH]; rw [obj_put, if_neg h]; rfl
theorem rowH_obj (h : H.obj ia ≠ none) : (rowH H tk ia te ce sz l).obj ia = some (.cells [.own l tk] ce) := by
  simp only [rowH]; rw [obj_put, if_pos rfl]
  obtain ⟨o, ho⟩ := Option.ne_none_iff_exists'.1 h
  rw [show (H.putTok tk ⟨l.length, te, sz⟩).obj ia = H.obj ia from rfl, ho]; rfl
theorem rowH_tok (h : H.tok tk ≠ none) : (rowH H tk ia te ce sz l).tok tk = some ⟨l.length, te, sz⟩ := by
  show (H.putTok tk ⟨l.length, te, sz⟩).tok tk = _
  obtain ⟨o, ho⟩ := Option.ne_none_iff_exists'.1 h
  rw [tok_putTok, if_pos rfl, ho]; rfl
theorem rowH_WF (h : H.WF) (ht : tk < H.m) (hf : AV.fitL H.n H.m l = true) : (rowH H tk ia te ce sz l).WF := by
  refine ⟨fun i hi => ?_, fun t ht' => ?_, fun i cs t ho => ?_, fun i es ho e he => ?_⟩
  · simp only [rowH, obj_put_ne]; exact h.obj i hi
  · show (H.putTok tk ⟨l.length, te, sz⟩).tok t = none
    rw [tok_putTok, if_neg (by simp only [rowH_m] at ht'; omega)]; exact h.tok t ht'
  · by_cases e : i = ia
    · subst e
      simp only [rowH] at ho
      rw [obj_put, if_pos rfl] at ho
      cases h1 : (H.putTok tk ⟨l.length, te, sz⟩).obj i with
      | none => rw [h1] at ho; cases ho
      | some o =>
        rw [h1] at ho; cases ho
        simp [AV.fitL, AV.fit, ht, hf, rowH_n, rowH_m]
    · rw [rowH_obj_ne e] at ho; exact h.fit i cs t ho
  · by_cases e' : i = ia
    · subst e'
      simp only [rowH] at ho
      rw [obj_put, if_pos rfl] at ho
      cases h1 : (H.putTok tk ⟨l.length, te, sz⟩).obj i with
      | none => rw [h1] at ho; cases ho
      | some o => rw [h1] at ho; cases ho
    · rw [rowH_obj_ne e'] at ho; exact h.fitM i es ho e he
end
def sel (s : Step) (l : List U) : List U := l.filter (isAt · s)
end Go.Ai
namespace Go.Ai.Tryz
open Go Go.Ai Go.Proofs
variable {w0 : World}
theorem spec103 (x : U) (s : Step) (r : List Step) (l : List U) (tk ia ip : Nat) (H : AH) (h1 : H.obj ia = some (.cells [.own (l.map eU) tk] 25)) (h2 : H.obj ip = some (.cells [.slice ((s :: r).map eS)] 28)) (h3 : H.tok tk = some ⟨l.length, 27, 8⟩) (hlen : l.length ≤ 1000000)
    (Q : AV → AH → Prop) (h : Q (.tup []) (rowH H tk ia 27 25 8 ((l ++ sel s [x]).map eU))) : ACalls Tryz.prog w0 103 [eU x, .ptr ip 0, .ptr ia 0] H Q := by
  refine enter103 (by simp) fun hwf hok R hR hR0 => ?_
  have hx := U.good (hok (eU x) (by simp))
  have na : ¬ ia = H.n := by intro e; subst e; rw [hwf.obj _ (Nat.le_refl _)] at h1; cases h1
  have np : ¬ ip = H.n := by intro e; subst e; rw [hwf.obj _ (Nat.le_refl _)] at h2; cases h2
  have ht : tk < H.m := by
    rcases Nat.lt_or_ge tk H.m with h4 | h4
    · exact h4
    · rw [hwf.tok _ h4] at h3; cases h3
  unfold x103
  simp only [go_sem, dr103_0, na, np, h2, List.map_cons]
  refine PCalls.of (r := .bool (isAt x s)) (fun H' => spec104 x s _ _ ⟨rfl, rfl⟩) ?_
  by_cases hs : isAt x s = true
  · simp only [go_sem, hs]
    refine dr103_1 _ _ _ ?_
    simp only [go_sem, na, np, h1]
    refine ⟨by decide, l.map eU, tk, _, eU x, ia, 0, [.own (l.map eU) tk], 25, by simp only [go_sem], by simp only [go_sem]; rfl, by simp only [go_sem], by simp only [go_sem], by simp only [go_sem], ⟨rfl, rfl⟩, by simp only [go_sem], by simp only [go_sem, h3, List.length_map], by simp only [go_sem, na, h1], by simp, by simp only [go_sem, List.length_map]; omega, by simp; omega, ?_⟩
    have e : sel s [x] = [x] := by simp [sel, hs]
    rw [e, List.map_append, List.map_singleton] at h
    refine hR0 _ _ (hR _ _ _ ⟨_, rfl, rfl⟩ (.inl ⟨.tup [], rowH H tk ia 27 25 8 (l.map eU ++ [eU x]), .refl _, rfl, ?_, rfl, rfl, h⟩))
    rw [show (l.map eU).length + 1 = (l.map eU ++ [eU x]).length by simp]
    show AH.Sub _ (rowH (H.push _) tk ia 27 25 8 (l.map eU ++ [eU x]))
    rw [rowH_push na]
    exact .push (.refl (rowH_WF hwf ht (by simp only [go_sem]))) _
  · have hs' : isAt x s = false := by simpa using hs
    simp only [go_sem, hs']
    refine hR0 _ _ (hR _ _ _ ⟨_, rfl, rfl⟩ (.same (.push (.refl hwf) _) rfl ?_))
    have e : sel s [x] = [] := by simp [sel, hs']
    rw [e, List.append_nil, rowH_self h1 (by simpa using h3)] at h
    exact h
end Go.Ai.Tryz

set_option linter.unusedVariables false
set_option linter.unusedSimpArgs false
namespace Go.Ai
open Go
theorem AH.WF.lt {H : AH} (h : H.WF) {i : Nat} {o : AObj} (ho : H.obj i = some o) : i < H.n := by
  rcases Nat.lt_or_ge i H.n with h1 | h1
  · exact h1
  · rw [h.obj i h1] at ho; cases ho
theorem sel_append (s : Step) (a b : List U) : sel s (a ++ b) = sel s a ++ sel s b := by simp [sel]
theorem sel_len (s : Step) (a : List U) : (sel s a).length ≤ a.length := List.length_filter_le _ _
theorem sel_cons (s : Step) (x : U) (b : List U) : sel s (x :: b) = sel s [x] ++ sel s b := by rw [← List.singleton_append, sel_append]
end Go.Ai
namespace Go.Ai.Tryz
open Go Go.Ai Go.Proofs
variable {w0 : World}
theorem spec102 (u : U) (s : Step) (r : List Step) (l : List U) (tk ia ip : Nat) (H : AH) (h1 : H.obj ia = some (.cells [.own (l.map eU) tk] 25)) (h2 : H.obj ip = some (.cells [.slice ((s :: r).map eS)] 28)) (h3 : H.tok tk = some ⟨l.length, 27, 8⟩) (hpa : ip ≠ ia)
    (hlen : l.length + (every u).length ≤ 1000000)
    (Q : AV → AH → Prop) (h : Q (.tup []) (rowH H tk ia 27 25 8 ((l ++ sel s (every u)).map eU))) : ACalls Tryz.prog w0 102 [eU u, .fn 103 [.ptr ip 0, .ptr ia 0]] H Q := by
  refine enter102 (by simp) fun hwf hok R hR hR0 => ?_
  have hu := U.good (hok (eU u) (by simp))
  have hia : ia < H.n := hwf.lt h1
  have hip : ip < H.n := hwf.lt h2
  have na : ¬ ia = H.n := by omega
  have np : ¬ ip = H.n := by omega
  have na1 : ¬ ia = H.n + 1 := by omega
  have np1 : ¬ ip = H.n + 1 := by omega
  have ht : tk < H.m := by
    rcases Nat.lt_or_ge tk H.m with h4 | h4
    · exact h4
    · rw [hwf.tok _ h4] at h3; cases h3
  have ho1 : ∀ l', (rowH H tk ia 27 25 8 l').obj ia = some (.cells [.own l' tk] 25) := fun l' => rowH_obj (by rw [h1]; simp)
  have ho2 : ∀ l', (rowH H tk ia 27 25 8 l').obj ip = some (.cells [.slice ((s :: r).map eS)] 28) := fun l' => by rw [rowH_obj_ne hpa]; exact h2
  have ho3 : ∀ l', (rowH H tk ia 27 25 8 l').tok tk = some ⟨l'.length, 27, 8⟩ := fun l' => rowH_tok (by rw [h3]; simp)
  have hkl := hu.kids
  rw [every_eq] at hlen h
  simp only [List.length_cons] at hlen
  have hwf' : ∀ l' : List U, (rowH H tk ia 27 25 8 (l'.map eU)).WF := fun l' => rowH_WF hwf ht (by simp only [go_sem])
  unfold x102
  simp only [go_sem]
  refine spec103 u s r l tk ia ip _ ?_ ?_ ?_ ?_ _ ?_
  · simp only [go_sem, na, h1]
  · simp only [go_sem, np, h2]
  · simp only [go_sem, h3]
  · omega
  rw [rowH_push na]
  simp only [go_sem]
  refine AX.iter (S := List U × List U) ttOk (fun a => [(1, .fn 103 [.ptr ip 0, .ptr ia 0]), (10, .slice (u.kids.map eU)), (11, .int .i64 (u.kids.map eU).length), (12, .int .i64 a.1.length)]) (fun a => (rowH H tk ia 27 25 8 ((l ++ sel s (u :: everyL a.1)).map eU)).push (.cells u.cs 27)) (fun a => a.2.length)
    (fun a => a.1 ++ a.2 = u.kids) ([], u.kids) ?_ (by simp only [everyL]; rfl) rfl ?_
  · simp only [go_sem]
    exact Weak_of rfl
  · rintro ⟨pre, post⟩ h4 hk hwf1 K R' hK hQ
    simp only at h4 hK ⊢
    unfold l102_0
    rcases post with _ | ⟨k, ks⟩
    · have hb := ge_of h4 eU
      simp only [go_sem, hb]
      refine hQ _ _ _ ?_
      simp only [go_sem]
      rw [List.append_nil] at h4
      rw [← h4] at h
      refine hR0 _ _ (hR _ _ _ ⟨_, rfl, rfl⟩ (.inl ⟨.tup [], _, .refl _, rfl, .push (.refl (hwf' _)) _, rfl, rfl, h⟩))
    · have hb := lt_of h4 eU
      have ha := at_of h4 eU
      have hl := len_of h4
      have hsum : everyL u.kids = everyL pre ++ (every k ++ everyL ks) := by rw [← h4, everyL_append]; rfl
      have hlen' := hlen
      rw [hsum, List.length_append, List.length_append] at hlen'
      have hsl := sel_len s (u :: everyL pre)
      simp only [List.length_cons] at hsl
      simp only [go_sem, hb, ha]
      refine ⟨by omega, ?_⟩
      refine spec102 k s r (l ++ sel s (u :: everyL pre)) tk ia ip _ ?_ ?_ ?_ hpa ?_ _ ?_
      · simp only [go_sem, na, na1, ho1]
      · simp only [go_sem, np, np1, ho2]
      · simp only [go_sem, ho3, List.length_map]
      · rw [List.length_append]; omega
      rw [rowH_push (by simp only [go_sem]; omega), rowH_push (show ia ≠ (rowH _ _ _ _ _ _ _).n from na), rowH_rowH]
      simp only [go_sem]
      rw [wrap_i64.2 (by omega)]
      refine hK _ _ (pre ++ [k], ks) (by simp) (snoc_of h4) ?_ (Nat.le_refl _) (Nat.le_refl _) ?_
      · rw [everyL_snoc, ← List.cons_append, sel_append, ← List.append_assoc]
        refine .push (.refl (WF_push_cells (hwf' _) _ _ ?_)) _
        simp only [go_sem, U.cs]
      · simp only [go_sem, len_snoc]
        simp; omega
termination_by SizeOf.sizeOf u
decreasing_by exact kid_lt (mem_of h4)
end Go.Ai.Tryz
