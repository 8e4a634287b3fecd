/- A part of the proof: no statement of the seat is proved in this text. -/
import Derived.Test.YtdmhbplibcolbaaGreatAdr
set_option linter.unusedVariables false
set_option linter.unusedSimpArgs false
namespace Go.Ai
open Go
def okFrom (first : Bool) : List Step → Bool
  | [] => true
  | s :: r => ((first && isBook s) || stepOk s) && okFrom false r
def addrOk' (l : List Step) : Bool := decide (l.length ≤ 9) && okFrom true l
end Go.Ai
namespace Go.Ai.Tryz
open Go Go.Ai Go.Proofs
variable {w0 : World}
theorem spec19 (l : List Step) (H : AH) (Q : AV → AH → Prop) (h : Q (.bool (addrOk' l)) H) : ACalls Tryz.prog w0 19 [.slice (l.map eS)] H Q := by
  refine enter19 (by simp) fun hwf hok R hR hR0 => ?_
  have hlen := (hok (.slice (l.map eS)) (by simp)).slice
  rw [List.length_map] at hlen
  have fin : ∀ b env', addrOk' l = b → look 2 env' = .bool b → R .ret env' H := fun b env' h1 h2 => hR _ _ _ rfl (.same (.refl hwf) (by rw [h2]; rfl) (by rw [h2, ← h1]; exact h))
  unfold x19
  simp only [go_sem]
  simp only [decide_eq_true_eq, decide_eq_false_iff_not, List.length_map]
  refine ⟨fun h1 => fin false _ (by simp [addrOk']; omega) (by simp only [go_sem]), fun h1 => ?_⟩
  refine AX.iter0 (S := List Step × List Step) ttOk (fun s => [(0, .slice (l.map eS)), (3, .int .i64 s.1.length)]) (fun s => s.2.length)
    (fun s => s.1 ++ s.2 = l ∧ okFrom s.1.isEmpty s.2 = okFrom true l) ([], l) ?_ ⟨rfl, rfl⟩ ?_
  · simp only [go_sem]
    exact Weak_of rfl
  · rintro ⟨pre, post⟩ ⟨h2, h3⟩ hk hwf' K R' hK hQ
    simp only at h2 h3 hK ⊢
    unfold l19_0
    have hlab : addrOk' l = okFrom pre.isEmpty post := by rw [h3]; simp [addrOk']; omega
    rcases post with _ | ⟨k, ks⟩
    · have hb := ge_of h2 eS
      simp only [go_sem, hb]
      refine hQ _ _ _ ?_
      simp only [go_sem]
      exact fin true _ (by rw [hlab]; rfl) (by simp only [go_sem])
    · have hb := lt_of h2 eS
      have ha := at_of h2 eS
      have hl := len_of h2
      have go : ∀ env', okFrom pre.isEmpty (k :: ks) = okFrom false ks → look 0 env' = .slice (l.map eS) → look 3 env' = .int .i64 (pre.length + 1) → K env' H := fun env' h4 h5 h6 => by
        refine hK _ _ (pre ++ [k], ks) (by simp) ⟨snoc_of h2, by rw [← h3, h4]; cases pre <;> rfl⟩ (.refl hwf') ?_
        simp only [go_sem, h5, h6, len_snoc]
      have stop : ∀ env', okFrom pre.isEmpty (k :: ks) = false → look 2 env' = .bool false → R' .ret env' H := fun env' h4 h5 => by
        refine hQ _ _ _ ?_
        simp only [go_sem]
        exact fin false _ (by rw [hlab, h4]) h5
      have hw : IntKind.i64.wrap ((pre.length : Int) + 1) = pre.length + 1 := wrap_i64.2 (by omega)
      simp only [go_sem, hb, ha, hw]
      simp only [decide_eq_true_eq, decide_eq_false_iff_not]
      refine ⟨fun h4 => ⟨by omega, ?_⟩, fun h4 => ?_⟩
      · have hp : pre.isEmpty = true := by cases pre with
          | nil => rfl
          | cons a b => simp at h4; omega
        refine spec51 k _ _ ?_
        by_cases hbk : isBook k = true
        · simp only [go_sem, hb, ha, hw, hbk]
          exact go _ (by simp [okFrom, hbk, hp]) (by simp only [go_sem]) (by simp only [go_sem])
        · have hbk' : isBook k = false := by simpa using hbk
          have hns : okFrom pre.isEmpty (k :: ks) = (stepOk k && okFrom false ks) := by simp [okFrom, hbk']
          simp only [go_sem, hb, ha, hw, hbk']
          simp only [decide_eq_true_eq, decide_eq_false_iff_not]
          refine ⟨by omega, fun h5 => ⟨by omega, fun h6 => ⟨by omega, ?_⟩, fun h6 => ?_⟩, fun h5 => ?_⟩
          · refine spec25 k.label _ _ ?_
            by_cases hlk : labelOk k.label = true
            · have hst : stepOk k = true := by simp [stepOk, hlk]; omega
              simp only [go_sem, hb, ha, hw, hlk]
              exact go _ (by rw [hns, hst]; rfl) (by simp only [go_sem]) (by simp only [go_sem, hw])
            · have hlk' : labelOk k.label = false := by simpa using hlk
              simp only [go_sem, hlk']
              exact stop _ (by rw [hns]; simp [stepOk, hlk']) (by simp only [go_sem])
          · exact stop _ (by rw [hns]; simp [stepOk]; omega) (by simp only [go_sem])
          · exact stop _ (by rw [hns]; simp [stepOk]; omega) (by simp only [go_sem])
      · have hp : pre.isEmpty = false := by cases pre with
          | nil => simp at h4
          | cons a b => rfl
        have hns : okFrom pre.isEmpty (k :: ks) = (stepOk k && okFrom false ks) := by simp [okFrom, hp]
        refine ⟨by omega, fun h5 => ⟨by omega, fun h6 => ⟨by omega, ?_⟩, fun h6 => ?_⟩, fun h5 => ?_⟩
        · refine spec25 k.label _ _ ?_
          by_cases hlk : labelOk k.label = true
          · have hst : stepOk k = true := by simp [stepOk, hlk]; omega
            simp only [go_sem, hb, ha, hw, hlk]
            exact go _ (by rw [hns, hst]; rfl) (by simp only [go_sem]) (by simp only [go_sem, hw])
          · have hlk' : labelOk k.label = false := by simpa using hlk
            simp only [go_sem, hlk']
            exact stop _ (by rw [hns]; simp [stepOk, hlk']) (by simp only [go_sem])
        · exact stop _ (by rw [hns]; simp [stepOk]; omega) (by simp only [go_sem])
        · exact stop _ (by rw [hns]; simp [stepOk]; omega) (by simp only [go_sem])
theorem spec100 (l : List Step) (H : AH) (Q : AV → AH → Prop) (h : Q (.bool (addrOk' l)) H) : ACalls Tryz.prog w0 100 [.slice (l.map eS)] H Q := by
  refine enter100 (by simp) fun hwf hok R hR hR0 => ?_
  have hlen := (hok (.slice (l.map eS)) (by simp)).slice
  rw [List.length_map] at hlen
  have fin : ∀ b env' H', addrOk' l = b → look 2 env' = .bool b → H.Sub H' → R .ret env' H' := fun b env' H' h1 h2 h3 => hR _ _ _ rfl (.same h3 (by rw [h2]; rfl) (by rw [h2, ← h1]; exact h))
  unfold x100
  simp only [go_sem]
  refine AX.iter0 (S := List Step × List Step) ttOk (fun s => [(0, .slice (l.map eS)), (5, .slice (l.map eS)), (6, .int .i64 (l.map eS).length), (7, .int .i64 s.1.length)]) (fun s => s.2.length)
    (fun s => s.1 ++ s.2 = l ∧ okFrom s.1.isEmpty s.2 = okFrom true l) ([], l) ?_ ⟨rfl, rfl⟩ ?_
  · simp only [go_sem]
    exact Weak_of rfl
  · rintro ⟨pre, post⟩ ⟨h2, h3⟩ hk hwf' K R' hK hQ
    simp only at h2 h3 hK ⊢
    unfold l100_0
    rcases post with _ | ⟨k, ks⟩
    · have hb := ge_of h2 eS
      simp only [go_sem, hb]
      refine hQ _ _ _ ?_
      simp only [go_sem]
      refine fin _ _ _ ?_ (by simp only [go_sem]; rfl) (.refl hwf)
      have : okFrom true l = true := by rw [← h3]; rfl
      simp [addrOk', this]; omega
    · have hb := lt_of h2 eS
      have ha := at_of h2 eS
      have hl := len_of h2
      have go : ∀ env' H', okFrom pre.isEmpty (k :: ks) = okFrom false ks → look 0 env' = .slice (l.map eS) → look 5 env' = .slice (l.map eS) → look 6 env' = .int .i64 (l.map eS).length → look 7 env' = .int .i64 (pre.length + 1) → H.Sub H' → K env' H' := fun env' H' h4 h5 h6 h7 h8 h9 => by
        refine hK _ _ (pre ++ [k], ks) (by simp) ⟨snoc_of h2, by rw [← h3, h4]; cases pre <;> rfl⟩ h9 ?_
        simp only [go_sem, h5, h6, h7, h8, len_snoc]
      have stop : ∀ env' H', okFrom pre.isEmpty (k :: ks) = false → look 2 env' = .bool false → H.Sub H' → R' .ret env' H' := fun env' H' h4 h5 h6 => by
        refine hQ _ _ _ ?_
        simp only [go_sem]
        exact fin false _ _ (by simp [addrOk', ← h3, h4]) h5 h6
      have hw : IntKind.i64.wrap ((pre.length : Int) + 1) = pre.length + 1 := wrap_i64.2 (by omega)
      simp only [go_sem, hb, ha, hw]
      simp only [decide_eq_true_eq, decide_eq_false_iff_not]
      refine ⟨by omega, fun h4 => ?_, fun h4 => ?_⟩
      · have hp : pre.isEmpty = true := by cases pre with
          | nil => rfl
          | cons a b => simp at h4; omega
        refine spec101 k _ _ ?_
        by_cases hbk : isBook k = true
        · simp only [go_sem, hb, ha, hw, hbk]
          exact go _ _ (by simp [okFrom, hbk, hp]) (by simp only [go_sem]) (by simp only [go_sem]) (by simp only [go_sem]) (by simp only [go_sem]) (.push (.refl hwf) _)
        · have hbk' : isBook k = false := by simpa using hbk
          have hns : okFrom pre.isEmpty (k :: ks) = (stepOk k && okFrom false ks) := by simp [okFrom, hbk']
          simp only [go_sem, hb, ha, hw, hbk']
          simp only [decide_eq_true_eq, decide_eq_false_iff_not]
          refine ⟨fun h5 => ⟨fun h6 => ?_, fun h6 => ?_⟩, fun h5 => ?_⟩
          · refine spec110 k.label _ _ ?_
            by_cases hlk : labelOk k.label = true
            · have hst : stepOk k = true := by simp [stepOk, hlk]; omega
              simp only [go_sem, hb, ha, hw, hlk]
              exact go _ _ (by rw [hns, hst]; rfl) (by simp only [go_sem]) (by simp only [go_sem]) (by simp only [go_sem]) (by simp only [go_sem, hw]) (.push (.refl hwf) _)
            · have hlk' : labelOk k.label = false := by simpa using hlk
              simp only [go_sem, hlk']
              exact stop _ _ (by rw [hns]; simp [stepOk, hlk']) (by simp only [go_sem]) (.push (.refl hwf) _)
          · exact stop _ _ (by rw [hns]; simp [stepOk]; omega) (by simp only [go_sem]) (.push (.refl hwf) _)
          · exact stop _ _ (by rw [hns]; simp [stepOk]; omega) (by simp only [go_sem]) (.push (.refl hwf) _)
      · have hp : pre.isEmpty = false := by cases pre with
          | nil => simp at h4
          | cons a b => rfl
        have hns : okFrom pre.isEmpty (k :: ks) = (stepOk k && okFrom false ks) := by simp [okFrom, hp]
        refine ⟨fun h5 => ⟨fun h6 => ?_, fun h6 => ?_⟩, fun h5 => ?_⟩
        · refine spec110 k.label _ _ ?_
          by_cases hlk : labelOk k.label = true
          · have hst : stepOk k = true := by simp [stepOk, hlk]; omega
            simp only [go_sem, hb, ha, hw, hlk]
            exact go _ _ (by rw [hns, hst]; rfl) (by simp only [go_sem]) (by simp only [go_sem]) (by simp only [go_sem]) (by simp only [go_sem, hw]) (.push (.refl hwf) _)
          · have hlk' : labelOk k.label = false := by simpa using hlk
            simp only [go_sem, hlk']
            exact stop _ _ (by rw [hns]; simp [stepOk, hlk']) (by simp only [go_sem]) (.push (.refl hwf) _)
        · exact stop _ _ (by rw [hns]; simp [stepOk]; omega) (by simp only [go_sem]) (.push (.refl hwf) _)
        · exact stop _ _ (by rw [hns]; simp [stepOk]; omega) (by simp only [go_sem]) (.push (.refl hwf) _)
end Go.Ai.Tryz

set_option linter.unusedVariables false
set_option linter.unusedSimpArgs false
namespace Go.Ai
open Go
@[go_sem] theorem ne2 (n : Nat) : (n = n + 1 + 1) = False := by simp; omega
@[go_sem] theorem ne2' (n : Nat) : (n + 1 + 1 = n) = False := by simp; omega
@[go_sem] theorem ne3 (n : Nat) : (n = n + 1 + 1 + 1) = False := by simp; omega
@[go_sem] theorem ne3' (n : Nat) : (n + 1 + 1 + 1 = n) = False := by simp; omega
@[go_sem] theorem ne4 (n : Nat) : (n = n + 1 + 1 + 1 + 1) = False := by simp; omega
@[go_sem] theorem ne4' (n : Nat) : (n + 1 + 1 + 1 + 1 = n) = False := by simp; omega
@[go_sem] theorem cast0 : ((0 : Nat) : Int) = 0 := rfl
@[go_sem] theorem cast1 : ((1 : Nat) : Int) = 1 := rfl
@[go_sem] theorem eq00 : decide ((0 : Int) = 0) = true := rfl
def stepM (s : Step) (l : List U) : List U := l.flatMap fun x => sel s x.kids
def walkM : List Step → List U → List U
  | [], l => l
  | s :: r, l => walkM r (stepM s l)
def startM (u : U) (s : Step) : List U := if isBook s then [u] else sel s (every u)
def foundM (u : U) (p : List Step) : List U := if addrOk' p then (match p with | [] => [u] | s :: r => walkM r (startM u s)) else []
theorem sel_nil (s : Step) : sel s [] = [] := rfl
theorem stepM_append (s : Step) (a b : List U) : stepM s (a ++ b) = stepM s a ++ stepM s b := by simp [stepM]
theorem stepM_one (s : Step) (x : U) : stepM s [x] = sel s x.kids := by simp [stepM]
theorem len_everyL (l : List U) : l.length ≤ (everyL l).length := by
  induction l with
  | nil => simp
  | cons x l ih =>
    simp only [everyL, List.length_append, List.length_cons, every_eq x]
    omega
theorem everyL_sel (s : Step) (l : List U) : (everyL (sel s l)).length ≤ (everyL l).length := by
  induction l with
  | nil => simp [sel, everyL]
  | cons x l ih =>
    rw [sel_cons, everyL_append, List.length_append]
    simp only [everyL, List.length_append]
    have : (everyL (sel s [x])).length ≤ (every x).length := by
      simp only [sel, List.filter]
      split <;> simp [everyL]
    omega
theorem everyL_stepM (s : Step) (l : List U) : (everyL (stepM s l)).length ≤ (everyL l).length := by
  induction l with
  | nil => simp [stepM, everyL]
  | cons x l ih =>
    have e : stepM s (x :: l) = sel s x.kids ++ stepM s l := by simp [stepM]
    rw [e, everyL_append]
    simp only [everyL, List.length_append]
    have := everyL_sel s x.kids
    rw [every_eq x, List.length_cons]
    omega
mutual
theorem every_le (u : U) : ∀ x ∈ every u, (every x).length ≤ (every u).length := by
  cases u with
  | mk a b c d e kids =>
    intro x hx
    simp only [every, List.mem_cons] at hx
    rcases hx with rfl | hx
    · exact Nat.le_refl _
    · have := everyL_le kids x hx
      simp only [every, List.length_cons]; omega
theorem everyL_le (l : List U) : ∀ x ∈ everyL l, (every x).length ≤ (everyL l).length := by
  cases l with
  | nil => intro x hx; simp [everyL] at hx
  | cons k ks =>
    intro x hx
    simp only [everyL, List.mem_append, List.length_append] at hx ⊢
    rcases hx with hx | hx
    · have := every_le k x hx; omega
    · have := everyL_le ks x hx; omega
end
theorem everyL_mul {n : Nat} (l : List U) (h : ∀ x ∈ l, (every x).length ≤ n) : (everyL l).length ≤ l.length * n := by
  induction l with
  | nil => simp [everyL]
  | cons x l ih =>
    simp only [everyL, List.length_append, List.length_cons, Nat.add_mul, Nat.one_mul]
    have h1 := h x (List.mem_cons_self ..)
    have h2 := ih (fun y hy => h y (List.mem_cons_of_mem _ hy))
    omega
theorem every_pos (u : U) : 1 ≤ (every u).length := by rw [every_eq]; simp
theorem startM_size (u : U) (s : Step) (h : (every u).length ≤ 1000) : (everyL (startM u s)).length ≤ 1000000 := by
  unfold startM
  split
  · simp only [everyL, List.append_nil]; omega
  · have h1 := everyL_sel s (every u)
    have h2 := everyL_mul (every u) (every_le u)
    have h3 := Nat.mul_le_mul h h
    omega
theorem walkM_len (r : List Step) (l : List U) : (everyL (walkM r l)).length ≤ (everyL l).length := by
  induction r generalizing l with
  | nil => exact Nat.le_refl _
  | cons s r ih => exact Nat.le_trans (ih _) (everyL_stepM s l)
theorem foundM_size (u : U) (p : List Step) (h : (every u).length ≤ 1000) : (foundM u p).length ≤ 1000000 := by
  unfold foundM
  split
  · refine Nat.le_trans (len_everyL _) ?_
    split
    · simp only [everyL, List.append_nil]; omega
    · exact Nat.le_trans (walkM_len _ _) (startM_size u _ h)
  · simp
theorem put_same {H : AH} {i : Nat} {o : AObj} (h : H.obj i = some o) : H.put i o = H := by simp only [AH.put, aset_self _ _ _ h]
theorem put_put (H : AH) (i : Nat) (o o' : AObj) : (H.put i o).put i o' = H.put i o' := by simp only [AH.put, aset_aset]
theorem put_at {H : AH} {i : Nat} {o : AObj} (o' : AObj) (h : H.obj i = some o) : (H.put i o').obj i = some o' := by rw [obj_put, if_pos rfl, h]; rfl
theorem Sub_cell {Hb Y : AH} {id tk : Nat} {o : AObj} {l : List AV} {ct : TypeId} (hwf : Hb.WF) (ho : Hb.obj id = some o) (hn : Hb.n ≤ Y.n) (hm : Hb.m ≤ Y.m) (h1 : ∀ i, i < Hb.n → i ≠ id → Y.obj i = Hb.obj i) (h2 : ∀ t, t < Hb.m → Y.tok t = Hb.tok t)
    (h3 : Y.obj id = some (.cells [.own l tk] ct)) (hf : AV.fitL Hb.n Hb.m l = true) : (Hb.put id (.cells [.slice l] ct)).Sub Y := by
  have hat : ∀ j, (Hb.put id (.cells [.slice l] ct)).obj j = if j = id then some (.cells [.slice l] ct) else Hb.obj j := fun j => by
    rw [obj_put]; split
    · rw [ho]; rfl
    · rfl
  refine ⟨⟨fun j hj => by rw [obj_put_ne]; exact hwf.obj j hj, hwf.tok, fun j ds u hj => ?_, fun j es hj => ?_⟩, hn, hm, fun j hj => ?_, fun t ht => .inr (h2 t ht).symm⟩
  · rw [hat] at hj; split at hj
    · cases hj; simp only [AV.fitL, AV.fit, Bool.and_true]; exact hf
    · exact hwf.fit j ds u hj
  · rw [hat] at hj; split at hj
    · cases hj
    · exact hwf.fitM j es hj
  · rw [hat]; split
    · rename_i e; subst e
      rw [h3]
      exact .inr ⟨_, _, _, rfl, rfl, rfl, fun j c c' q1 q2 => by
        cases j with
        | zero => simp at q1 q2; subst q1; subst q2; exact AV.Weak.forget (.own l tk)
        | succ j => simp at q1, by simp [AV.scal]⟩
    · rename_i e; rw [h1 j hj e]; exact .inl rfl
end Go.Ai
