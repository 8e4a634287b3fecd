/- A part of the proof: no statement of the seat is proved in this text. -/
import Derived.Test.YtdmhbplibcolbaaGreatFound4
set_option linter.unusedVariables false
set_option linter.unusedSimpArgs false
namespace Go.Ai
theorem OLe.trans {a b c : Option AObj} (h : OLe a b) (k : OLe b c) : OLe a c := by
  rcases h with rfl | ⟨cs, cs', t, rfl, h2, h3, h4, h5⟩
  · exact k
  · exact k.weaker h2 h3 h4 h5
theorem AH.Sub.trans {A B C : AH} (h : A.Sub B) (k : B.Sub C) : A.Sub C :=
  ⟨h.wf, Nat.le_trans h.n k.n, Nat.le_trans h.m k.m, fun i hi => (h.obj i hi).trans (k.obj i (Nat.lt_of_lt_of_le hi h.n)), fun t ht => by
    rcases h.tok t ht with e | e
    · exact .inl e
    · rcases k.tok t (Nat.lt_of_lt_of_le ht h.m) with e' | e'
      · exact .inl (e.trans e')
      · exact .inr (e.trans e')⟩
theorem stepM_nil (s : Step) : stepM s [] = [] := rfl
@[go_sem] theorem Weak_own (l : List AV) (t : Nat) : AV.Weak (.own l t) (.slice l) = True := by simp; exact AV.Weak.forget (.own l t)
@[go_sem] theorem Weak_lit (l : List AV) : AV.Weak (.lit l) (.slice l) = True := by simp; exact AV.Weak.forget (.lit l)
@[go_sem] theorem Weak_nil : AV.Weak .nilS (.slice []) = True := by simp; exact AV.Weak.forget .nilS
end Go.Ai
namespace Go.Ai.Tryz
open Go Go.Ai Go.Proofs
variable {w0 : World}
theorem loop26_3 (p : List Step) (s : Step) (r : List Step) (hp : [s] ++ r = p) (l : List U) (Hb : AH) (hwf : Hb.WF) (hl : (everyL l).length ≤ 1000000) (hrl : p.length ≤ 1000000000) (env : Env)
    (he1 : look 1 env = .slice (p.map eS)) (tk : Nat) (he5 : look 5 env = .own (l.map eU) tk) (he8 : look 8 env = .int .i64 1) (Qp : APost)
    (hQ0 : ∀ env' H', Hb.Sub H' → look 5 env' = .slice ((walkM r l).map eU) → Qp (.exit 2) env' H') : AX Tryz.prog w0 101 (.loop l79_3) env Hb Qp := by
  refine AX.iter0 (S := List Step × List Step × List U) ttOk (fun a => [(1, .slice (p.map eS)), (5, .slice (a.2.2.map eU)), (8, .int .i64 a.1.length)]) (fun a => a.2.1.length)
    (fun a => a.1 ++ a.2.1 = p ∧ walkM a.2.1 a.2.2 = walkM r l ∧ (everyL a.2.2).length ≤ 1000000) ([s], r, l) ?_ ⟨hp, rfl, hl⟩ ?_
  · simp only [go_sem, he1, he5, he8]
  · rintro ⟨pre, post, l'⟩ ⟨h4, h6, h7⟩ hk hwf1 K R' hK hQ
    simp only at h4 h6 h7 hK ⊢
    unfold l79_3
    rcases post with _ | ⟨k, ks⟩
    · have hb := ge_of h4 eS
      simp only [go_sem, hb]
      refine hQ _ _ _ ?_
      refine hQ0 _ _ (.refl hwf) ?_
      simp only [go_sem]
      rw [show l' = walkM r l from h6]
    · have hb := lt_of h4 eS
      have ha := at_of h4 eS
      have hll := len_of h4
      have hl' := len_everyL l'
      simp only [go_sem, hb, ha]
      refine ⟨by omega, ?_⟩
      refine AX.iter (S := List U × List U) ttOk (fun a => [(1, .slice (p.map eS)), (5, .slice (l'.map eU)), (8, .int .i64 pre.length), (9, .own ((stepM k a.1).map eU) Hb.m), (10, .int .i64 a.1.length)])
        (fun a => Hb.pushTok ⟨((stepM k a.1).map eU).length, 27, 8⟩) (fun a => a.2.length) (fun a => a.1 ++ a.2 = l') ([], l') ?_ rfl rfl ?_
      · simp only [go_sem, stepM_nil, List.map_nil]
      · rintro ⟨pre', post'⟩ g4 hk' hwf2 K' R'' hK' hQ'
        simp only at g4 hK' ⊢
        have hst : (everyL (stepM k pre')).length ≤ (everyL pre').length := everyL_stepM k pre'
        have hst' := len_everyL (stepM k pre')
        unfold l79_2
        rcases post' with _ | ⟨x, xs⟩
        · have hb' := ge_of g4 eU
          simp only [go_sem, hb']
          refine hQ' _ _ _ ?_
          simp only [go_sem]
          rw [List.append_nil] at g4
          rw [g4, wrap_i64.2 (by omega)]
          have hsz := everyL_stepM k l'
          refine hK _ _ (pre ++ [k], ks, stepM k l') (by simp) ⟨snoc_of h4, h6, by simp only; omega⟩ (.pushTok (.refl hwf) _) ?_
          simp only [go_sem, len_snoc]
        · have hb' := lt_of g4 eU
          have ha' := at_of g4 eU
          have hll' := len_of g4
          have hsum : everyL l' = everyL pre' ++ (every x ++ everyL xs) := by rw [← g4, everyL_append]; rfl
          simp only [go_sem, hb', ha']
          refine AX.iter (S := List U × List U) ttOk (fun a => [(1, .slice (p.map eS)), (5, .slice (l'.map eU)), (8, .int .i64 pre.length), (9, .own ((stepM k pre' ++ sel k a.1).map eU) Hb.m), (10, .int .i64 pre'.length), (11, .int .i64 a.1.length)])
            (fun a => Hb.pushTok ⟨((stepM k pre' ++ sel k a.1).map eU).length, 27, 8⟩) (fun a => a.2.length) (fun a => a.1 ++ a.2 = x.kids) ([], x.kids) ?_ ?_ rfl ?_
          · simp only [go_sem, sel_nil, List.append_nil]
          · simp only [sel_nil, List.append_nil]
          · rintro ⟨pk, qk⟩ f4 hk'' hwf3 K'' R3 hK'' hQ''
            simp only at f4 hK'' ⊢
            have hu := sel_len k pk
            unfold l79_1
            rcases qk with _ | ⟨y, ys⟩
            · have hb'' := ge_of f4 eU
              simp only [go_sem, hb'', ha']
              refine ⟨by omega, ?_⟩
              refine hQ'' _ _ _ ?_
              simp only [go_sem]
              rw [List.append_nil] at f4
              rw [f4, wrap_i64.2 (by omega)]
              have e : stepM k (pre' ++ [x]) = stepM k pre' ++ sel k x.kids := by rw [stepM_append, stepM_one]
              refine hK' _ _ (pre' ++ [x], xs) (by simp) (snoc_of g4) ?_ (Nat.le_refl _) (Nat.le_refl _) ?_
              · rw [e]
                exact .refl (WF_pushTok hwf1 _)
              · simp only [go_sem, len_snoc, e]
                simp
            · have hb'' := lt_of f4 eU
              have ha'' := at_of f4 eU
              have hll'' := len_of f4
              have hxk : x.kids.length ≤ (every x).length := by rw [every_eq, List.length_cons]; have := len_everyL x.kids; omega
              have hlx : (everyL l').length = (everyL pre').length + ((every x).length + (everyL xs).length) := by rw [hsum, List.length_append, List.length_append]
              simp only [go_sem, hb'', ha'', ha', dr79_1, ha]
              refine ⟨by omega, by omega, by omega, by omega, ?_⟩
              refine PCalls.of (r := .bool (isAt y k)) (fun H' => spec98 y k _ _ ⟨rfl, rfl⟩) ?_
              have hw : IntKind.i64.wrap ((pk.length : Int) + 1) = pk.length + 1 := wrap_i64.2 (by omega)
              by_cases hy : isAt y k = true
              · have e : sel k (pk ++ [y]) = sel k pk ++ [y] := by rw [sel_append]; simp [sel, hy]
                have e2 : (stepM k pre' ++ sel k (pk ++ [y])).map eU = (stepM k pre' ++ sel k pk).map eU ++ [eU y] := by rw [e]; simp
                simp only [go_sem, hy, hw, ha', ha'']
                refine ⟨by omega, by omega, by omega, ⟨by simp only [List.length_map, List.length_append]; omega, by simp only [List.length_map, List.length_append]; omega⟩, ?_⟩
                refine hK'' _ _ (pk ++ [y], ys) (by simp) (snoc_of f4) ?_ (Nat.le_refl _) (Nat.le_refl _) ?_
                · rw [e2]
                  exact .pushTok (.refl (WF_pushTok hwf1 _)) _
                · simp only [go_sem, len_snoc, e2]
                  simp
              · have hy' : isAt y k = false := by simpa using hy
                have e : sel k (pk ++ [y]) = sel k pk := by rw [sel_append]; simp [sel, hy']
                simp only [go_sem, hy', hw]
                refine hK'' _ _ (pk ++ [y], ys) (by simp) (snoc_of f4) ?_ (Nat.le_refl _) (Nat.le_refl _) ?_
                · rw [e]
                  exact .refl hwf3
                · simp only [go_sem, len_snoc, e]
                  simp
theorem spec79 (u : U) (p : List Step) (hb : (every u).length ≤ 1000) (H : AH) (Q : AV → AH → Prop) (h : Q (.slice ((foundM u p).map eU)) H) : ACalls Tryz.prog w0 79 [eU u, .slice (p.map eS)] H Q := by
  refine enter79 (by simp) fun hwf hok R hR hR0 => ?_
  have hu := U.good (hok (eU u) (by simp))
  unfold x79
  simp only [go_sem]
  refine spec19 p _ _ ?_
  simp only [go_sem]
  by_cases hv : addrOk' p = true
  · have hle : p.length ≤ 9 := by simp [addrOk'] at hv; omega
    rcases p with _ | ⟨s, r⟩
    · simp only [go_sem, hv, List.map_nil, List.length_nil, Bool.not_true]
      refine ⟨by omega, ?_⟩
      refine hR _ _ _ rfl (.forget (.pushTok (.push (.refl hwf) _) _) ?_ ?_)
      · simp only [go_sem, AV.forget]
      · simp only [go_sem, AV.forget]
        simpa [foundM, hv] using h
    · simp only [List.length_cons] at hle
      have hd0 : decide ((((r.map eS).length + 1 : Nat) : Int) = 0) = false := by simp; omega
      have hst := startM_size u s hb
      have hfm : foundM u (s :: r) = walkM r (startM u s) := by simp [foundM, hv]
      simp only [go_sem, hv, List.map_cons, List.length_cons, Bool.not_true, hd0]
      refine ⟨by omega, ?_⟩
      refine spec51 s _ _ ?_
      by_cases hbk : isBook s = true
      · have hs : startM u s = [u] := by simp [startM, hbk]
        simp only [go_sem, hbk]
        refine ⟨by omega, by omega, ?_⟩
        refine loop26_3 (s :: r) s r rfl (startM u s) _ (WF_pushTok (WF_pushTok (WF_push_cells hwf _ _ ?_) _) _) hst (by simp only [List.length_cons]; omega) _ ?_ H.m ?_ ?_ _ fun env' H' hs' h5' => ?_
        · simp only [go_sem]
        · simp only [go_sem, List.map_cons]
        · simp only [go_sem, hs, List.map_cons, List.map_nil]
        · simp only [go_sem]
        simp only [go_sem, h5']
        refine hR _ _ _ rfl (.same (.trans (.pushTok (.pushTok (.push (.refl hwf) _) _) _) hs') ?_ ?_)
        · simp only [go_sem]
        · simp only [go_sem]
          rw [← hfm]; exact h
      · have hbk' : isBook s = false := by simpa using hbk
        have hs : startM u s = sel s (every u) := by simp [startM, hbk']
        simp only [go_sem, hbk']
        refine spec62 u (by omega) _ _ ?_
        simp only [go_sem]
        refine AX.iter (S := List U × List U) ttOk (fun a => [(1, .slice ((s :: r).map eS)), (5, .own ((sel s a.1).map eU) H.m), (6, .slice ((every u).map eU)), (7, .int .i64 a.1.length)])
          (fun a => (H.push (.cells u.cs 27)).pushTok ⟨((sel s a.1).map eU).length, 27, 8⟩) (fun a => a.2.length) (fun a => a.1 ++ a.2 = every u) ([], every u) ?_ rfl rfl ?_
        · simp only [go_sem, sel_nil, List.map_nil, List.map_cons]
        · rintro ⟨pre, post⟩ h4 hk hwf1 K R' hK hQ
          simp only at h4 hK ⊢
          have hsl := sel_len s pre
          unfold l79_0
          rcases post with _ | ⟨k, ks⟩
          · have hb' := ge_of h4 eU
            simp only [go_sem, hb']
            refine hQ _ _ _ ?_
            simp only [go_sem]
            rw [List.append_nil] at h4
            refine loop26_3 (s :: r) s r rfl (startM u s) _ (WF_pushTok (WF_push_cells hwf _ _ ?_) _) hst (by simp only [List.length_cons]; omega) _ ?_ H.m ?_ ?_ _ fun env' H' hs' h5' => ?_
            · simp only [go_sem, U.cs]
            · simp only [go_sem, List.map_cons]
            · simp only [go_sem, hs, h4]
            · simp only [go_sem]
            simp only [go_sem, h5']
            refine hR _ _ _ rfl (.same (.trans (.pushTok (.push (.refl hwf) _) _) hs') ?_ ?_)
            · simp only [go_sem]
            · simp only [go_sem]
              rw [← hfm]; exact h
          · have hb' := lt_of h4 eU
            have ha' := at_of h4 eU
            have hll' := len_of h4
            simp only [go_sem, hb', ha', dr79_0, List.map_cons]
            refine ⟨by omega, ?_⟩
            refine PCalls.of (r := .bool (isAt k s)) (fun H' => spec98 k s _ _ ⟨rfl, rfl⟩) ?_
            have hw : IntKind.i64.wrap ((pre.length : Int) + 1) = pre.length + 1 := wrap_i64.2 (by omega)
            by_cases hy : isAt k s = true
            · have e : sel s (pre ++ [k]) = sel s pre ++ [k] := by rw [sel_append]; simp [sel, hy]
              have e2 : (sel s (pre ++ [k])).map eU = (sel s pre).map eU ++ [eU k] := by rw [e]; simp
              simp only [go_sem, hy, hw, ha']
              refine ⟨by omega, by omega, ⟨by simp only [List.length_map]; omega, by simp only [List.length_map]; omega⟩, ?_⟩
              refine hK _ _ (pre ++ [k], ks) (by simp) (snoc_of h4) ?_ (Nat.le_refl _) (Nat.le_refl _) ?_
              · rw [e2]
                refine .pushTok (.refl (WF_pushTok (WF_push_cells hwf _ _ ?_) _)) _
                simp only [go_sem, U.cs]
              · simp only [go_sem, len_snoc, e2, List.map_cons]
                simp
            · have hy' : isAt k s = false := by simpa using hy
              have e : sel s (pre ++ [k]) = sel s pre := by rw [sel_append]; simp [sel, hy']
              simp only [go_sem, hy', hw]
              refine hK _ _ (pre ++ [k], ks) (by simp) (snoc_of h4) ?_ (Nat.le_refl _) (Nat.le_refl _) ?_
              · rw [e]
                exact .refl hwf1
              · simp only [go_sem, len_snoc, e, List.map_cons]
                simp
  · have hv' : addrOk' p = false := by simpa using hv
    simp only [go_sem, hv', Bool.not_false]
    refine hR _ _ _ rfl (.forget (.push (.refl hwf) _) ?_ ?_)
    · simp only [go_sem, AV.forget]
    · simp only [go_sem, AV.forget]
      simpa [foundM, hv'] using h
end Go.Ai.Tryz

set_option linter.unusedVariables false
set_option linter.unusedSimpArgs false
namespace Go.Ai
open Go
def idsOf (l : List U) : List Id := l.map (·.id)
def idsM (u : U) (p : List Step) : List Id := idsOf (foundM u p)
theorem idsOf_snoc (l : List U) (k : U) : idsOf (l ++ [k]) = idsOf l ++ [k.id] := by simp [idsOf]
theorem idsOf_nil : idsOf [] = [] := rfl
theorem idsOf_len (l : List U) : (idsOf l).length = l.length := by simp [idsOf]
def zeroId : Id := ⟨0, 0, 0⟩
def oneM (l : List Id) : Id × Int := match l with
  | [] => (zeroId, 7)
  | [i] => (i, 0)
  | _ => (zeroId, 8)
@[go_sem] theorem fold_zeroId : AV.agg [.int .i64 0, .int .i64 0, .int .i64 0] = eId zeroId := rfl
theorem ares1_cell {tt : TT} {env : Env} {H : AH} {a : Nat} {t : TypeId} {id off : Nat} {cs : List AV} {e : TypeId} {i : TyI} (h2 : tt t = some i) (h0 : look a env = .ptr id off) (h1 : H.obj id = some (.cells cs e)) (h3 : 0 < i.size) (h4 : off + i.size ≤ cs.length) {v : AV} (hv : v = mkA i.agg ((cs.drop off).take i.size)) : ares1 tt (.cell a t) env H v := by
  refine ⟨i, h2, h3, ?_⟩
  simp only [aev, h0]
  exact ⟨cs, e, h1, h4, hv.symm, trivial⟩
theorem ares_ct {tt : TT} {env : Env} {H : AH} {a b : Nat} {t : TypeId} {v w : AV} (h1 : ares1 tt (.cell a t) env H v) (h2 : look b env = w) : ares tt env H [.cell a t, .tmp b] (.tup [v, w]) := ⟨_, ⟨_, _, h1, ⟨_, _, h2, rfl, rfl⟩, rfl⟩, rfl⟩
end Go.Ai
namespace Go.Ai.Tryz
open Go Go.Ai Go.Proofs
variable {w0 : World}
theorem spec57 (u : U) (p : List Step) (hb : (every u).length ≤ 1000) (H : AH) (Q : AV → AH → Prop) (h : Q (.slice ((idsM u p).map eId)) H) : ACalls Tryz.prog w0 57 [eU u, .slice (p.map eS)] H Q := by
  refine enter57 (by simp) fun hwf hok R hR hR0 => ?_
  have hf := foundM_size u p hb
  unfold x57
  simp only [go_sem]
  refine ⟨by omega, ?_⟩
  refine spec79 u p hb _ _ ?_
  simp only [go_sem]
  refine AX.iter (S := List U × List U) ttOk (fun a => [(5, .own ((idsOf a.1).map eId) H.m), (6, .slice ((foundM u p).map eU)), (7, .int .i64 a.1.length)]) (fun a => (H.push (.cells u.cs 27)).pushTok ⟨((idsOf a.1).map eId).length, 23, 3⟩) (fun a => a.2.length)
    (fun a => a.1 ++ a.2 = foundM u p) ([], foundM u p) ?_ rfl rfl ?_
  · simp only [go_sem, idsOf_nil, List.map_nil]
  · rintro ⟨pre, post⟩ h2 hk hwf' K R' hK hQ
    simp only at h2 hK ⊢
    unfold l57_0
    rcases post with _ | ⟨k, ks⟩
    · have hb := ge_of h2 eU
      simp only [go_sem, hb]
      refine hQ _ _ _ ?_
      simp only [go_sem]
      refine hR _ _ _ rfl (.forget (.pushTok (.push (.refl hwf) _) _) ?_ ?_)
      · simp only [go_sem, AV.forget]
      · simp only [go_sem, AV.forget]
        rw [List.append_nil] at h2
        rw [h2]; exact h
    · have hb := lt_of h2 eU
      have ha := at_of h2 eU
      have hl := len_of h2
      have hw : IntKind.i64.wrap ((pre.length : Int) + 1) = pre.length + 1 := wrap_i64.2 (by omega)
      simp only [go_sem, hb, ha, hw]
      refine ⟨by omega, by omega, ⟨by simp only [List.length_map, idsOf_len]; omega, by simp only [List.length_map, idsOf_len]; omega⟩, ?_⟩
      have e : (idsOf (pre ++ [k])).map eId = (idsOf pre).map eId ++ [eId k.id] := by rw [idsOf_snoc]; simp
      refine hK _ _ (pre ++ [k], ks) (by simp) (snoc_of h2) ?_ (Nat.le_refl _) (Nat.le_refl _) ?_
      · rw [e]
        refine .pushTok (.refl (WF_pushTok (WF_push_cells hwf _ _ ?_) _)) _
        simp only [go_sem, U.cs]
      · simp only [go_sem, len_snoc, e]
        simp
theorem spec66 (u : U) (p : List Step) (hb : (every u).length ≤ 1000) (H : AH) (Q : AV → AH → Prop) (h : Q (.slice ((idsM u p).map eId)) H) : ACalls Tryz.prog w0 66 [eU u, .slice (p.map eS)] H Q := by
  refine enter66 (by simp) fun hwf hok R hR hR0 => ?_
  have hf := foundM_size u p hb
  unfold x66
  simp only [go_sem]
  refine spec82 u p hb _ _ ?_
  simp only [go_sem]
  refine AX.own0 (k := 5) 23 3 (by simp only [go_sem]) ?_
  refine AX.iter (S := List U × List U) ttOk (fun a => [(5, .own ((idsOf a.1).map eId) H.m), (10, .slice ((foundM u p).map eU)), (11, .int .i64 ((foundM u p).map eU).length), (12, .int .i64 a.1.length)]) (fun a => (H.push (.cells u.cs 27)).pushTok ⟨((idsOf a.1).map eId).length, 23, 3⟩) (fun a => a.2.length)
    (fun a => a.1 ++ a.2 = foundM u p) ([], foundM u p) ?_ rfl rfl ?_
  · simp only [go_sem, idsOf_nil, List.map_nil]
  · rintro ⟨pre, post⟩ h2 hk hwf' K R' hK hQ
    simp only at h2 hK ⊢
    unfold l66_0
    rcases post with _ | ⟨k, ks⟩
    · have hb := ge_of h2 eU
      simp only [go_sem, hb]
      refine hQ _ _ _ ?_
      simp only [go_sem]
      refine hR _ _ _ rfl (.forget (.pushTok (.push (.refl hwf) _) _) ?_ ?_)
      · simp only [go_sem, AV.forget]
      · simp only [go_sem, AV.forget]
        rw [List.append_nil] at h2
        rw [h2]; exact h
    · have hb := lt_of h2 eU
      have ha := at_of h2 eU
      have hl := len_of h2
      have hw : IntKind.i64.wrap ((pre.length : Int) + 1) = pre.length + 1 := wrap_i64.2 (by omega)
      simp only [go_sem, hb, ha, hw]
      refine ⟨by omega, by omega, ⟨by simp only [List.length_map, idsOf_len]; omega, by simp only [List.length_map, idsOf_len]; omega⟩, ?_⟩
      have e : (idsOf (pre ++ [k])).map eId = (idsOf pre).map eId ++ [eId k.id] := by rw [idsOf_snoc]; simp
      refine hK _ _ (pre ++ [k], ks) (by simp) (snoc_of h2) ?_ (Nat.le_refl _) (Nat.le_refl _) ?_
      · rw [e]
        refine .pushTok (.push (H := (H.push (.cells u.cs 27)).pushTok ⟨((idsOf pre).map eId ++ [eId k.id]).length, 23, 3⟩) (.refl (WF_pushTok (WF_push_cells hwf _ _ ?_) _)) _) _
        simp only [go_sem, U.cs]
      · simp only [go_sem, len_snoc, e]
        simp
theorem spec27 (u : U) (p : List Step) (hb : (every u).length ≤ 1000) (H : AH) (Q : AV → AH → Prop) (h : Q (.tup [eId (oneM (idsM u p)).1, .int .i64 (oneM (idsM u p)).2]) H) : ACalls Tryz.prog w0 27 [eU u, .slice (p.map eS)] H Q := by
  refine enter27 (by simp) fun hwf hok R hR hR0 => ?_
  have fin : ∀ (i : Id) (e : Int) env', oneM (idsM u p) = (i, e) → look 4 env' = .ptr (H.n + 1) 0 → look 5 env' = .int .i64 e → R .ret env' ((H.push (.cells [.int .i64 u.id.act, .int .i64 u.id.item, .int .i64 u.id.n, .int .i64 u.kind, .str u.label, .slice (u.head.map eW), .slice (u.words.map eW), .slice (u.kids.map eU)] 27)).push (.cells [.int .i64 i.act, .int .i64 i.item, .int .i64 i.n] 23)) := fun i e env' h1 h2 h3 => by
    rw [h1] at h
    exact hR _ _ _ (ares_ct (ares1_cell (v := eId i) (cs := [.int .i64 i.act, .int .i64 i.item, .int .i64 i.n]) (e := 23) tt_23 h2 (by simp only [go_sem]) (by decide) (by simp only [go_sem]) rfl) h3) (.same (.push (.push (.refl hwf) _) _) rfl h)
  unfold x27
  simp only [go_sem]
  refine spec57 u p hb _ _ ?_
  simp only [go_sem]
  rcases hl : idsM u p with _ | ⟨i, _ | ⟨j, r⟩⟩
  · simp only [go_sem]
    exact fin zeroId 7 _ (by rw [hl]; rfl) (by simp only [go_sem]) (by simp only [go_sem])
  · simp only [go_sem]
    exact fin i 0 _ (by rw [hl]; rfl) (by simp only [go_sem]) (by simp only [go_sem])
  · have e0 : decide ((((r.map eId).length + 1 + 1 : Nat) : Int) = 0) = false := by simp; omega
    have e1 : decide (1 < (((r.map eId).length + 1 + 1 : Nat) : Int)) = true := by simp; omega
    have e2 : decide ((((r.map eId).length + 1 + 1 : Nat) : Int) = 1) = false := by simp; omega
    simp only [go_sem, e0, e1, e2]
    exact fin zeroId 8 _ (by rw [hl]; rfl) (by simp only [go_sem]) (by simp only [go_sem])
theorem spec37 (u : U) (p : List Step) (hb : (every u).length ≤ 1000) (H : AH) (Q : AV → AH → Prop) (h : Q (.tup [eId (oneM (idsM u p)).1, .int .i64 (oneM (idsM u p)).2]) H) : ACalls Tryz.prog w0 37 [eU u, .slice (p.map eS)] H Q := by
  refine enter37 (by simp) fun hwf hok R hR hR0 => ?_
  have fin : ∀ (i : Id) (e : Int) env', oneM (idsM u p) = (i, e) → look 4 env' = .ptr (H.n + 1) 0 → look 5 env' = .int .i64 e → R .ret env' ((H.push (.cells [.int .i64 u.id.act, .int .i64 u.id.item, .int .i64 u.id.n, .int .i64 u.kind, .str u.label, .slice (u.head.map eW), .slice (u.words.map eW), .slice (u.kids.map eU)] 27)).push (.cells [.int .i64 i.act, .int .i64 i.item, .int .i64 i.n] 23)) := fun i e env' h1 h2 h3 => by
    rw [h1] at h
    exact hR _ _ _ (ares_ct (ares1_cell (v := eId i) (cs := [.int .i64 i.act, .int .i64 i.item, .int .i64 i.n]) (e := 23) tt_23 h2 (by simp only [go_sem]) (by decide) (by simp only [go_sem]) rfl) h3) (.same (.push (.push (.refl hwf) _) _) rfl h)
  unfold x37
  simp only [go_sem]
  refine spec66 u p hb _ _ ?_
  simp only [go_sem]
  rcases hl : idsM u p with _ | ⟨i, _ | ⟨j, r⟩⟩
  · simp only [go_sem]
    exact fin zeroId 7 _ (by rw [hl]; rfl) (by simp only [go_sem]) (by simp only [go_sem])
  · simp only [go_sem]
    exact fin i 0 _ (by rw [hl]; rfl) (by simp only [go_sem]) (by simp only [go_sem])
  · have e0 : decide ((((r.map eId).length + 1 + 1 : Nat) : Int) = 0) = false := by simp; omega
    have e1 : decide (1 < (((r.map eId).length + 1 + 1 : Nat) : Int)) = true := by simp; omega
    have e2 : decide ((((r.map eId).length + 1 + 1 : Nat) : Int) = 1) = false := by simp; omega
    simp only [go_sem, e0, e1, e2]
    exact fin zeroId 8 _ (by rw [hl]; rfl) (by simp only [go_sem]) (by simp only [go_sem])
theorem spec40 (n : Int) (H : AH) (Q : AV → AH → Prop) (h : Q (.bool (decide (0 ≤ n) && decide (n ≤ 3))) H) : ACalls Tryz.prog w0 40 [.int .i64 n] H Q := by
  refine enter40 (by simp) fun hwf hok R hR hR0 => ?_
  unfold x40
  simp only [go_sem]
  refine ⟨fun h1 => hR _ _ _ rfl (.same (.refl hwf) rfl ?_), fun h1 => hR _ _ _ rfl (.same (.refl hwf) rfl ?_)⟩
  · rw [h1, Bool.true_and] at h; simp only [go_sem]; exact h
  · rw [h1, Bool.false_and] at h; simp only [go_sem]; exact h
end Go.Ai.Tryz
