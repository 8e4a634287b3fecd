/- A part of the proof: no statement of the seat is proved in this text. -/
import Derived.Test.YtdmhbplibcolbaaGreatAdr2
set_option linter.unusedVariables false
set_option linter.unusedSimpArgs false
namespace Go.Ai.Tryz
open Go Go.Ai Go.Proofs
variable {w0 : World}
theorem loop40 (r : List Step) (l : List U) (id : Nat) (Hb : AH) (hwf : Hb.WF) (h5 : Hb.obj id = some (.cells [.slice (l.map eU)] 25)) (hl : (everyL l).length ≤ 1000000) (hrl : r.length ≤ 1000000000) (env : Env)
    (he5 : look 5 env = .ptr id 0) (he33 : look 33 env = .slice (r.map eS)) (he34 : look 34 env = .int .i64 r.length) (he35 : look 35 env = .int .i64 0) (Qp : APost)
    (hQ0 : ∀ env', look 5 env' = .ptr id 0 → Qp (.exit 1) env' (Hb.put id (.cells [.slice ((walkM r l).map eU)] 25))) : AX Tryz.prog w0 64 (.loop l82_2) env Hb Qp := by
  have hid : id < Hb.n := hwf.lt h5
  have n0 : ¬ id = Hb.n := by omega
  have n1 : ¬ id = Hb.n + 1 := by omega
  have n2 : ¬ id = Hb.n + 1 + 1 := by omega
  refine AX.iter (S := List Step × List Step × List U) ttOk (fun a => [(5, .ptr id 0), (33, .slice (r.map eS)), (34, .int .i64 r.length), (35, .int .i64 a.1.length)]) (fun a => Hb.put id (.cells [.slice (a.2.2.map eU)] 25)) (fun a => a.2.1.length)
    (fun a => a.1 ++ a.2.1 = r ∧ walkM a.2.1 a.2.2 = walkM r l ∧ (everyL a.2.2).length ≤ 1000000) ([], r, l) ?_ (put_same h5) ⟨rfl, rfl, hl⟩ ?_
  · simp only [go_sem, he5, he33, he34, he35]
  · rintro ⟨pre, post, l'⟩ ⟨h4, h6, h7⟩ hk hwf1 K R' hK hQ
    simp only at h4 h6 h7 hK ⊢
    have hobj : (Hb.put id (.cells [.slice (l'.map eU)] 25)).obj id = some (.cells [.slice (l'.map eU)] 25) := put_at _ h5
    generalize hT : Hb.put id (.cells [.slice (l'.map eU)] 25) = T at hobj hwf1 hK ⊢
    have hTn : T.n = Hb.n := by rw [← hT]; rfl
    have hTm : T.m = Hb.m := by rw [← hT]; rfl
    unfold l82_2
    rcases post with _ | ⟨k, ks⟩
    · have hb := ge_of h4 eS
      simp only [List.length_map] at hb
      simp only [go_sem, hb]
      refine hQ _ _ _ ?_
      rw [← hT, show l' = walkM r l from h6]
      exact hQ0 _ (by simp only [go_sem])
    · have hb := lt_of h4 eS
      have ha := at_of h4 eS
      have hll := len_of h4
      simp only [List.length_map] at hb
      have m0 : ¬ id = T.n := by omega
      have hl' := len_everyL l'
      simp only [go_sem, hb, ha, m0, hobj]
      refine ⟨by omega, ?_⟩
      refine AX.own0 (k := 8) 27 8 (by simp only [go_sem]) ?_
      refine AX.iter (S := List U × List U) ttOk (fun a => [(5, .ptr id 0), (33, .slice (r.map eS)), (34, .int .i64 r.length), (35, .int .i64 pre.length), (7, .ptr T.n 0), (8, .own ((stepM k a.1).map eU) T.m), (39, .slice (l'.map eU)), (40, .int .i64 (l'.map eU).length), (41, .int .i64 a.1.length)])
        (fun a => (T.push (.cells [.int .i64 k.kind, .str k.label] 56)).pushTok ⟨((stepM k a.1).map eU).length, 27, 8⟩) (fun a => a.2.length) (fun a => a.1 ++ a.2 = l') ([], l') ?_ rfl rfl ?_
      · simp only [go_sem]
        exact Weak_of rfl
      · rintro ⟨pre', post'⟩ g4 hk' hwf2 K' R'' hK' hQ'
        simp only at g4 hK' ⊢
        have hst : (everyL (stepM k pre')).length ≤ (everyL pre').length := everyL_stepM k pre'
        have hst' := len_everyL (stepM k pre')
        unfold l82_1
        rcases post' with _ | ⟨x, xs⟩
        · have hb' := ge_of g4 eU
          simp only [go_sem, hb']
          refine hQ' _ _ _ ?_
          simp only [go_sem, hobj, m0]
          rw [List.append_nil] at g4
          rw [g4, wrap_i64.2 (by omega)]
          have hsz := everyL_stepM k l'
          refine hK _ _ (pre ++ [k], ks, stepM k l') (by simp) ⟨snoc_of h4, h6, by simp only; omega⟩ ?_ (by rw [hTn]; exact Nat.le_refl _) (by rw [hTm]; exact Nat.le_refl _) ?_
          · refine Sub_cell (tk := T.m) hwf h5 (by simp only [go_sem, hTn]; omega) (by simp only [go_sem, hTm]; omega) (fun i hi hne => ?_) (fun t ht => ?_) ?_ (by simp only [go_sem])
            · have h8 : ¬ i = T.n := by omega
              have h9 : T.obj i = Hb.obj i := by rw [← hT, obj_put, if_neg hne]
              simp only [go_sem, h8, hne, h9]
            · have h8 : ¬ t = T.m := by omega
              have h9 : T.tok t = Hb.tok t := by rw [← hT]; rfl
              simp only [go_sem, h8, h9]
            · simp only [go_sem, m0, hobj, Option.map_some]
          · simp only [go_sem, len_snoc]
            simp; omega
        · have hb' := lt_of g4 eU
          have ha' := at_of g4 eU
          have hll' := len_of g4
          have hsum : everyL l' = everyL pre' ++ (every x ++ everyL xs) := by rw [← g4, everyL_append]; rfl
          simp only [go_sem, hb', ha']
          refine ⟨by omega, ?_⟩
          refine AX.iter (S := List U × List U) ttOk (fun a => [(5, .ptr id 0), (33, .slice (r.map eS)), (34, .int .i64 r.length), (35, .int .i64 pre.length), (7, .ptr T.n 0), (8, .own ((stepM k pre' ++ sel k a.1).map eU) T.m), (39, .slice (l'.map eU)), (40, .int .i64 (l'.map eU).length), (41, .int .i64 pre'.length), (46, .slice (x.kids.map eU)), (47, .int .i64 (x.kids.map eU).length), (48, .int .i64 a.1.length)])
            (fun a => ((T.push (.cells [.int .i64 k.kind, .str k.label] 56)).push (.cells x.cs 27)).pushTok ⟨((stepM k pre' ++ sel k a.1).map eU).length, 27, 8⟩) (fun a => a.2.length) (fun a => a.1 ++ a.2 = x.kids) ([], x.kids) ?_ ?_ rfl ?_
          · simp only [go_sem, sel_nil, List.append_nil]
          · simp only [sel_nil, List.append_nil]; rfl
          · rintro ⟨pk, qk⟩ f4 hk'' hwf3 K'' R3 hK'' hQ''
            simp only at f4 hK'' ⊢
            have hu := sel_len k pk
            unfold l82_0
            rcases qk with _ | ⟨y, ys⟩
            · have hb'' := ge_of f4 eU
              simp only [go_sem, hb'']
              refine hQ'' _ _ _ ?_
              simp only [go_sem]
              rw [List.append_nil] at f4
              rw [f4, wrap_i64.2 (by omega)]
              have e : stepM k (pre' ++ [x]) = stepM k pre' ++ sel k x.kids := by rw [stepM_append, stepM_one]
              refine hK' _ _ (pre' ++ [x], xs) (by simp) (snoc_of g4) ?_ (Nat.le_refl _) (Nat.le_refl _) ?_
              · rw [e]
                refine .push (H := (T.push (.cells [.int .i64 k.kind, .str k.label] 56)).pushTok ⟨((stepM k pre' ++ sel k x.kids).map eU).length, 27, 8⟩) (.refl (WF_pushTok (WF_push_cells hwf1 _ _ ?_) _)) _
                simp only [go_sem]
              · simp only [go_sem, len_snoc, e]
                simp; omega
            · have hb'' := lt_of f4 eU
              have ha'' := at_of f4 eU
              have hll'' := len_of f4
              have hxk : x.kids.length ≤ (every x).length := by rw [every_eq, List.length_cons]; have := len_everyL x.kids; omega
              have hlx : (everyL l').length = (everyL pre').length + ((every x).length + (everyL xs).length) := by rw [hsum, List.length_append, List.length_append]
              simp only [go_sem, hb'', ha'']
              refine ⟨by omega, ?_⟩
              refine spec104 y k _ _ ?_
              have hw : IntKind.i64.wrap ((pk.length : Int) + 1) = pk.length + 1 := wrap_i64.2 (by omega)
              by_cases hy : isAt y k = true
              · simp only [go_sem, hy, hw]
                have e : sel k (pk ++ [y]) = sel k pk ++ [y] := by rw [sel_append]; simp [sel, hy]
                have e2 : (stepM k pre' ++ sel k (pk ++ [y])).map eU = (stepM k pre' ++ sel k pk).map eU ++ [eU y] := by rw [e]; simp
                refine ⟨by omega, ⟨by simp only [List.length_map, List.length_append]; omega, by simp only [List.length_map, List.length_append]; omega⟩, ?_⟩
                refine hK'' _ _ (pk ++ [y], ys) (by simp) (snoc_of f4) ?_ (Nat.le_refl _) (Nat.le_refl _) ?_
                · rw [e2]
                  refine .pushTok (.push (H := ((T.push (.cells [.int .i64 k.kind, .str k.label] 56)).push (.cells x.cs 27)).pushTok ⟨((stepM k pre' ++ sel k pk).map eU ++ [eU y]).length, 27, 8⟩) (.refl (WF_pushTok (WF_push_cells (WF_push_cells hwf1 _ _ ?_) _ _ ?_) _)) _) _
                  · simp only [go_sem]
                  · simp only [go_sem, U.cs]
                · simp only [go_sem, len_snoc, e2]
                  simp; omega
              · have hy' : isAt y k = false := by simpa using hy
                have e : sel k (pk ++ [y]) = sel k pk := by rw [sel_append]; simp [sel, hy']
                simp only [go_sem, hy', hw]
                refine hK'' _ _ (pk ++ [y], ys) (by simp) (snoc_of f4) ?_ (Nat.le_refl _) (Nat.le_refl _) ?_
                · rw [e]
                  refine .push (H := ((T.push (.cells [.int .i64 k.kind, .str k.label] 56)).push (.cells x.cs 27)).pushTok ⟨((stepM k pre' ++ sel k pk).map eU).length, 27, 8⟩) (.refl hwf3) _
                · simp only [go_sem, len_snoc, e]
                  simp; omega
end Go.Ai.Tryz

set_option linter.unusedVariables false
set_option linter.unusedSimpArgs false
namespace Go.Ai
open Go
theorem AX.forgetCell {P : Program} {w0 : World} {N : Nat} {x : XCode} {env : Env} {H : AH} {Q : APost} {id tk : Nat} {l : List AV} {ct : TypeId} (env' : Env) (ho : H.obj id = some (.cells [.own l tk] ct)) (he : EWeak H.n H.m env env') (h : AX P w0 N x env' (H.put id (.cells [.slice l] ct)) Q) : AX P w0 N x env H Q := by
  intro c hc hd G a w hS hE had
  have hf := hS.wf.fit id _ _ ho
  simp only [AV.fitL, AV.fit, Bool.and_true, Bool.and_eq_true] at hf
  refine AX.weakH ((AH.Sub.refl hS.wf).weak ho (cs' := [.slice l]) rfl (fun j c c' q1 q2 => ?_) (by simp [AV.scal]) ?_) rfl rfl he h c hc hd G a w hS hE had
  · cases j with
    | zero => simp at q1 q2; subst q1; subst q2; exact AV.Weak.forget (.own l tk)
    | succ j => simp at q1
  · simp only [AV.fitL, AV.fit, Bool.and_true]; exact hf.2
end Go.Ai
namespace Go.Ai.Tryz
open Go Go.Ai Go.Proofs
variable {w0 : World}
theorem spec82 (u : U) (p : List Step) (hb : (every u).length ≤ 1000) (H : AH) (Q : AV → AH → Prop) (h : Q (.slice ((foundM u p).map eU)) H) : ACalls Tryz.prog w0 82 [eU u, .slice (p.map eS)] H Q := by
  refine enter82 (by simp) fun hwf hok R hR hR0 => ?_
  have hu := U.good (hok (eU u) (by simp))
  unfold x82
  simp only [go_sem]
  refine spec100 p _ _ ?_
  simp only [go_sem]
  by_cases hv : addrOk' p = true
  · have hle : p.length ≤ 9 := by simp [addrOk'] at hv; omega
    rcases p with _ | ⟨s, r⟩
    · simp only [go_sem, hv, List.map_nil, List.length_nil, Bool.not_true]
      refine ⟨by omega, ?_⟩
      refine hR _ _ _ rfl (.forget (.pushTok (.push (.push (.push (.refl hwf) _) _) _) _) ?_ ?_)
      · simp only [go_sem, AV.forget]
      · simp only [go_sem, AV.forget]
        simpa [foundM, hv] using h
    · simp only [List.length_cons] at hle
      have hd0 : decide ((((r.map eS).length + 1 : Nat) : Int) = 0) = false := by simp; omega
      have htk : List.take (((((r.map eS).length + 1 : Nat) : Int)).toNat - 1) (r.map eS) = r.map eS := List.take_of_length_le (by simp)
      have hcs : ∀ (y : AV), y ∈ eS s :: r.map eS → y.cells.length = 2 := by
        intro y hy
        rw [← List.map_cons] at hy
        obtain ⟨z, _, rfl⟩ := List.mem_map.1 hy
        rfl
      simp only [go_sem, hv, List.map_cons, List.length_cons, Bool.not_true, hd0]
      refine spec101 s _ _ ?_
      have hst := startM_size u s hb
      have hfm : foundM u (s :: r) = walkM r (startM u s) := by simp [foundM, hv]
      by_cases hbk : isBook s = true
      · have hs : startM u s = [u] := by simp [startM, hbk]
        simp only [go_sem, hbk]
        rw [htk, List.length_map]
        refine ⟨by omega, ⟨by omega, by omega⟩, hcs, ?_⟩
        refine AX.forgetCell (id := H.n + 1 + 1) [(5, .ptr (H.n + 1 + 1) 0), (33, .slice (r.map eS)), (34, .int .i64 r.length), (35, .int .i64 0)] (by simp only [go_sem, Option.map_some]; rfl) ?_ ?_
        · simp only [go_sem]
          simp
        simp only [go_sem]
        refine loop40 r (startM u s) (H.n + 1 + 1) _ (WF_pushTok (WF_push_cells (WF_push_cells (WF_push_cells hwf _ _ ?_) _ _ ?_) _ _ ?_) _) ?_ hst (by omega) _ rfl rfl rfl rfl _ fun env' h5' => ?_
        · simp only [go_sem]
        · simp only [go_sem]
        · simp only [go_sem]
        · simp only [go_sem, hs, List.map_cons, List.map_nil]
        simp only [go_sem, h5']
        refine hR _ _ _ rfl (.same (.pushTok (.push (.push (.push (.refl hwf) _) _) _) _) ?_ ?_)
        · simp only [go_sem]
        · simp only [go_sem]
          rw [← hfm]; exact h
      · have hbk' : isBook s = false := by simpa using hbk
        have hs : startM u s = sel s (every u) := by simp [startM, hbk']
        simp only [go_sem, hbk']
        refine ACalls.own0c (id := H.n + 1 + 1) (t := 25) 27 8 (by simp only [go_sem]) ?_
        refine spec102 u s r [] H.m (H.n + 1 + 1) (H.n + 1) _ ?_ ?_ ?_ (by omega) ?_ _ ?_
        · simp only [go_sem]
        · simp only [go_sem]
        · simp only [go_sem]
        · simp; omega
        simp only [go_sem, rowH]
        rw [htk, List.length_map]
        refine ⟨⟨by omega, by omega⟩, hcs, ?_⟩
        refine AX.forgetCell (id := H.n + 1 + 1) [(5, .ptr (H.n + 1 + 1) 0), (33, .slice (r.map eS)), (34, .int .i64 r.length), (35, .int .i64 0)] (by simp only [go_sem, Option.map_some]; rfl) ?_ ?_
        · simp only [go_sem]
          simp
        simp only [go_sem]
        refine loop40 r (startM u s) (H.n + 1 + 1) _ (WF_pushTok (WF_push_cells (WF_push_cells (WF_push_cells hwf _ _ ?_) _ _ ?_) _ _ ?_) _) ?_ hst (by omega) _ rfl rfl rfl rfl _ fun env' h5' => ?_
        · simp only [go_sem]
        · simp only [go_sem]
        · simp only [go_sem]
        · simp only [go_sem, hs, List.map_cons, List.map_nil]
        simp only [go_sem, h5']
        refine hR _ _ _ rfl (.same (.pushTok (.push (.push (.push (.refl hwf) _) _) _) _) ?_ ?_)
        · simp only [go_sem]
        · simp only [go_sem]
          rw [← hfm]; exact h
  · have hv' : addrOk' p = false := by simpa using hv
    simp only [go_sem, hv', Bool.not_false]
    refine hR _ _ _ rfl (.forget (.push (.push (.refl hwf) _) _) ?_ ?_)
    · simp only [go_sem, AV.forget]
    · simp only [go_sem, AV.forget]
      simpa [foundM, hv'] using h
end Go.Ai.Tryz
