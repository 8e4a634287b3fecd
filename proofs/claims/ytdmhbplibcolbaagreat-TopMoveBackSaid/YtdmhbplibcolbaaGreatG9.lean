/- A part of the proof: no statement of the seat is proved in this text. -/
import Derived.Test.YtdmhbplibcolbaaGreatG6
set_option linter.unusedVariables false
set_option linter.unusedSimpArgs false
set_option maxRecDepth 20000
set_option maxHeartbeats 1000000
namespace Go.Ai
open Go Go.Ai.Tryz
structure It where
  kind : Int
  at' : List Step
  to : List Step
  wh : Int
  nth : Int
  unit : U
  old : List ByteArray
  new : List ByteArray
  label : ByteArray
  fr : ByteArray
  skind : Int
  sday : Int
  sevent : ByteArray
  act : Int
  item : Int
  day : Int
  event : ByteArray
  by' : List It
mutual
def eIt : It → AV
  | ⟨k, a, t, wh, n, u, o, nw, lb, fr, sk, sd, se, ac, it, d, ev, bs⟩ => .agg [.int .i64 k, .slice (a.map eS), .slice (t.map eS), .int .i64 wh, .int .i64 n, .int .i64 u.id.act, .int .i64 u.id.item, .int .i64 u.id.n, .int .i64 u.kind, .str u.label, .slice (u.head.map eW), .slice (u.words.map eW), .slice (u.kids.map eU),
      .slice (o.map AV.str), .slice (nw.map AV.str), .str lb, .str fr, .int .i64 sk, .int .i64 sd, .str se, .int .i64 ac, .int .i64 it, .int .i64 d, .str ev, .slice (eIts bs)]
def eIts : List It → List AV
  | [] => []
  | x :: xs => eIt x :: eIts xs
end
theorem eIts_eq (l : List It) : eIts l = l.map eIt := by induction l with
  | nil => rfl
  | cons u l ih => simp [eIts, ih]
def It.cs (x : It) : List AV := [.int .i64 x.kind, .slice (x.at'.map eS), .slice (x.to.map eS), .int .i64 x.wh, .int .i64 x.nth, .int .i64 x.unit.id.act, .int .i64 x.unit.id.item, .int .i64 x.unit.id.n, .int .i64 x.unit.kind, .str x.unit.label, .slice (x.unit.head.map eW), .slice (x.unit.words.map eW), .slice (x.unit.kids.map eU),
      .slice (x.old.map AV.str), .slice (x.new.map AV.str), .str x.label, .str x.fr, .int .i64 x.skind, .int .i64 x.sday, .str x.sevent, .int .i64 x.act, .int .i64 x.item, .int .i64 x.day, .str x.event, .slice (x.by'.map eIt)]
theorem eIt_eq (x : It) : eIt x = .agg x.cs := by cases x; simp [eIt, It.cs, eIts_eq]
@[go_sem] theorem cells_eIt (x : It) : (eIt x).cells = [.int .i64 x.kind, .slice (x.at'.map eS), .slice (x.to.map eS), .int .i64 x.wh, .int .i64 x.nth, .int .i64 x.unit.id.act, .int .i64 x.unit.id.item, .int .i64 x.unit.id.n, .int .i64 x.unit.kind, .str x.unit.label, .slice (x.unit.head.map eW), .slice (x.unit.words.map eW), .slice (x.unit.kids.map eU),
      .slice (x.old.map AV.str), .slice (x.new.map AV.str), .str x.label, .str x.fr, .int .i64 x.skind, .int .i64 x.sday, .str x.sevent, .int .i64 x.act, .int .i64 x.item, .int .i64 x.day, .str x.event, .slice (x.by'.map eIt)] := by rw [eIt_eq]; rfl
@[go_sem] theorem fold_eIt (x : It) : AV.agg [.int .i64 x.kind, .slice (x.at'.map eS), .slice (x.to.map eS), .int .i64 x.wh, .int .i64 x.nth, .int .i64 x.unit.id.act, .int .i64 x.unit.id.item, .int .i64 x.unit.id.n, .int .i64 x.unit.kind, .str x.unit.label, .slice (x.unit.head.map eW), .slice (x.unit.words.map eW), .slice (x.unit.kids.map eU),
      .slice (x.old.map AV.str), .slice (x.new.map AV.str), .str x.label, .str x.fr, .int .i64 x.skind, .int .i64 x.sday, .str x.sevent, .int .i64 x.act, .int .i64 x.item, .int .i64 x.day, .str x.event, .slice (x.by'.map eIt)] = eIt x := by rw [eIt_eq]; rfl
@[go_sem] theorem agg_eIt (x : It) : (eIt x).isAgg = true := by rw [eIt_eq]; rfl
mutual
theorem fit_eIt (n m : Nat) : (x : It) → (eIt x).fit n m = true
  | ⟨k, a, t, wh, nn, u, o, nw, lb, fr, sk, sd, se, ac, it, d, ev, bs⟩ => by
    simp only [eIt, AV.fit, AV.fitL, fitL_eS, fitL_eW, fitL_eU, fitL_str, fit_eIts n m bs, Bool.and_self]
theorem fit_eIts (n m : Nat) : (l : List It) → AV.fitL n m (eIts l) = true
  | [] => rfl
  | x :: xs => by simp [eIts, AV.fitL, fit_eIt n m x, fit_eIts n m xs]
end
attribute [go_sem] fit_eIt
@[go_sem] theorem fitL_eIt (n m : Nat) (l : List It) : AV.fitL n m (l.map eIt) = true := by rw [← eIts_eq]; exact fit_eIts n m l
theorem by_lt {x k : It} (h : k ∈ x.by') : SizeOf.sizeOf k < SizeOf.sizeOf x := by
  have := List.sizeOf_lt_of_mem h
  cases x
  simp at this ⊢
  omega
theorem It.byLen {x : It} (h : (eIt x).Ok) : x.by'.length ≤ 281474976710656 ∧ x.at'.length ≤ 281474976710656 ∧ x.to.length ≤ 281474976710656 ∧ x.old.length ≤ 281474976710656 ∧ x.new.length ≤ 281474976710656 ∧ ∀ k ∈ x.by', (eIt k).Ok := by
  rw [eIt_eq] at h
  refine ⟨?_, ?_, ?_, ?_, ?_, fun k hk => ?_⟩
  · simpa using (h.agg (c := .slice (x.by'.map eIt)) (by simp [It.cs])).slice
  · simpa using (h.agg (c := .slice (x.at'.map eS)) (by simp [It.cs])).slice
  · simpa using (h.agg (c := .slice (x.to.map eS)) (by simp [It.cs])).slice
  · simpa using (h.agg (c := .slice (x.old.map AV.str)) (by simp [It.cs])).slice
  · simpa using (h.agg (c := .slice (x.new.map AV.str)) (by simp [It.cs])).slice
  · have := (h.agg (c := .slice (x.by'.map eIt)) (by simp [It.cs]))
    rw [eIt_eq]
    exact AV.Ok.elem_agg this (by rw [← eIt_eq]; exact List.mem_map_of_mem hk)
end Go.Ai
namespace Go.Ai.Tryz
open Go Go.Ai Go.Proofs
variable {w0 : World}
theorem spec5G (x : It) (H : AH) (Q : AV → AH → Prop) (h : ∀ b, Q (.bool b) H) : ACalls Tryz.prog w0 5 [eIt x] H Q := by
  refine enter5 (by simp) fun hwf hok R hR hR0 => ?_
  obtain ⟨lby, lat, lto, lold, lnew, hkid⟩ := It.byLen (hok (eIt x) (by simp))
  have fin : ∀ b env' H', look 2 env' = .bool b → H.Sub H' → R .ret env' H' := fun b env' H' h2 h3 => hR _ _ _ rfl (.same h3 (by rw [h2]; rfl) (by rw [h2]; exact h b))
  unfold x5
  cases c0 : decide ((12 : Int) < (((x.at'.map eS).length : Nat) : Int)) with
  | true =>
    simp only [go_sem, c0]
    exact fin false _ _ (by simp only [go_sem]) (.push (.refl hwf) _)
  | false =>
    cases c1 : decide ((12 : Int) < (((x.to.map eS).length : Nat) : Int)) with
    | true =>
      simp only [go_sem, c0, c1]
      exact fin false _ _ (by simp only [go_sem]) (.push (.refl hwf) _)
    | false =>
      cases c2 : decide ((300 : Int) < (((x.old.map AV.str).length : Nat) : Int)) with
      | true =>
        simp only [go_sem, c0, c1, c2]
        exact fin false _ _ (by simp only [go_sem]) (.push (.refl hwf) _)
      | false =>
        cases c3 : decide ((300 : Int) < (((x.new.map AV.str).length : Nat) : Int)) with
        | true =>
          simp only [go_sem, c0, c1, c2, c3]
          exact fin false _ _ (by simp only [go_sem]) (.push (.refl hwf) _)
        | false =>
          cases c4 : decide ((100 : Int) < ((x.label.size : Nat) : Int)) with
          | true =>
            simp only [go_sem, c0, c1, c2, c3, c4]
            exact fin false _ _ (by simp only [go_sem]) (.push (.refl hwf) _)
          | false =>
            cases c5 : decide ((100 : Int) < ((x.fr.size : Nat) : Int)) with
            | true =>
              simp only [go_sem, c0, c1, c2, c3, c4, c5]
              exact fin false _ _ (by simp only [go_sem]) (.push (.refl hwf) _)
            | false =>
              cases c6 : decide ((100 : Int) < ((x.sevent.size : Nat) : Int)) with
              | true =>
                simp only [go_sem, c0, c1, c2, c3, c4, c5, c6]
                exact fin false _ _ (by simp only [go_sem]) (.push (.refl hwf) _)
              | false =>
                cases c7 : decide ((100 : Int) < ((x.event.size : Nat) : Int)) with
                | true =>
                  simp only [go_sem, c0, c1, c2, c3, c4, c5, c6, c7]
                  exact fin false _ _ (by simp only [go_sem]) (.push (.refl hwf) _)
                | false =>
                  cases c8 : decide ((2 : Int) < (((x.by'.map eIt).length : Nat) : Int)) with
                  | true =>
                    simp only [go_sem, c0, c1, c2, c3, c4, c5, c6, c7, c8]
                    exact fin false _ _ (by simp only [go_sem]) (.push (.refl hwf) _)
                  | false =>
                    simp only [go_sem, c0, c1, c2, c3, c4, c5, c6, c7, c8]
                    refine spec14 x.unit _ _ fun b hb => ?_
                    cases b with
                    | false =>
                      simp only [go_sem, Bool.not_false]
                      exact fin false _ _ (by simp only [go_sem]) (.push (.refl hwf) _)
                    | true =>
                      simp only [go_sem, Bool.not_true]
                      obtain ⟨m0, m1, m2, m3, m8⟩ : x.at'.length ≤ 12 ∧ x.to.length ≤ 12 ∧ x.old.length ≤ 300 ∧ x.new.length ≤ 300 ∧ x.by'.length ≤ 2 := by
                        simp only [List.length_map, decide_eq_false_iff_not] at c0 c1 c2 c3 c8
                        exact ⟨by omega, by omega, by omega, by omega, by omega⟩
                      refine AX.iter (S := List ByteArray × List ByteArray) ttOk (fun a => [(1, .ptr H.n 0), (3, .int .i64 a.1.length)]) (fun _ => H.push (.cells x.cs 34)) (fun a => a.2.length) (fun a => a.1 ++ a.2 = x.old) ([], x.old) ?_ rfl rfl ?_
                      · simp only [go_sem]
                      rintro ⟨pre, post⟩ h2 hk2 hwf2 K2 R2 hK2 hQ2
                      simp only at h2 hK2
                      unfold l5_0
                      simp only [It.cs]
                      rcases post with _ | ⟨k, ks⟩
                      rotate_left
                      · have hb := lt_of h2 AV.str
                        have ha := at_of h2 AV.str
                        have hl := len_of h2
                        have hw : IntKind.i64.wrap ((pre.length : Int) + 1) = pre.length + 1 := wrap_i64.2 (by omega)
                        simp only [go_sem, hb, ha, hw]
                        refine ⟨by omega, fun _ => ?_, fun _ => ?_⟩
                        · refine hQ2 _ _ _ ?_
                          simp only [go_sem]
                          exact fin false _ _ (by simp only [go_sem]) (.push (.refl hwf) _)
                        · refine hK2 _ _ (pre ++ [k], ks) (by simp) (snoc_of h2) (.refl hwf2) (Nat.le_refl _) (Nat.le_refl _) ?_
                          simp only [go_sem, len_snoc]
                          simp
                      have hb := ge_of h2 AV.str
                      simp only [go_sem, hb]
                      refine hQ2 _ _ _ ?_
                      simp only [go_sem]
                      clear hb h2 hk2 hK2 hQ2
                      refine AX.iter (S := List ByteArray × List ByteArray) ttOk (fun a => [(1, .ptr H.n 0), (4, .int .i64 a.1.length)]) (fun _ => H.push (.cells x.cs 34)) (fun a => a.2.length) (fun a => a.1 ++ a.2 = x.new) ([], x.new) ?_ rfl rfl ?_
                      · simp only [go_sem]
                      rintro ⟨pre, post⟩ h2 hk2 hwf2 K2 R2 hK2 hQ2
                      simp only at h2 hK2
                      unfold l5_1
                      simp only [It.cs]
                      rcases post with _ | ⟨k, ks⟩
                      rotate_left
                      · have hb := lt_of h2 AV.str
                        have ha := at_of h2 AV.str
                        have hl := len_of h2
                        have hw : IntKind.i64.wrap ((pre.length : Int) + 1) = pre.length + 1 := wrap_i64.2 (by omega)
                        simp only [go_sem, hb, ha, hw]
                        refine ⟨by omega, fun _ => ?_, fun _ => ?_⟩
                        · refine hQ2 _ _ _ ?_
                          simp only [go_sem]
                          exact fin false _ _ (by simp only [go_sem]) (.push (.refl hwf) _)
                        · refine hK2 _ _ (pre ++ [k], ks) (by simp) (snoc_of h2) (.refl hwf2) (Nat.le_refl _) (Nat.le_refl _) ?_
                          simp only [go_sem, len_snoc]
                          simp
                      have hb := ge_of h2 AV.str
                      simp only [go_sem, hb]
                      refine hQ2 _ _ _ ?_
                      simp only [go_sem]
                      clear hb h2 hk2 hK2 hQ2
                      refine AX.iter (S := List Step × List Step) ttOk (fun a => [(1, .ptr H.n 0), (5, .int .i64 a.1.length)]) (fun _ => H.push (.cells x.cs 34)) (fun a => a.2.length) (fun a => a.1 ++ a.2 = x.at') ([], x.at') ?_ rfl rfl ?_
                      · simp only [go_sem]
                      rintro ⟨pre, post⟩ h2 hk2 hwf2 K2 R2 hK2 hQ2
                      simp only at h2 hK2
                      unfold l5_2
                      simp only [It.cs]
                      rcases post with _ | ⟨k, ks⟩
                      rotate_left
                      · have hb := lt_of h2 eS
                        have ha := at_of h2 eS
                        have hl := len_of h2
                        have hw : IntKind.i64.wrap ((pre.length : Int) + 1) = pre.length + 1 := wrap_i64.2 (by omega)
                        simp only [go_sem, hb, ha, hw]
                        refine ⟨by omega, fun _ => ?_, fun _ => ?_⟩
                        · refine hQ2 _ _ _ ?_
                          simp only [go_sem]
                          exact fin false _ _ (by simp only [go_sem]) (.push (.refl hwf) _)
                        · refine hK2 _ _ (pre ++ [k], ks) (by simp) (snoc_of h2) (.refl hwf2) (Nat.le_refl _) (Nat.le_refl _) ?_
                          simp only [go_sem, len_snoc]
                          simp
                      have hb := ge_of h2 eS
                      simp only [go_sem, hb]
                      refine hQ2 _ _ _ ?_
                      simp only [go_sem]
                      clear hb h2 hk2 hK2 hQ2
                      refine AX.iter (S := List Step × List Step) ttOk (fun a => [(1, .ptr H.n 0), (6, .int .i64 a.1.length)]) (fun _ => H.push (.cells x.cs 34)) (fun a => a.2.length) (fun a => a.1 ++ a.2 = x.to) ([], x.to) ?_ rfl rfl ?_
                      · simp only [go_sem]
                      rintro ⟨pre, post⟩ h2 hk2 hwf2 K2 R2 hK2 hQ2
                      simp only at h2 hK2
                      unfold l5_3
                      simp only [It.cs]
                      rcases post with _ | ⟨k, ks⟩
                      rotate_left
                      · have hb := lt_of h2 eS
                        have ha := at_of h2 eS
                        have hl := len_of h2
                        have hw : IntKind.i64.wrap ((pre.length : Int) + 1) = pre.length + 1 := wrap_i64.2 (by omega)
                        simp only [go_sem, hb, ha, hw]
                        refine ⟨by omega, fun _ => ?_, fun _ => ?_⟩
                        · refine hQ2 _ _ _ ?_
                          simp only [go_sem]
                          exact fin false _ _ (by simp only [go_sem]) (.push (.refl hwf) _)
                        · refine hK2 _ _ (pre ++ [k], ks) (by simp) (snoc_of h2) (.refl hwf2) (Nat.le_refl _) (Nat.le_refl _) ?_
                          simp only [go_sem, len_snoc]
                          simp
                      have hb := ge_of h2 eS
                      simp only [go_sem, hb]
                      refine hQ2 _ _ _ ?_
                      simp only [go_sem]
                      clear hb h2 hk2 hK2 hQ2
                      refine AX.iter (S := List It × List It) ttOk (fun a => [(1, .ptr H.n 0), (7, .int .i64 a.1.length)]) (fun _ => H.push (.cells x.cs 34)) (fun a => a.2.length) (fun a => a.1 ++ a.2 = x.by') ([], x.by') ?_ rfl rfl ?_
                      · simp only [go_sem]
                      rintro ⟨pre, post⟩ h2 hk2 hwf2 K2 R2 hK2 hQ2
                      simp only at h2 hK2
                      unfold l5_5
                      simp only [It.cs]
                      rcases post with _ | ⟨k, ks⟩
                      · have hb := ge_of h2 eIt
                        simp only [go_sem, hb]
                        refine hQ2 _ _ _ ?_
                        simp only [go_sem]
                        exact fin true _ _ (by simp only [go_sem]) (.push (.refl hwf) _)
                      have hb := lt_of h2 eIt
                      have ha := at_of h2 eIt
                      have hl := len_of h2
                      have hkm : k ∈ x.by' := by rw [← h2]; simp
                      obtain ⟨kby, -, -, -, -, kkid⟩ := It.byLen (hkid k hkm)
                      have hw : IntKind.i64.wrap ((pre.length : Int) + 1) = pre.length + 1 := wrap_i64.2 (by omega)
                      simp only [go_sem, hb]
                      refine AX.iter (S := List It × List It) ttOk (fun a => [(1, .ptr H.n 0), (7, .int .i64 pre.length), (8, .int .i64 a.1.length)]) (fun _ => H.push (.cells x.cs 34)) (fun a => a.2.length) (fun a => a.1 ++ a.2 = k.by') ([], k.by') ?_ rfl rfl ?_
                      · simp only [go_sem]
                      rintro ⟨pr, po⟩ h3 hk3 hwf3 K3 R3 hK3 hQ3
                      simp only at h3 hK3
                      unfold l5_4
                      simp only [It.cs]
                      rcases po with _ | ⟨m, ms⟩
                      rotate_left
                      · have hb3 := lt_of h3 eIt
                        have ha3 := at_of h3 eIt
                        have hl3 := len_of h3
                        have hw3 : IntKind.i64.wrap ((pr.length : Int) + 1) = pr.length + 1 := wrap_i64.2 (by omega)
                        simp only [go_sem, ha, hb3, ha3, hw3]
                        refine ⟨by omega, by omega, by omega, fun _ => ?_, fun _ => ?_⟩
                        · refine hQ3 _ _ _ ?_
                          simp only [go_sem]
                          refine hQ2 _ _ _ ?_
                          simp only [go_sem]
                          exact fin false _ _ (by simp only [go_sem]) (.push (.refl hwf) _)
                        · refine hK3 _ _ (pr ++ [m], ms) (by simp) (snoc_of h3) (.refl hwf3) (Nat.le_refl _) (Nat.le_refl _) ?_
                          simp only [go_sem, len_snoc]
                          simp
                      have hb3 := ge_of h3 eIt
                      simp only [go_sem, ha, hb3]
                      refine ⟨by omega, ?_⟩
                      refine hQ3 _ _ _ ?_
                      simp only [go_sem, ha]
                      refine ⟨by omega, ?_⟩
                      refine spec5G k _ _ fun b => ?_
                      cases b with
                      | false =>
                        simp only [go_sem, Bool.not_false]
                        refine hQ2 _ _ _ ?_
                        simp only [go_sem]
                        exact fin false _ _ (by simp only [go_sem]) (.push (.refl hwf) _)
                      | true =>
                        simp only [go_sem, Bool.not_true, hw]
                        refine hK2 _ _ (pre ++ [k], ks) (by simp) (snoc_of h2) (.refl hwf2) (Nat.le_refl _) (Nat.le_refl _) ?_
                        simp only [go_sem, len_snoc]
                        simp
termination_by SizeOf.sizeOf x
decreasing_by exact by_lt hkm
end Go.Ai.Tryz
