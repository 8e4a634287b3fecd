/- A part of the proof: no statement of the seat is proved in this text. -/
import Derived.Test.YtdmhbplibcolbaaGreatAi12g
set_option linter.unusedVariables false
set_option linter.unusedSimpArgs false
namespace Go.Ai
open Go Go.RowKit
section
variable {P : Program} {w0 : World} {tt : TT} {N : Nat}
theorem Sim.putCell {H : AH} {G : Gh} {w : World} (hS : Sim w0 G H w) {id off b : Nat} {cs : List AV} {te : TypeId} (ho : H.obj id = some (.cells cs te)) (hb : G.ob id = some b) {vs : List Value} (hw : w.heap[b]? = some (.cells vs.toArray te (0, 0))) (hr : RepL G cs vs)
    {y : AV} {u : Value} (hy : Rep G y u) (hs : y.scal = true) :
    Sim w0 G (H.put id (.cells (cs.take off ++ [y] ++ cs.drop (off + 1)) te)) (w.setRow b (vs.take off ++ [u] ++ vs.drop (off + 1)).toArray) := by
  obtain ⟨vs', h3, h4, h5⟩ := hS.cellsAt ho hb
  refine hS.setObj ho hb (w' := w.setRow b _) ⟨rfl, rfl, rfl, by simp, fun k hk hne => setRow_other w b k _ (fun e => hne (by simp [e]))⟩
    ⟨_, setRow_heap w b vs.toArray _ te _ hw, ((hr.take off).append (.cons hy (.nil _))).append (hr.drop _), fun c hc => ?_⟩
  simp only [List.mem_append, List.mem_singleton] at hc
  rcases hc with (hc | hc) | hc
  · exact h5 c (List.mem_of_mem_take hc)
  · subst hc; exact hs
  · exact h5 c (List.mem_of_mem_drop hc)
theorem setRow_swap (w : World) {a b : Nat} (h : a ≠ b) (x y : Array Value) : (w.setRow a x).setRow b y = (w.setRow b y).setRow a x := by
  simp only [World.setRow]
  congr 1
  apply Array.ext
  · simp
  · intro k h1 h2
    simp only [Array.getElem_modify]
    split <;> split <;> simp_all
theorem EnvRep.setTmp {G : Gh} {env : Env} {a : Act} (h : EnvRep G N env a.tmps) (d : Nat) (hd : d < N) {v : AV} {x : Value} (hr : Rep G v x) : EnvRep G N ((d, v) :: env) (a.put (some d) x).tmps := h.put (some d) (fun _ e => by cases e; exact hd) hr
theorem draw_tail (htt : TtOk P tt) {ops : Array Oper} {Q : Exit → Act → World → Prop} {k d p s z n x q : Nat} {t e : TypeId} {i j : TyI} {o0 o1 o2 o3 : Oper} (hs : ops.size = k + 4)
    (h0 : ops[k]? = some o0) (h1 : ops[k + 1]? = some o1) (h2 : ops[k + 2]? = some o2) (h3 : ops[k + 3]? = some o3)
    (e0 : xop ops o0 = ⟨some d, .append t (.tmp s) (.tmp z), none⟩) (e1 : xop ops o1 = ⟨some p, .indexAddr t (.tmp d) (.tmp n), none⟩) (e2 : xop ops o2 = ⟨none, .store e (.tmp p) (.tmp x), none⟩) (e3 : xop ops o3 = ⟨none, .store t (.tmp q) (.tmp d), none⟩)
    (a1 : k ∈ afters o1) (a2 : k ∈ afters o2) (a2' : k + 1 ∈ afters o2) (a3 : k ∈ afters o3)
    (b0 : ∀ j ∈ afters o0, j < k) (b1 : ∀ j ∈ afters o1, j < k + 1) (b2 : ∀ j ∈ afters o2, j < k + 2) (b3 : ∀ j ∈ afters o3, j < k + 3)
    (hdN : d < N) (hpN : p < N) (hi : tt t = some i) (hu : i.u = .slice e) (hj : tt e = some j) (hi1 : i.size = 1) (hj0 : 0 < j.size)
    {env : Env} {H : AH} {l0 : List AV} {tk : Nat} {Z X : AV} {id off : Nat} {cs : List AV} {te : TypeId}
    (v1 : look s env = .own l0 tk) (v2 : (look z env).elems = some [Z]) (v3 : look n env = .int .i64 l0.length) (v4 : look x env = X) (v5 : look q env = .ptr id off)
    (hZ : Z.cells.length = j.size ∧ Z.cells.all AV.scal = true) (hX : X.cells.length = j.size ∧ X.cells.all AV.scal = true)
    (htok : H.tok tk = some ⟨l0.length, e, j.size⟩) (hobj : H.obj id = some (.cells cs te)) (hoff : off < cs.length)
    (hb : (l0.length + 1) * j.bytes ≤ 140737488355328) (hb48 : l0.length + 1 ≤ 281474976710656)
    (dn : n ≠ d) (dx : x ≠ d) (dq : q ≠ d) (dp : d ≠ p) (px : x ≠ p) (pq : q ≠ p)
    {G : Gh} {a : Act} {w : World} (hS : Sim w0 G H w) (hE : EnvRep G N env a.tmps) (had : a.defers = []) {listed : Array Bool} (hls : listed.size = ops.size) (hl : ∀ j, j < ops.size → listed.getD j true = decide (j < k))
    (hk : ∀ (G' : Gh) (a' : Act) (w' : World), G.le G' → Sim w0 G' ((H.putTok tk ⟨l0.length + 1, e, j.size⟩).put id (.cells (cs.take off ++ [.own (l0 ++ [X]) tk] ++ cs.drop (off + 1)) te)) w' →
      EnvRep G' N ((p, .any) :: (d, .own (l0 ++ [X]) tk) :: env) a'.tmps → a'.defers = [] → Q .normal a' w') : wpAny P .any ops Q 4 listed a w := by
  simp only [xop, XOp.mk.injEq, Option.map_eq_none_iff] at e0 e1 e2 e3
  obtain ⟨e0d, e0o, e0g⟩ := e0
  obtain ⟨e1d, e1o, e1g⟩ := e1
  obtain ⟨e2d, e2o, e2g⟩ := e2
  obtain ⟨e3d, e3o, e3g⟩ := e3
  replace e0o := XO.of_append e0o
  replace e1o := XO.of_indexAddr e1o
  replace e2o := XO.of_store e2o
  replace e3o := XO.of_store e3o
  have rx : RepL G X.cells (a.eval (.tmp x)).cells.toList := by
    have := (hE.rep x); rw [v4] at this
    exact this.cells (cells_ok hX.2)
  have rs : Rep G (.own l0 tk) (a.eval (.tmp s)) := by have := hE.rep s; rw [v1] at this; exact this
  have rz : Rep G (.slice [Z]) (a.eval (.tmp z)) := (hE.eval (.tmp z)).elems v2
  obtain ⟨v', w4, b, cap, cur, hrun, hv', hbk, hfit, hoth, G', g1, g2, g3⟩ := grow_facts (P := P) htt hi hu hj hj0 hS rs rz hZ hX.1 htok hb hb48 o0.type rx
  have rn : a.eval (.tmp n) = .int .i64 l0.length := by
    have := hE.rep n; rw [v3] at this
    exact this.int_inv.1
  obtain ⟨bh, hq, hqb⟩ : ∃ b, a.eval (.tmp q) = .pointer (some ⟨b, off, none⟩) ∧ G.ob id = some b := by
    have := hE.rep q; rw [v5] at this
    exact ptr_inv this
  obtain ⟨vs, c3, c4, c5⟩ := hS.cellsAt hobj hqb
  obtain ⟨hbne, hbh⟩ := hoth id (by rw [hobj]; simp) bh hqb
  have hut := (htt t i hi).u
  rw [hu] at hut
  have hfit' : l0.length * j.size + j.size ≤ cur.size := by rw [Nat.add_mul] at hfit; omega
  have hxl : (a.eval (.tmp x)).cells.toList.length = j.size := by rw [← rx.1, hX.1]
  have hx1 : ∀ u ∈ (a.eval (.tmp x)).cells.toList, u.oneCell' = true := by
    intro u hu'
    obtain ⟨o, ho, rfl⟩ := List.getElem_of_mem hu'
    have ho2 : o < X.cells.length := by rw [rx.1]; exact ho
    exact (rx.2 o _ _ (List.getElem?_eq_getElem ho2) (List.getElem?_eq_getElem ho)).one (by have := hX.2; simp at this; exact this _ (List.getElem_mem ho2))
  have hsz : a.tmps.size = N := hE.size
  have hvl : vs.length = cs.length := c4.1.symm
  -- the ends
  generalize hxv : (a.eval (.tmp x)).cells.toList = xv at *
  let R : Array Value := (cur.toList.take (l0.length * j.size) ++ xv ++ cur.toList.drop (l0.length * j.size + j.size)).toArray
  let C : Array Value := (vs.take off ++ [v'] ++ vs.drop (off + 1)).toArray
  let pv : Value := .pointer (some ⟨b, l0.length * j.size, none⟩)
  let A4 : Act := a.put (some d) v'
  let A5 : Act := A4.put (some p) pv
  have hend : Q .normal A5 ((w4.setRow b R).setRow bh C) := by
    have hobj' : (H.putTok tk ⟨l0.length + 1, e, j.size⟩).obj id = some (.cells cs te) := hobj
    have hcell := g2.putCell (off := off) hobj' (g1.ob _ _ hqb) (vs := vs) (by rw [setRow_other w4 b bh _ hbne, hbh]; exact c3) (c4.mono g1) g3 rfl
    exact hk G' A5 _ g1 hcell (((hE.mono g1).setTmp d hdN g3).setTmp p hpN (.any _)) had
  -- the runs
  have run1 : (execOp A4.eval o1).run P w4 = .ok (.value pv) w4 ∧ ∀ W, (execOp A4.eval o1).run P W = .ok (.value pv) W := by
    have ed : A4.eval (.tmp d) = v' := eval_put_eq (by omega)
    have en : A4.eval (.tmp n) = .int .i64 l0.length := by rw [eval_put_ne dn]; exact rn
    have hh : ∀ W, (execOp A4.eval o1).run P W = .ok (.value pv) W := fun W => by
      have hlt2 : (l0.length : Int) < ((l0.length + 1 : Nat) : Int) := by omega
      simp [execOp, e1o, ed, en, hv', Instr.indexAt, asIntOf, run_underlying hut, hlt2, sizeOf_run htt hj, add_off, pv]
    exact ⟨hh w4, hh⟩
  have run2 : ∀ W, W.heap[b]? = some (.cells cur e (0, 0)) → (execOp A5.eval o2).run P W = .ok .skip (W.setRow b R) := fun W hW => by
    have ep : A5.eval (.tmp p) = pv := eval_put_eq (by simp [A4, Act.put]; omega)
    have ex : (A5.eval (.tmp x)).cells.toList = xv := by rw [show A5.eval (.tmp x) = a.eval (.tmp x) by rw [eval_put_ne px, eval_put_ne dx]]; exact hxv
    exact store_run htt hj e2o hW ep ex hxl hfit' hx1
  have run3 : ∀ (A : Act) W, A.eval (.tmp q) = .pointer (some ⟨bh, off, none⟩) → A.eval (.tmp d) = v' → W.heap[bh]? = some (.cells vs.toArray te (0, 0)) → (execOp A.eval o3).run P W = .ok .skip (W.setRow bh C) := fun A W hAq hAd hW => by
    have := store_run (P := P) htt hi e3o hW hAq (xs := [v']) (by rw [hAd, hv']; rfl) (by simp [hi1]) (by rw [hi1]; simp; omega) (by rw [hv']; simp [Value.oneCell'])
    rw [hi1] at this
    exact this
  have eq4 : A4.eval (.tmp q) = .pointer (some ⟨bh, off, none⟩) := by rw [eval_put_ne dq]; exact hq
  have ed4 : A4.eval (.tmp d) = v' := eval_put_eq (by omega)
  have eq5 : A5.eval (.tmp q) = .pointer (some ⟨bh, off, none⟩) := by rw [eval_put_ne pq]; exact eq4
  have ed5 : A5.eval (.tmp d) = v' := by rw [eval_put_ne dp]; exact ed4
  have c3' : w4.heap[bh]? = some (.cells vs.toArray te (0, 0)) := by rw [hbh]; exact c3
  have end0 : ∀ (ls : Array Bool), ls.size = ops.size → (∀ j, j < ops.size → ls.getD j true = true) → ∀ W, W = (w4.setRow b R).setRow bh C → wpAny P .any ops Q 0 ls A5 W := by
    intro ls hsz' hall W hW
    refine ⟨List.eq_nil_iff_forall_not_mem.2 fun i' hi' => ?_, by rw [hW]; exact hend⟩
    obtain ⟨k1, o', k2, _⟩ := mem_ready.1 hi'
    rw [hall i' (Array.getElem?_eq_some_iff.1 k2).1] at k1; cases k1
  -- the first
  refine any_step hls hl h0 (by simp) (fun j' hj' => ⟨by have := b0 j' hj'; omega, by simpa using b0 j' hj'⟩) fun i1 oi hoi hSi haf ls1 hs1 hl1 => ?_
  have hi1lt := (Array.getElem?_eq_some_iff.1 hoi).1
  have : i1 = k := by
    simp at hSi
    rcases (show i1 = k ∨ i1 = k + 1 ∨ i1 = k + 2 ∨ i1 = k + 3 by omega) with rfl | rfl | rfl | rfl
    · rfl
    · rw [h1] at hoi; cases hoi; have := haf k a1 (by omega); simp at this
    · rw [h2] at hoi; cases hoi; have := haf k a2 (by omega); simp at this
    · rw [h3] at hoi; cases hoi; have := haf k a3 (by omega); simp at this
  subst this
  rw [h0] at hoi; cases hoi
  refine wpOp_run h0 e0g (v := v') (exec_append e0o hrun) rfl ?_
  rw [e0d]
  -- the second
  refine any_step hs1 hl1 h1 (by simp) (fun j' hj' => ⟨by have := b1 j' hj'; omega, by have := b1 j' hj'; simp; omega⟩) fun i2 oi hoi hSi haf ls2 hs2 hl2 => ?_
  have hi2lt := (Array.getElem?_eq_some_iff.1 hoi).1
  have : i2 = i1 + 1 ∨ i2 = i1 + 3 := by
    simp at hSi
    rcases (show i2 = i1 + 1 ∨ i2 = i1 + 2 ∨ i2 = i1 + 3 by omega) with rfl | rfl | rfl
    · exact .inl rfl
    · rw [h2] at hoi; cases hoi; have := haf (i1 + 1) a2' (by omega); simp at this; omega
    · exact .inr rfl
  rcases this with rfl | rfl
  · rw [h1] at hoi; cases hoi
    refine wpOp_run h1 e1g (v := pv) run1.1 rfl ?_
    rw [e1d]
    refine any_step hs2 hl2 h2 (by simp) (fun j' hj' => ⟨by have := b2 j' hj'; omega, by have := b2 j' hj'; simp; omega⟩) fun i3 oi hoi hSi haf ls3 hs3 hl3 => ?_
    have hi3lt := (Array.getElem?_eq_some_iff.1 hoi).1
    have : i3 = i1 + 2 ∨ i3 = i1 + 3 := by simp at hSi; omega
    rcases this with rfl | rfl
    · rw [h2] at hoi; cases hoi
      refine wpOp_run h2 e2g (run2 w4 hbk) rfl ?_
      rw [e2d]
      refine any_step hs3 hl3 h3 (by simp) (fun j' hj' => ⟨by have := b3 j' hj'; omega, by have := b3 j' hj'; simp; omega⟩) fun i4 oi hoi hSi haf ls4 hs4 hl4 => ?_
      have hi4lt := (Array.getElem?_eq_some_iff.1 hoi).1
      have : i4 = i1 + 3 := by simp at hSi; omega
      subst this
      rw [h3] at hoi; cases hoi
      refine wpOp_run h3 e3g (run3 A5 _ eq5 ed5 (by rw [setRow_other w4 b bh _ hbne]; exact c3')) rfl ?_
      rw [e3d]
      exact end0 _ hs4 (fun j' hj' => by rw [hl4 j' hj']; simp; omega) _ rfl
    · rw [h3] at hoi; cases hoi
      refine wpOp_run h3 e3g (run3 A5 _ eq5 ed5 c3') rfl ?_
      rw [e3d]
      refine any_step hs3 hl3 h2 (by simp) (fun j' hj' => ⟨by have := b2 j' hj'; omega, by have := b2 j' hj'; simp; omega⟩) fun i4 oi hoi hSi haf ls4 hs4 hl4 => ?_
      have hi4lt := (Array.getElem?_eq_some_iff.1 hoi).1
      have : i4 = i1 + 2 := by simp at hSi; omega
      subst this
      rw [h2] at hoi; cases hoi
      refine wpOp_run h2 e2g (run2 _ (by rw [setRow_other w4 bh b _ (Ne.symm hbne)]; exact hbk)) rfl ?_
      rw [e2d]
      exact end0 _ hs4 (fun j' hj' => by rw [hl4 j' hj']; simp; omega) _ (setRow_swap w4 hbne _ _)
  · rw [h3] at hoi; cases hoi
    refine wpOp_run h3 e3g (run3 A4 _ eq4 ed4 c3') rfl ?_
    rw [e3d]
    refine any_step hs2 hl2 h1 (by simp) (fun j' hj' => ⟨by have := b1 j' hj'; omega, by have := b1 j' hj'; simp; omega⟩) fun i3 oi hoi hSi haf ls3 hs3 hl3 => ?_
    have hi3lt := (Array.getElem?_eq_some_iff.1 hoi).1
    have : i3 = i1 + 1 := by
      simp at hSi
      rcases (show i3 = i1 + 1 ∨ i3 = i1 + 2 by omega) with rfl | rfl
      · rfl
      · rw [h2] at hoi; cases hoi; have := haf (i1 + 1) a2' (by omega); simp at this; omega
    subst this
    rw [h1] at hoi; cases hoi
    refine wpOp_run h1 e1g (v := pv) (run1.2 _) rfl ?_
    rw [e1d]
    refine any_step hs3 hl3 h2 (by simp) (fun j' hj' => ⟨by have := b2 j' hj'; omega, by have := b2 j' hj'; simp; omega⟩) fun i4 oi hoi hSi haf ls4 hs4 hl4 => ?_
    have hi4lt := (Array.getElem?_eq_some_iff.1 hoi).1
    have : i4 = i1 + 2 := by simp at hSi; omega
    subst this
    rw [h2] at hoi; cases hoi
    refine wpOp_run h2 e2g (run2 _ (by rw [setRow_other w4 bh b _ (Ne.symm hbne)]; exact hbk)) rfl ?_
    rw [e2d]
    exact end0 _ hs4 (fun j' hj' => by rw [hl4 j' hj']; simp; omega) _ (setRow_swap w4 hbne _ _)
end
end Go.Ai
