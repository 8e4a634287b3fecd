/- A part of the proof: no statement of the seat is proved in this text. -/
import Derived.Test.YtdmhbplibcolbaaGreatAi12f
set_option linter.unusedVariables false
set_option linter.unusedSimpArgs false
namespace Go.Ai
open Go Go.RowKit
section
variable {w0 : World} {H : AH}
theorem Sim.grown {G : Gh} {w w' : World} (h : Sim w0 G H w) {e : TypeId} {sz tk : Nat} (hsz : 0 < sz) {l ys : List AV} (htok : H.tok tk = some ⟨l.length, e, sz⟩) {v v' : Value} (hr : Rep G (.own l tk) v) {x : Tok} (hx : G.tk tk = some x)
    {news : List Value} (hys : ∀ y, y ∈ ys → y.cells.length = sz) (hnr : RepL G (flat ys) news) (hm : 0 < ys.length) (hb48 : l.length + ys.length ≤ 281474976710656)
    (ho' : w'.ownsRow w0.heap.size e sz v' (l.length + ys.length) (x.xs ++ news))
    (hg : (v'.ownBlock = v.ownBlock ∧ v.ownBlock ≠ none ∧ w.grownBy w' v.ownBlock) ∨ (v'.ownBlock = some w.heap.size ∧ w.grownBy w' none)) :
    ∃ G', G.le G' ∧ Sim w0 G' (H.putTok tk ⟨l.length + ys.length, e, sz⟩) w' ∧ Rep G' (.own (l ++ ys) tk) v' := by
  obtain ⟨y, hy, k2, k3, k4⟩ := h.tks tk _ htok
  rw [hx] at hy; simp at hy; subst hy
  simp only [ATok.mk.injEq] at k2
  obtain ⟨k2, hxe, hxs⟩ := k2
  subst hxs; subst hxe
  cases hr with
  | own _ _ _ tok hk1 hk2 hk3 hk4 hk5 =>
    rw [hx] at hk1; simp at hk1; subst hk1
    have hv : x.v = v := hk3 k2
    subst hv
    have hown : w.ownsRow w0.heap.size x.e x.sz x.v l.length x.xs := by rw [← k2]; exact k3
    obtain ⟨b, cap, G', hv', hnc, hle, hS, hT, hK⟩ := h.setTok (t := tk) (x := x) (x' := ⟨v', l.length + ys.length, x.e, x.sz, x.xs ++ news⟩) (by rw [k2]; exact htok) hx (by simp only; omega) rfl (by omega)
      ho' (fun o u hu => by rw [List.getElem?_append_left (List.getElem?_eq_some_iff.1 hu).1]; exact hu) hg
    refine ⟨G', hle, hS, .own _ tk v' _ hT (by simp) (fun _ => rfl) (fun q hq => ?_) ?_⟩
    · rcases List.mem_append.1 hq with hq | hq
      · exact hk4 q hq
      · exact hys q hq
    · have hu : ∀ q, q ∈ l ++ ys → q.cells.length = x.sz := fun q hq => by
        rcases List.mem_append.1 hq with hq | hq
        · exact hk4 q hq
        · exact hys q hq
      simp only at hv' hnc hK
      have hll : (l ++ ys).length = l.length + ys.length := List.length_append
      rw [hv', ← hll]
      refine Rep.slice_mk (sz := x.sz) (fun o c hc => ?_) hu (by omega) (by omega)
      rw [flat_append] at hc
      have hlf : (flat l).length = l.length * x.sz := flat_length (fun q hq => hk4 q hq)
      have hxl : x.xs.length = l.length * x.sz := hown.1
      rcases Nat.lt_or_ge o (flat l).length with hlt | hge
      · rw [List.getElem?_append_left hlt] at hc
        rcases hk5.slice_inv with ⟨_, rfl⟩ | ⟨b0, off0, cap0, sz0, hv0, _, _, _, hrk⟩ | ⟨_, _, _, rfl⟩
        · simp [flat] at hlt
        rotate_left
        · simp [flat] at hlt
        · obtain ⟨u, hu1, hu2⟩ := hrk o c hc
          have hw := h.K _ _ _ hu1
          rcases hown.2 with ⟨hn0, _⟩ | ⟨g, cap1, cur1, hv1, _⟩
          · rw [hn0] at hv0; cases hv0
          · rw [hv1] at hv0
            simp only [Value.slice.injEq, Option.some.injEq, Addr.mk.injEq] at hv0
            obtain ⟨⟨rfl, rfl, _⟩, _, rfl⟩ := hv0
            have hol : o < x.xs.length := by omega
            have h2 := hown.cells (g := g) (by rw [hv1]; rfl) o x.xs[o] (List.getElem?_eq_getElem hol)
            rw [show (⟨g, 0, none⟩ : Addr).add o = ⟨g, 0 + o, none⟩ by unfold Addr.add; split <;> simp_all] at h2
            rw [h2] at hw; simp at hw
            refine ⟨u, ?_, hu2.mono hle⟩
            rw [Nat.zero_add]
            exact hK o u (by rw [List.getElem?_append_left hol, List.getElem?_eq_getElem hol, hw])
      · rw [List.getElem?_append_right hge] at hc
        obtain ⟨u, hu1, hu2⟩ := hnr.index hc
        refine ⟨u, ?_, hu2.mono hle⟩
        rw [Nat.zero_add]
        exact hK o u (by rw [List.getElem?_append_right (by omega), hxl, ← hlf]; exact hu1)
end
section
variable {P : Program} {w0 : World} {tt : TT} {N : Nat}
theorem draw_prefix (htt : TtOk P tt) {ops : Array Oper} {Q : Exit → Act → World → Prop} {k rest : Nat} (hks : k ≤ ops.size) (hd : ∀ o ∈ ops, ∀ d, o.dst = some d → d < N) {ol : Nat → XOp} (hol : ∀ i o, i < k → ops[i]? = some o → ol i = xop ops o)
    (hback : ∀ i o, i < k → ops[i]? = some o → ∀ j ∈ afters o, j < i) (hlate : ∀ i o, ops[i]? = some o → k ≤ i → ∀ j < k, j ∈ afters o) : ∀ (fuel : Nat) (listed : Array Bool) (pl : List (Nat × DE)) (env : Env) (H : AH) (env' : Env) (H' : AH) (G : Gh) (a : Act) (w : World),
    listed.size = ops.size → (∀ j, k ≤ j → j < ops.size → listed.getD j true = false) → (∀ j, j ∈ pl.map (·.1) ↔ j < k ∧ listed.getD j true = false) → (pl.map (·.1)).Pairwise (· < ·) →
    (pl.Pairwise fun p q => (∃ o, ops[q.1]? = some o ∧ p.1 ∈ afters o) ∨ ((ol p.1).apart (ol q.1) = true ∧ p.2.touch.indep q.2.touch)) → fuel = pl.length →
    DRun P w0 tt ol pl env H env' H' → Sim w0 G H w → EnvRep G N env a.tmps → a.defers = [] →
    (∀ (G' : Gh) (a' : Act) (w' : World) (listed' : Array Bool), G.le G' → Sim w0 G' H' w' → EnvRep G' N env' a'.tmps → a'.defers = [] → listed'.size = ops.size → (∀ j, j < ops.size → listed'.getD j true = decide (j < k)) → wpAny P .any ops Q rest listed' a' w') → wpAny P .any ops Q (fuel + rest) listed a w := by
  intro fuel
  induction fuel with
  | zero =>
    intro listed pl env H env' H' G a w hsz hun hmem hlt hpw hf hrun hS hE had hk
    have : pl = [] := by cases pl <;> simp at hf ⊢
    subst this
    rw [Nat.zero_add]
    cases hrun with
    | nil he =>
      refine hk G a w listed (.refl G) hS (hE.eq he) had hsz fun j hj => ?_
      by_cases hjk : j < k
      · have := hmem j
        simp only [List.map_nil, List.not_mem_nil, false_iff, not_and, Bool.not_eq_false] at this
        simp [hjk, this hjk]
      · simp [hjk, hun j (by omega) hj]
  | succ fuel ih =>
    intro listed pl env H env' H' G a w hsz hun hmem hlt hpw hf hrun hS hE had hk
    rw [show fuel + 1 + rest = (fuel + rest) + 1 by omega]
    have hne : pl ≠ [] := by intro e; subst e; simp at hf
    refine ⟨fun hnil => ?_, fun i hi => ?_⟩
    · exfalso
      cases pl with
      | nil => exact hne rfl
      | cons p r =>
        have hp := (hmem p.1).1 (by simp)
        have hr : p.1 ∈ Region.ready .any ops listed := by
          refine mem_ready.2 ⟨hp.2, ops[p.1], Array.getElem?_eq_getElem (by omega), fun e he hb => ?_⟩
          have h1 := hback p.1 _ hp.1 (Array.getElem?_eq_getElem (by omega)) e.on (mem_afters.2 ⟨e, he, hb, rfl⟩)
          cases hl : listed.getD e.on false with
          | true => rfl
          | false =>
            have hl' : listed.getD e.on true = false := by
              have hlt' : e.on < listed.size := by omega
              simp [hlt'] at hl ⊢
              exact hl
            have := (hmem e.on).2 ⟨by omega, hl'⟩
            simp only [List.map_cons, List.mem_cons] at this
            rcases this with h2 | h2
            · omega
            · have := (List.pairwise_cons.1 (by simpa using hlt)).1 _ h2
              omega
        rw [hnil] at hr; cases hr
    · obtain ⟨huni, o, ho, hall⟩ := mem_ready.1 hi
      have hlt_i := (Array.getElem?_eq_some_iff.1 ho).1
      have hik : i < k := by
        rcases Nat.lt_or_ge i k with h1 | h1
        · exact h1
        · exfalso
          cases pl with
          | nil => exact hne rfl
          | cons p r =>
            have hp := (hmem p.1).1 (by simp)
            obtain ⟨e, he, hb, heq⟩ := mem_afters.1 (hlate i o ho h1 p.1 hp.1)
            have h3 := hall e he hb
            have h2 := hp.2
            rw [heq] at h3
            have hlt' : p.1 < listed.size := by omega
            simp [hlt'] at h3 h2
            rw [h3] at h2; cases h2
      obtain ⟨⟨i', F⟩, hFm, hFe⟩ := List.mem_map.1 ((hmem i).2 ⟨hik, huni⟩)
      simp only at hFe
      subst hFe
      obtain ⟨u, r, rfl⟩ := List.append_of_mem hFm
      have hap : ∀ p ∈ u, (ol p.1).apart (ol i') = true ∧ p.2.touch.indep F.touch := by
        intro p hp
        rcases (List.pairwise_append.1 hpw).2.2 p hp (i', F) (List.mem_cons_self ..) with ⟨o', ho', hj⟩ | h
        · exfalso
          simp only at ho'
          rw [ho] at ho'; cases ho'
          obtain ⟨e, he, hb, heq⟩ := mem_afters.1 hj
          have h1 := hall e he hb
          have h2 := ((hmem p.1).1 (by simp; exact .inl ⟨_, hp⟩)).2
          rw [heq] at h1
          have hlt' : p.1 < listed.size := by
            rcases Nat.lt_or_ge p.1 listed.size with h' | h'
            · exact h'
            · simp [Array.getElem?_eq_none h'] at h1
          simp [hlt'] at h1 h2
          rw [h1] at h2; cases h2
        · exact h
      cases DRun.bubble hap hrun with
      | cons h1 h2 h3 =>
        rename_i v
        have hoi := hol i' o hik ho
        rw [hoi] at h1 h3
        refine dop_ok htt ho (hd o (Array.mem_of_getElem? ho)) h1 h2 hS hE had fun G' a' w' k1 k2 k3 k4 => ?_
        have hnd := hlt
        rw [List.map_append, List.map_cons, List.pairwise_append] at hnd
        refine ih _ (u ++ r) _ _ env' H' G' a' w' (by simp [hsz]) (fun j hj1 hj2 => ?_) (fun j => ?_) ?_ ?_ (by simp at hf ⊢; omega) h3 k2 k3 k4 fun G'' a'' w'' ls j1 j2 j3 j4 => hk G'' a'' w'' ls (k1.trans j1) j2 j3 j4
        · rw [getD_set_ne true (by omega)]; exact hun j hj1 hj2
        · have hm := hmem j
          simp only [List.map_append, List.map_cons, List.mem_append, List.mem_cons] at hm ⊢
          by_cases hji : i' = j
          · subst hji
            have h5 : (listed.setIfInBounds i' true).getD i' true = true := by simp [show i' < listed.size by omega]
            rw [h5]
            simp only [Bool.true_eq_false, and_false, iff_false, not_or]
            refine ⟨fun h => ?_, fun h => ?_⟩
            · have := hnd.2.2 _ h i' (List.mem_cons_self ..); omega
            · have := (List.pairwise_cons.1 hnd.2.1).1 _ h; omega
          · rw [getD_set_ne true hji]
            rw [← hm]
            simp [Ne.symm hji]
        · rw [List.map_append, List.pairwise_append]
          exact ⟨hnd.1, (List.pairwise_cons.1 hnd.2.1).2, fun x hx y hy => hnd.2.2 x hx y (List.mem_cons_of_mem _ hy)⟩
        · have := List.pairwise_append.1 hpw
          exact List.pairwise_append.2 ⟨this.1, (List.pairwise_cons.1 this.2.1).2, fun x hx y hy => this.2.2 x hx y (List.mem_cons_of_mem _ hy)⟩
end
end Go.Ai

set_option linter.unusedVariables false
set_option linter.unusedSimpArgs false
namespace Go.Ai
open Go Go.RowKit
theorem XO.of_append {op : Op} {ty t : TypeId} {x y : Operand} (h : XO.of op ty = .append t x y) : op = .call { callee := .builtin .append, args := #[x, y], argTypes := #[t, t] } := by
  unfold XO.of at h
  split at h <;> (try cases h)
  · split at h <;> cases h
  · split at h <;> cases h
  · rename_i c
    obtain ⟨callee, args, argTypes⟩ := c
    simp only at h
    split at h <;> (try cases h)
    rename_i x y t u ha ht
    obtain rfl : args = #[x, y] := by apply Array.ext'; simpa using ha
    obtain rfl : argTypes = #[t, u] := by apply Array.ext'; simpa using ht
    split at h
    · rename_i e; subst e; cases h; rfl
    · cases h
theorem XO.of_indexAddr {op : Op} {ty t : TypeId} {x y : Operand} (h : XO.of op ty = .indexAddr t x y) : op = .indexAddr t x y := by
  unfold XO.of at h
  repeat' split at h
  all_goals first | (cases h; done) | (cases h; rfl)
theorem XO.of_store {op : Op} {ty t : TypeId} {x y : Operand} (h : XO.of op ty = .store t x y) : op = .store t x y := by
  unfold XO.of at h
  repeat' split at h
  all_goals first | (cases h; done) | (cases h; rfl)
theorem eval_put_ne {a : Act} {d k : Nat} {v : Value} (h : k ≠ d) : (a.put (some d) v).eval (.tmp k) = a.eval (.tmp k) := by
  show (a.tmps.setIfInBounds d v).getD k undef = a.tmps.getD k undef
  simp [Array.getD_eq_getD_getElem?, Array.getElem?_setIfInBounds, Ne.symm h]
theorem eval_put_eq {a : Act} {d : Nat} {v : Value} (h : d < a.tmps.size) : (a.put (some d) v).eval (.tmp d) = v := by
  show (a.tmps.setIfInBounds d v).getD d undef = v
  simp [Array.getD_eq_getD_getElem?, Array.getElem?_setIfInBounds, h]
section
variable {P : Program} {w0 : World} {tt : TT} {N : Nat}
theorem store_run (htt : TtOk P tt) {t : TypeId} {x y : Operand} {i : TyI} (hi : tt t = some i) {a : Act} {w : World} {o : Oper} (ho : o.op = .store t x y) {b off : Nat} {cur : Array Value} {te : TypeId} (hb : w.heap[b]? = some (.cells cur te (0, 0)))
    (hx : a.eval x = .pointer (some ⟨b, off, none⟩)) {xs : List Value} (hy : (a.eval y).cells.toList = xs) (hl : xs.length = i.size) (hfit : off + i.size ≤ cur.size) (h1 : ∀ v ∈ xs, v.oneCell' = true) :
    (execOp a.eval o).run P w = .ok .skip (w.setRow b (cur.toList.take off ++ xs ++ cur.toList.drop (off + i.size)).toArray) := by
  obtain ⟨f, z, g1, g2, _⟩ := (htt t i hi).info
  have hst := run_storeCells_at (P := P) b off te xs 0 cur w hb (by omega) h1
  have hz : (a.eval y).cells.size = f.size := by
    have : (a.eval y).cells.toList.length = xs.length := by rw [hy]
    simp at this; omega
  simp only [execOp, ho, hx, Instr.storeAt, Instr.sureAddr, storeVar, Sem.run_bind, Sem.run_pure, Result.andThen_ok, sizeOf, typeInfo]
  simp [g1, hz, hy]
  rw [hst]
  simp [hl]
theorem wpOp_run {ops : Array Oper} {Q : Exit → Act → World → Prop} {i : Nat} {o : Oper} (ho : ops[i]? = some o) (hg : o.guard = none) {a : Act} {w w' : World} {nx : Next} {v : Value} (hr : (execOp a.eval o).run P w = .ok nx w') (hn : Next.val nx = some v)
    {K : Act → World → Prop} (hk : K (a.put o.dst v) w') : wpOp P ops Q i K a w := by
  unfold wpOp
  simp only [ho]
  rw [if_pos (by simp [Region.wanted, hg])]
  refine .inl ?_
  unfold Oper.wp
  rw [hr]
  cases nx <;> simp [Next.val] at hn <;> subst hn <;> exact hk
theorem any_step {ops : Array Oper} {Q : Exit → Act → World → Prop} {listed : Array Bool} {S : Nat → Bool} (hs : listed.size = ops.size) (hl : ∀ j, j < ops.size → listed.getD j true = S j) {i0 : Nat} {o0 : Oper} (h0 : ops[i0]? = some o0) (h1 : S i0 = false) (h2 : ∀ j ∈ afters o0, j < ops.size ∧ S j = true)
    {fuel : Nat} {a : Act} {w : World} (h : ∀ i o, ops[i]? = some o → S i = false → (∀ j ∈ afters o, j < ops.size → S j = true) → ∀ listed' : Array Bool, listed'.size = ops.size → (∀ j, j < ops.size → listed'.getD j true = (j == i || S j)) → wpOp P ops Q i (wpAny P .any ops Q fuel listed') a w) : wpAny P .any ops Q (fuel + 1) listed a w := by
  have hd : ∀ j, j < ops.size → listed.getD j false = listed.getD j true := fun j hj => by
    have : j < listed.size := by omega
    simp [this]
  refine ⟨fun hnil => ?_, fun i hi => ?_⟩
  · exfalso
    have : i0 ∈ Region.ready .any ops listed := mem_ready.2 ⟨by rw [hl i0 (Array.getElem?_eq_some_iff.1 h0).1, h1], o0, h0, fun e he hb => by
      obtain ⟨k1, k2⟩ := h2 e.on (mem_afters.2 ⟨e, he, hb, rfl⟩)
      rw [hd _ k1, hl _ k1, k2]⟩
    rw [hnil] at this; cases this
  · obtain ⟨hun, o, ho, hall⟩ := mem_ready.1 hi
    have hlt := (Array.getElem?_eq_some_iff.1 ho).1
    refine h i o ho (by rw [← hl i hlt]; exact hun) (fun j hj hjl => ?_) _ (by simp [hs]) fun j hj => ?_
    · obtain ⟨e, he, hb, rfl⟩ := mem_afters.1 hj
      rw [← hl _ hjl, ← hd _ hjl]; exact hall e he hb
    · by_cases hji : j = i
      · subst hji
        simp [show j < listed.size by omega]
      · rw [getD_set_ne true (Ne.symm hji), hl j hj]
        simp [hji]
end
end Go.Ai

set_option linter.unusedVariables false
set_option linter.unusedSimpArgs false
namespace Go.Ai
open Go Go.RowKit
section
variable {P : Program} {w0 : World} {tt : TT} {N : Nat}
theorem take_len_append {α : Type} {a b c : List α} {n : Nat} (h : a.take n = b ++ c) : a.take b.length = b := by
  have : b = (a.take n).take b.length := by rw [h, List.take_left']; rfl
  have hl : b.length ≤ n := by
    have := congrArg List.length h
    simp at this; omega
  rw [List.take_take, Nat.min_eq_left hl] at this
  exact this.symm
theorem grow_facts (htt : TtOk P tt) {t e : TypeId} {i j : TyI} (hi : tt t = some i) (hu : i.u = .slice e) (hj : tt e = some j) (hj0 : 0 < j.size) {H : AH} {l0 : List AV} {tk : Nat} {Z X : AV} {G : Gh} {w : World} (hS : Sim w0 G H w)
    {v vz : Value} (hv : Rep G (.own l0 tk) v) (hz : Rep G (.slice [Z]) vz) (hZ : Z.cells.length = j.size ∧ Z.cells.all AV.scal = true) (hX : X.cells.length = j.size) (htok : H.tok tk = some ⟨l0.length, e, j.size⟩)
    (hb : (l0.length + 1) * j.bytes ≤ 140737488355328) (hb48 : l0.length + 1 ≤ 281474976710656) (ty : TypeId) {xv : List Value} (hxv : RepL G X.cells xv) :
    ∃ v' w4 b cap cur, (Builtin.append_ #[t, t] ty #[v, vz]).run P w = .ok v' w4 ∧ v' = .slice (some ⟨b, 0, none⟩) (l0.length + 1) cap ∧ w4.heap[b]? = some (.cells cur e (0, 0)) ∧ (l0.length + 1) * j.size ≤ cur.size ∧
      (∀ i, H.obj i ≠ none → ∀ b', G.ob i = some b' → b' ≠ b ∧ w4.heap[b']? = w.heap[b']?) ∧
      ∃ G', G.le G' ∧ Sim w0 G' (H.putTok tk ⟨l0.length + 1, e, j.size⟩) (w4.setRow b (cur.toList.take (l0.length * j.size) ++ xv ++ cur.toList.drop (l0.length * j.size + j.size)).toArray) ∧ Rep G' (.own (l0 ++ [X]) tk) v' := by
  obtain ⟨f, z, h1, h2, h3, h4, h5, h6, h7⟩ := (htt e j hj).info
  have hut := (htt t i hi).u
  rw [hu] at hut
  obtain ⟨ad, c, news, k1, k2, k3, k4, k5⟩ := src_cells hS hz (sz := j.size) (by simpa using hZ) (by simp)
  obtain ⟨x, hx, q2, q3, q4⟩ := hS.tks tk _ htok
  simp only [ATok.mk.injEq] at q2
  obtain ⟨q2, hxe, hxs⟩ := q2
  have hxv' : x.v = v := by
    cases hv with
    | own _ _ _ tok hk1 hk2 hk3 hk4 hk5 =>
      rw [hx] at hk1; simp at hk1; subst hk1
      exact hk3 q2
  have hown : w.ownsRow w0.heap.size e f.size v l0.length x.xs := by rw [h2, ← hxs, ← q2, ← hxe, ← hxv']; exact q3
  obtain ⟨v', w4, hrun, ho4, hg4⟩ := run_append2 (P := P) w0.heap.size t ty e f z hut h1 h4 (by rw [h5, h2]) (by rw [h2]; exact hj0) v l0.length x.xs hown ad 1 c news (by rw [k5, h2]; simp) k3 k4 (by omega) (by omega) (by rw [h3]; exact hb) hS.below.size
  rw [h2] at ho4 hown
  have ho4' := ho4
  rcases ho4.2 with ⟨_, h0⟩ | ⟨b, cap, cur, hv', hbB, hbk, hnc, hcm, hcs, htake⟩
  · omega
  have hxl : x.xs.length = l0.length * j.size := hown.1
  have hxvl : xv.length = j.size := by rw [← hxv.1]; exact hX
  have hfit : (l0.length + 1) * j.size ≤ cur.size := by rw [hcs]; exact Nat.mul_le_mul_right _ hnc
  have hfit' : l0.length * j.size + j.size ≤ cur.size := by rw [Nat.add_mul] at hfit; omega
  have hpre : cur.toList.take (l0.length * j.size) = x.xs := by rw [← hxl]; exact take_len_append htake
  have hob : v'.ownBlock = some b := by rw [hv']; rfl
  -- nobody else's block is b
  have hobs : ∀ i, H.obj i ≠ none → ∀ b', G.ob i = some b' → b' ≠ b ∧ w4.heap[b']? = w.heap[b']? := by
    intro i' hi' b' hb'
    obtain ⟨o', ho'⟩ := Option.ne_none_iff_exists'.1 hi'
    obtain ⟨b0, r1, r2, r3, r4⟩ := hS.obs i' o' ho'
    rw [hb'] at r1; simp at r1; subst r1
    have hlt := r3.lt
    rcases hg4 with ⟨e1, e2, e3⟩ | ⟨e1, e3⟩
    · rw [hob] at e1
      have hne : b' ≠ b := by
        intro e'; subst e'
        exact (q4 b' (by rw [hxv', ← e1])).2.1 i' hi' hb'
      exact ⟨hne, e3.block b' hlt (by rw [← e1]; simpa using hne)⟩
    · rw [hob] at e1; simp at e1
      exact ⟨by omega, e3.block b' hlt (by simp)⟩
  have hlt4 : b < w4.heap.size := heap_lt hbk
  have hset : w4.grownBy (w4.setRow b (cur.toList.take (l0.length * j.size) ++ xv ++ cur.toList.drop (l0.length * j.size + j.size)).toArray) (some b) := ⟨rfl, rfl, rfl, by simp, fun k hk hne => setRow_other w4 b k _ (fun e => hne (by simp [e]))⟩
  have ho5 : (w4.setRow b (cur.toList.take (l0.length * j.size) ++ xv ++ cur.toList.drop (l0.length * j.size + j.size)).toArray).ownsRow w0.heap.size e j.size v' (l0.length + 1) (x.xs ++ xv) := by
    refine ⟨by rw [List.length_append, hxl, hxvl, Nat.add_mul, Nat.one_mul], .inr ⟨b, cap, _, hv', hbB, setRow_heap w4 b cur _ e _ hbk, hnc, hcm, ?_, ?_⟩⟩
    · simp [hxvl]; omega
    · rw [hpre]
      have : (l0.length + 1) * j.size = (x.xs ++ xv).length := by rw [List.length_append, hxl, hxvl, Nat.add_mul, Nat.one_mul]
      rw [this]; exact List.take_left
  have hg5 : (v'.ownBlock = v.ownBlock ∧ v.ownBlock ≠ none ∧ w.grownBy (w4.setRow b (cur.toList.take (l0.length * j.size) ++ xv ++ cur.toList.drop (l0.length * j.size + j.size)).toArray) v.ownBlock) ∨ (v'.ownBlock = some w.heap.size ∧ w.grownBy (w4.setRow b (cur.toList.take (l0.length * j.size) ++ xv ++ cur.toList.drop (l0.length * j.size + j.size)).toArray) none) := by
    rcases hg4 with ⟨e1, e2, e3⟩ | ⟨e1, e3⟩
    · refine .inl ⟨e1, e2, e3.os, e3.tape, e3.output, by simpa using e3.size, fun k hk hne => ?_⟩
      rw [setRow_other w4 b k _ (fun e' => hne (by rw [e', ← hob, e1]))]
      exact e3.block k hk hne
    · refine .inr ⟨e1, e3.os, e3.tape, e3.output, by simpa using e3.size, fun k hk hne => ?_⟩
      rw [hob] at e1; simp at e1
      rw [setRow_other w4 b k _ (by omega)]
      exact e3.block k hk hne
  obtain ⟨G', g1, g2, g3⟩ := hS.grown hj0 htok hv hx (ys := [X]) (news := xv) (by simpa using hX) (by simpa [flat] using hxv) (by simp) hb48 ho5 hg5
  exact ⟨v', w4, b, cap, cur, by rw [k1]; exact hrun, hv', hbk, hfit, hobs, G', g1, g2, g3⟩
end
end Go.Ai
