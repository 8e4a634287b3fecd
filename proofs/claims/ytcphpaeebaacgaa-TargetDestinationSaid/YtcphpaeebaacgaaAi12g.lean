/- A part of the proof: no statement of the seat is proved in this text. -/
import Derived.Test.YtcphpaeebaacgaaAi12d
set_option linter.unusedVariables false
set_option linter.unusedSimpArgs false
namespace Go.Ai
open Go Go.RowKit

/-! ### A row that grows by a place which is filled afterwards, in an unordered region -/
section
variable {w0 : World} {H : AH}
theorem Sim.grown {G : Gh} {w w' : World} (h : Sim w0 G H w) {e : TypeId} {sz tk : Nat} (hsz : 0 < sz) {l ys : List AV} (htok : H.tok tk = some ⟨l.length, e, sz⟩) {v v' : Value} (hr : Rep G (.own l tk) v) {x : Tok} (hx : G.tk tk = some x)
    {news : List Value} (hys : ∀ y, y ∈ ys → y.cells.length = sz) (hnr : RepL G (flat ys) news) (hm : 0 < ys.length) (hb48 : l.length + ys.length ≤ 281474976710656)
    (ho' : w'.ownsRow w0.heap.size e sz v' (l.length + ys.length) (x.xs ++ news))
    (hg : (v'.ownBlock = v.ownBlock ∧ v.ownBlock ≠ none ∧ w.grownBy w' v.ownBlock) ∨ (v'.ownBlock = some w.heap.size ∧ w.grownBy w' none)) :
    ∃ G', G.le G' ∧ Sim w0 G' (H.putTok tk ⟨l.length + ys.length, e, sz⟩) w' ∧ Rep G' (.own (l ++ ys) tk) v' := by
  obtain ⟨y, hy, k2, k3, k4⟩ := h.tks tk _ htok
  rw [hx] at hy; simp at hy; subst hy
  simp only [ATok.mk.injEq] at k2
  obtain ⟨k2, hxe, hxs⟩ := k2
  subst hxs; subst hxe
  cases hr with
  | own _ _ _ tok hk1 hk2 hk3 hk4 hk5 =>
    rw [hx] at hk1; simp at hk1; subst hk1
    have hv : x.v = v := hk3 k2
    subst hv
    have hown : w.ownsRow w0.heap.size x.e x.sz x.v l.length x.xs := by rw [← k2]; exact k3
    obtain ⟨b, cap, G', hv', hnc, hle, hS, hT, hK⟩ := h.setTok (t := tk) (x := x) (x' := ⟨v', l.length + ys.length, x.e, x.sz, x.xs ++ news⟩) (by rw [k2]; exact htok) hx (by simp only; omega) rfl (by omega)
      ho' (fun o u hu => by rw [List.getElem?_append_left (List.getElem?_eq_some_iff.1 hu).1]; exact hu) hg
    refine ⟨G', hle, hS, .own _ tk v' _ hT (by simp) (fun _ => rfl) (fun q hq => ?_) ?_⟩
    · rcases List.mem_append.1 hq with hq | hq
      · exact hk4 q hq
      · exact hys q hq
    · have hu : ∀ q, q ∈ l ++ ys → q.cells.length = x.sz := fun q hq => by
        rcases List.mem_append.1 hq with hq | hq
        · exact hk4 q hq
        · exact hys q hq
      simp only at hv' hnc hK
      have hll : (l ++ ys).length = l.length + ys.length := List.length_append
      rw [hv', ← hll]
      refine Rep.slice_mk (sz := x.sz) (fun o c hc => ?_) hu (by omega) (by omega)
      rw [flat_append] at hc
      have hlf : (flat l).length = l.length * x.sz := flat_length (fun q hq => hk4 q hq)
      have hxl : x.xs.length = l.length * x.sz := hown.1
      rcases Nat.lt_or_ge o (flat l).length with hlt | hge
      · rw [List.getElem?_append_left hlt] at hc
        rcases hk5.slice_inv with ⟨_, rfl⟩ | ⟨b0, off0, cap0, sz0, hv0, _, _, _, hrk⟩ | ⟨_, _, _, rfl⟩
        · simp [flat] at hlt
        rotate_left
        · simp [flat] at hlt
        · obtain ⟨u, hu1, hu2⟩ := hrk o c hc
          have hw := h.K _ _ _ hu1
          rcases hown.2 with ⟨hn0, _⟩ | ⟨g, cap1, cur1, hv1, _⟩
          · rw [hn0] at hv0; cases hv0
          · rw [hv1] at hv0
            simp only [Value.slice.injEq, Option.some.injEq, Addr.mk.injEq] at hv0
            obtain ⟨⟨rfl, rfl, _⟩, _, rfl⟩ := hv0
            have hol : o < x.xs.length := by omega
            have h2 := hown.cells (g := g) (by rw [hv1]; rfl) o x.xs[o] (List.getElem?_eq_getElem hol)
            rw [show (⟨g, 0, none⟩ : Addr).add o = ⟨g, 0 + o, none⟩ by unfold Addr.add; split <;> simp_all] at h2
            rw [h2] at hw; simp at hw
            refine ⟨u, ?_, hu2.mono hle⟩
            rw [Nat.zero_add]
            exact hK o u (by rw [List.getElem?_append_left hol, List.getElem?_eq_getElem hol, hw])
      · rw [List.getElem?_append_right hge] at hc
        obtain ⟨u, hu1, hu2⟩ := hnr.index hc
        refine ⟨u, ?_, hu2.mono hle⟩
        rw [Nat.zero_add]
        exact hK o u (by rw [List.getElem?_append_right (by omega), hxl, ← hlf]; exact hu1)
end

section
variable {P : Program} {w0 : World} {tt : TT} {N : Nat}

/-- The first k operations of an unordered region, all of which the others wait for. -/
theorem draw_prefix (htt : TtOk P tt) {ops : Array Oper} {Q : Exit → Act → World → Prop} {k rest : Nat} (hks : k ≤ ops.size) (hd : ∀ o ∈ ops, ∀ d, o.dst = some d → d < N) {ol : Nat → XOp} (hol : ∀ i o, i < k → ops[i]? = some o → ol i = xop ops o)
    (hback : ∀ i o, i < k → ops[i]? = some o → ∀ j ∈ afters o, j < i) (hlate : ∀ i o, ops[i]? = some o → k ≤ i → ∀ j < k, j ∈ afters o) : ∀ (fuel : Nat) (listed : Array Bool) (pl : List (Nat × DE)) (env : Env) (H : AH) (env' : Env) (H' : AH) (G : Gh) (a : Act) (w : World),
    listed.size = ops.size → (∀ j, k ≤ j → j < ops.size → listed.getD j true = false) → (∀ j, j ∈ pl.map (·.1) ↔ j < k ∧ listed.getD j true = false) → (pl.map (·.1)).Pairwise (· < ·) →
    (pl.Pairwise fun p q => (∃ o, ops[q.1]? = some o ∧ p.1 ∈ afters o) ∨ ((ol p.1).apart (ol q.1) = true ∧ p.2.touch.indep q.2.touch)) → fuel = pl.length →
    DRun P w0 tt ol pl env H env' H' → Sim w0 G H w → EnvRep G N env a.tmps → a.defers = [] →
    (∀ (G' : Gh) (a' : Act) (w' : World) (listed' : Array Bool), G.le G' → Sim w0 G' H' w' → EnvRep G' N env' a'.tmps → a'.defers = [] → listed'.size = ops.size → (∀ j, j < ops.size → listed'.getD j true = decide (j < k)) → wpAny P .any ops Q rest listed' a' w') → wpAny P .any ops Q (fuel + rest) listed a w := by
  intro fuel
  induction fuel with
  | zero =>
    intro listed pl env H env' H' G a w hsz hun hmem hlt hpw hf hrun hS hE had hk
    have : pl = [] := by cases pl <;> simp at hf ⊢
    subst this
    rw [Nat.zero_add]
    cases hrun with
    | nil he =>
      refine hk G a w listed (.refl G) hS (hE.eq he) had hsz fun j hj => ?_
      by_cases hjk : j < k
      · have := hmem j
        simp only [List.map_nil, List.not_mem_nil, false_iff, not_and, Bool.not_eq_false] at this
        simp [hjk, this hjk]
      · simp [hjk, hun j (by omega) hj]
  | succ fuel ih =>
    intro listed pl env H env' H' G a w hsz hun hmem hlt hpw hf hrun hS hE had hk
    rw [show fuel + 1 + rest = (fuel + rest) + 1 by omega]
    have hne : pl ≠ [] := by intro e; subst e; simp at hf
    refine ⟨fun hnil => ?_, fun i hi => ?_⟩
    · exfalso
      cases pl with
      | nil => exact hne rfl
      | cons p r =>
        have hp := (hmem p.1).1 (by simp)
        have hr : p.1 ∈ Region.ready .any ops listed := by
          refine mem_ready.2 ⟨hp.2, ops[p.1], Array.getElem?_eq_getElem (by omega), fun e he hb => ?_⟩
          have h1 := hback p.1 _ hp.1 (Array.getElem?_eq_getElem (by omega)) e.on (mem_afters.2 ⟨e, he, hb, rfl⟩)
          cases hl : listed.getD e.on false with
          | true => rfl
          | false =>
            have hl' : listed.getD e.on true = false := by
              have hlt' : e.on < listed.size := by omega
              simp [hlt'] at hl ⊢
              exact hl
            have := (hmem e.on).2 ⟨by omega, hl'⟩
            simp only [List.map_cons, List.mem_cons] at this
            rcases this with h2 | h2
            · omega
            · have := (List.pairwise_cons.1 (by simpa using hlt)).1 _ h2
              omega
        rw [hnil] at hr; cases hr
    · obtain ⟨huni, o, ho, hall⟩ := mem_ready.1 hi
      have hlt_i := (Array.getElem?_eq_some_iff.1 ho).1
      have hik : i < k := by
        rcases Nat.lt_or_ge i k with h1 | h1
        · exact h1
        · exfalso
          cases pl with
          | nil => exact hne rfl
          | cons p r =>
            have hp := (hmem p.1).1 (by simp)
            obtain ⟨e, he, hb, heq⟩ := mem_afters.1 (hlate i o ho h1 p.1 hp.1)
            have h3 := hall e he hb
            have h2 := hp.2
            rw [heq] at h3
            have hlt' : p.1 < listed.size := by omega
            simp [hlt'] at h3 h2
            rw [h3] at h2; cases h2
      obtain ⟨⟨i', F⟩, hFm, hFe⟩ := List.mem_map.1 ((hmem i).2 ⟨hik, huni⟩)
      simp only at hFe
      subst hFe
      obtain ⟨u, r, rfl⟩ := List.append_of_mem hFm
      have hap : ∀ p ∈ u, (ol p.1).apart (ol i') = true ∧ p.2.touch.indep F.touch := by
        intro p hp
        rcases (List.pairwise_append.1 hpw).2.2 p hp (i', F) (List.mem_cons_self ..) with ⟨o', ho', hj⟩ | h
        · exfalso
          simp only at ho'
          rw [ho] at ho'; cases ho'
          obtain ⟨e, he, hb, heq⟩ := mem_afters.1 hj
          have h1 := hall e he hb
          have h2 := ((hmem p.1).1 (by simp; exact .inl ⟨_, hp⟩)).2
          rw [heq] at h1
          have hlt' : p.1 < listed.size := by
            rcases Nat.lt_or_ge p.1 listed.size with h' | h'
            · exact h'
            · simp [Array.getElem?_eq_none h'] at h1
          simp [hlt'] at h1 h2
          rw [h1] at h2; cases h2
        · exact h
      cases DRun.bubble hap hrun with
      | cons h1 h2 h3 =>
        rename_i v
        have hoi := hol i' o hik ho
        rw [hoi] at h1 h3
        refine dop_ok htt ho (hd o (Array.mem_of_getElem? ho)) h1 h2 hS hE had fun G' a' w' k1 k2 k3 k4 => ?_
        have hnd := hlt
        rw [List.map_append, List.map_cons, List.pairwise_append] at hnd
        refine ih _ (u ++ r) _ _ env' H' G' a' w' (by simp [hsz]) (fun j hj1 hj2 => ?_) (fun j => ?_) ?_ ?_ (by simp at hf ⊢; omega) h3 k2 k3 k4 fun G'' a'' w'' ls j1 j2 j3 j4 => hk G'' a'' w'' ls (k1.trans j1) j2 j3 j4
        · rw [getD_set_ne true (by omega)]; exact hun j hj1 hj2
        · have hm := hmem j
          simp only [List.map_append, List.map_cons, List.mem_append, List.mem_cons] at hm ⊢
          by_cases hji : i' = j
          · subst hji
            have h5 : (listed.setIfInBounds i' true).getD i' true = true := by simp [show i' < listed.size by omega]
            rw [h5]
            simp only [Bool.true_eq_false, and_false, iff_false, not_or]
            refine ⟨fun h => ?_, fun h => ?_⟩
            · have := hnd.2.2 _ h i' (List.mem_cons_self ..); omega
            · have := (List.pairwise_cons.1 hnd.2.1).1 _ h; omega
          · rw [getD_set_ne true hji]
            rw [← hm]
            simp [Ne.symm hji]
        · rw [List.map_append, List.pairwise_append]
          exact ⟨hnd.1, (List.pairwise_cons.1 hnd.2.1).2, fun x hx y hy => hnd.2.2 x hx y (List.mem_cons_of_mem _ hy)⟩
        · have := List.pairwise_append.1 hpw
          exact List.pairwise_append.2 ⟨this.1, (List.pairwise_cons.1 this.2.1).2, fun x hx y hy => this.2.2 x hx y (List.mem_cons_of_mem _ hy)⟩
end
end Go.Ai

set_option linter.unusedVariables false
set_option linter.unusedSimpArgs false
namespace Go.Ai
open Go Go.RowKit

theorem XO.of_append {op : Op} {ty t : TypeId} {x y : Operand} (h : XO.of op ty = .append t x y) : op = .call { callee := .builtin .append, args := #[x, y], argTypes := #[t, t] } := by
  unfold XO.of at h
  split at h <;> (try cases h)
  · split at h <;> cases h
  · rename_i c
    obtain ⟨callee, args, argTypes⟩ := c
    simp only at h
    split at h <;> (try cases h)
    rename_i x y t u ha ht
    obtain rfl : args = #[x, y] := by apply Array.ext'; simpa using ha
    obtain rfl : argTypes = #[t, u] := by apply Array.ext'; simpa using ht
    split at h
    · rename_i e; subst e; cases h; rfl
    · cases h
theorem XO.of_indexAddr {op : Op} {ty t : TypeId} {x y : Operand} (h : XO.of op ty = .indexAddr t x y) : op = .indexAddr t x y := by
  unfold XO.of at h
  repeat' split at h
  all_goals first | (cases h; done) | (cases h; rfl)
theorem XO.of_store {op : Op} {ty t : TypeId} {x y : Operand} (h : XO.of op ty = .store t x y) : op = .store t x y := by
  unfold XO.of at h
  repeat' split at h
  all_goals first | (cases h; done) | (cases h; rfl)

theorem eval_put_ne {a : Act} {d k : Nat} {v : Value} (h : k ≠ d) : (a.put (some d) v).eval (.tmp k) = a.eval (.tmp k) := by
  show (a.tmps.setIfInBounds d v).getD k undef = a.tmps.getD k undef
  simp [Array.getD_eq_getD_getElem?, Array.getElem?_setIfInBounds, Ne.symm h]
theorem eval_put_eq {a : Act} {d : Nat} {v : Value} (h : d < a.tmps.size) : (a.put (some d) v).eval (.tmp d) = v := by
  show (a.tmps.setIfInBounds d v).getD d undef = v
  simp [Array.getD_eq_getD_getElem?, Array.getElem?_setIfInBounds, h]

section
variable {P : Program} {w0 : World} {tt : TT} {N : Nat}

theorem store_run (htt : TtOk P tt) {t : TypeId} {x y : Operand} {i : TyI} (hi : tt t = some i) {a : Act} {w : World} {o : Oper} (ho : o.op = .store t x y) {b off : Nat} {cur : Array Value} {te : TypeId} (hb : w.heap[b]? = some (.cells cur te (0, 0)))
    (hx : a.eval x = .pointer (some ⟨b, off, none⟩)) {xs : List Value} (hy : (a.eval y).cells.toList = xs) (hl : xs.length = i.size) (hfit : off + i.size ≤ cur.size) (h1 : ∀ v ∈ xs, v.oneCell' = true) :
    (execOp a.eval o).run P w = .ok .skip (w.setRow b (cur.toList.take off ++ xs ++ cur.toList.drop (off + i.size)).toArray) := by
  obtain ⟨f, z, g1, g2, _⟩ := (htt t i hi).info
  have hst := run_storeCells_at (P := P) b off te xs 0 cur w hb (by omega) h1
  have hz : (a.eval y).cells.size = f.size := by
    have : (a.eval y).cells.toList.length = xs.length := by rw [hy]
    simp at this; omega
  simp only [execOp, ho, hx, Instr.storeAt, Instr.sureAddr, storeVar, Sem.run_bind, Sem.run_pure, Result.andThen_ok, sizeOf, typeInfo]
  simp [g1, hz, hy]
  rw [hst]
  simp [hl]

theorem wpOp_run {ops : Array Oper} {Q : Exit → Act → World → Prop} {i : Nat} {o : Oper} (ho : ops[i]? = some o) (hg : o.guard = none) {a : Act} {w w' : World} {nx : Next} {v : Value} (hr : (execOp a.eval o).run P w = .ok nx w') (hn : Next.val nx = some v)
    {K : Act → World → Prop} (hk : K (a.put o.dst v) w') : wpOp P ops Q i K a w := by
  unfold wpOp
  simp only [ho]
  rw [if_pos (by simp [Region.wanted, hg])]
  refine .inl ?_
  unfold Oper.wp
  rw [hr]
  cases nx <;> simp [Next.val] at hn <;> subst hn <;> exact hk

/-- One step of an unordered region: whichever may come up. -/
theorem any_step {ops : Array Oper} {Q : Exit → Act → World → Prop} {listed : Array Bool} {S : Nat → Bool} (hs : listed.size = ops.size) (hl : ∀ j, j < ops.size → listed.getD j true = S j) {i0 : Nat} {o0 : Oper} (h0 : ops[i0]? = some o0) (h1 : S i0 = false) (h2 : ∀ j ∈ afters o0, j < ops.size ∧ S j = true)
    {fuel : Nat} {a : Act} {w : World} (h : ∀ i o, ops[i]? = some o → S i = false → (∀ j ∈ afters o, j < ops.size → S j = true) → ∀ listed' : Array Bool, listed'.size = ops.size → (∀ j, j < ops.size → listed'.getD j true = (j == i || S j)) → wpOp P ops Q i (wpAny P .any ops Q fuel listed') a w) : wpAny P .any ops Q (fuel + 1) listed a w := by
  have hd : ∀ j, j < ops.size → listed.getD j false = listed.getD j true := fun j hj => by
    have : j < listed.size := by omega
    simp [this]
  refine ⟨fun hnil => ?_, fun i hi => ?_⟩
  · exfalso
    have : i0 ∈ Region.ready .any ops listed := mem_ready.2 ⟨by rw [hl i0 (Array.getElem?_eq_some_iff.1 h0).1, h1], o0, h0, fun e he hb => by
      obtain ⟨k1, k2⟩ := h2 e.on (mem_afters.2 ⟨e, he, hb, rfl⟩)
      rw [hd _ k1, hl _ k1, k2]⟩
    rw [hnil] at this; cases this
  · obtain ⟨hun, o, ho, hall⟩ := mem_ready.1 hi
    have hlt := (Array.getElem?_eq_some_iff.1 ho).1
    refine h i o ho (by rw [← hl i hlt]; exact hun) (fun j hj hjl => ?_) _ (by simp [hs]) fun j hj => ?_
    · obtain ⟨e, he, hb, rfl⟩ := mem_afters.1 hj
      rw [← hl _ hjl, ← hd _ hjl]; exact hall e he hb
    · by_cases hji : j = i
      · subst hji
        simp [show j < listed.size by omega]
      · rw [getD_set_ne true (Ne.symm hji), hl j hj]
        simp [hji]
end
end Go.Ai

set_option linter.unusedVariables false
set_option linter.unusedSimpArgs false
namespace Go.Ai
open Go Go.RowKit
section
variable {P : Program} {w0 : World} {tt : TT} {N : Nat}

theorem take_len_append {α : Type} {a b c : List α} {n : Nat} (h : a.take n = b ++ c) : a.take b.length = b := by
  have : b = (a.take n).take b.length := by rw [h, List.take_left']; rfl
  have hl : b.length ≤ n := by
    have := congrArg List.length h
    simp at this; omega
  rw [List.take_take, Nat.min_eq_left hl] at this
  exact this.symm

/-- A place is made at a row's end, and filled: as if it had been appended. -/
theorem grow_facts (htt : TtOk P tt) {t e : TypeId} {i j : TyI} (hi : tt t = some i) (hu : i.u = .slice e) (hj : tt e = some j) (hj0 : 0 < j.size) {H : AH} {l0 : List AV} {tk : Nat} {Z X : AV} {G : Gh} {w : World} (hS : Sim w0 G H w)
    {v vz : Value} (hv : Rep G (.own l0 tk) v) (hz : Rep G (.slice [Z]) vz) (hZ : Z.cells.length = j.size ∧ Z.cells.all AV.scal = true) (hX : X.cells.length = j.size) (htok : H.tok tk = some ⟨l0.length, e, j.size⟩)
    (hb : (l0.length + 1) * j.bytes ≤ 140737488355328) (hb48 : l0.length + 1 ≤ 281474976710656) (ty : TypeId) {xv : List Value} (hxv : RepL G X.cells xv) :
    ∃ v' w4 b cap cur, (Builtin.append_ #[t, t] ty #[v, vz]).run P w = .ok v' w4 ∧ v' = .slice (some ⟨b, 0, none⟩) (l0.length + 1) cap ∧ w4.heap[b]? = some (.cells cur e (0, 0)) ∧ (l0.length + 1) * j.size ≤ cur.size ∧
      (∀ i, H.obj i ≠ none → ∀ b', G.ob i = some b' → b' ≠ b ∧ w4.heap[b']? = w.heap[b']?) ∧
      ∃ G', G.le G' ∧ Sim w0 G' (H.putTok tk ⟨l0.length + 1, e, j.size⟩) (w4.setRow b (cur.toList.take (l0.length * j.size) ++ xv ++ cur.toList.drop (l0.length * j.size + j.size)).toArray) ∧ Rep G' (.own (l0 ++ [X]) tk) v' := by
  obtain ⟨f, z, h1, h2, h3, h4, h5, h6, h7⟩ := (htt e j hj).info
  have hut := (htt t i hi).u
  rw [hu] at hut
  obtain ⟨ad, c, news, k1, k2, k3, k4, k5⟩ := src_cells hS hz (sz := j.size) (by simpa using hZ) (by simp)
  obtain ⟨x, hx, q2, q3, q4⟩ := hS.tks tk _ htok
  simp only [ATok.mk.injEq] at q2
  obtain ⟨q2, hxe, hxs⟩ := q2
  have hxv' : x.v = v := by
    cases hv with
    | own _ _ _ tok hk1 hk2 hk3 hk4 hk5 =>
      rw [hx] at hk1; simp at hk1; subst hk1
      exact hk3 q2
  have hown : w.ownsRow w0.heap.size e f.size v l0.length x.xs := by rw [h2, ← hxs, ← q2, ← hxe, ← hxv']; exact q3
  obtain ⟨v', w4, hrun, ho4, hg4⟩ := run_append2 (P := P) w0.heap.size t ty e f z hut h1 h4 (by rw [h5, h2]) (by rw [h2]; exact hj0) v l0.length x.xs hown ad 1 c news (by rw [k5, h2]; simp) k3 k4 (by omega) (by omega) (by rw [h3]; exact hb) hS.below.size
  rw [h2] at ho4 hown
  have ho4' := ho4
  rcases ho4.2 with ⟨_, h0⟩ | ⟨b, cap, cur, hv', hbB, hbk, hnc, hcm, hcs, htake⟩
  · omega
  have hxl : x.xs.length = l0.length * j.size := hown.1
  have hxvl : xv.length = j.size := by rw [← hxv.1]; exact hX
  have hfit : (l0.length + 1) * j.size ≤ cur.size := by rw [hcs]; exact Nat.mul_le_mul_right _ hnc
  have hfit' : l0.length * j.size + j.size ≤ cur.size := by rw [Nat.add_mul] at hfit; omega
  have hpre : cur.toList.take (l0.length * j.size) = x.xs := by rw [← hxl]; exact take_len_append htake
  have hob : v'.ownBlock = some b := by rw [hv']; rfl
  -- nobody else's block is b
  have hobs : ∀ i, H.obj i ≠ none → ∀ b', G.ob i = some b' → b' ≠ b ∧ w4.heap[b']? = w.heap[b']? := by
    intro i' hi' b' hb'
    obtain ⟨o', ho'⟩ := Option.ne_none_iff_exists'.1 hi'
    obtain ⟨b0, r1, r2, r3, r4⟩ := hS.obs i' o' ho'
    rw [hb'] at r1; simp at r1; subst r1
    have hlt := r3.lt
    rcases hg4 with ⟨e1, e2, e3⟩ | ⟨e1, e3⟩
    · rw [hob] at e1
      have hne : b' ≠ b := by
        intro e'; subst e'
        exact (q4 b' (by rw [hxv', ← e1])).2.1 i' hi' hb'
      exact ⟨hne, e3.block b' hlt (by rw [← e1]; simpa using hne)⟩
    · rw [hob] at e1; simp at e1
      exact ⟨by omega, e3.block b' hlt (by simp)⟩
  have hlt4 : b < w4.heap.size := heap_lt hbk
  have hset : w4.grownBy (w4.setRow b (cur.toList.take (l0.length * j.size) ++ xv ++ cur.toList.drop (l0.length * j.size + j.size)).toArray) (some b) := ⟨rfl, rfl, rfl, by simp, fun k hk hne => setRow_other w4 b k _ (fun e => hne (by simp [e]))⟩
  have ho5 : (w4.setRow b (cur.toList.take (l0.length * j.size) ++ xv ++ cur.toList.drop (l0.length * j.size + j.size)).toArray).ownsRow w0.heap.size e j.size v' (l0.length + 1) (x.xs ++ xv) := by
    refine ⟨by rw [List.length_append, hxl, hxvl, Nat.add_mul, Nat.one_mul], .inr ⟨b, cap, _, hv', hbB, setRow_heap w4 b cur _ e _ hbk, hnc, hcm, ?_, ?_⟩⟩
    · simp [hxvl]; omega
    · rw [hpre]
      have : (l0.length + 1) * j.size = (x.xs ++ xv).length := by rw [List.length_append, hxl, hxvl, Nat.add_mul, Nat.one_mul]
      rw [this]; exact List.take_left
  have hg5 : (v'.ownBlock = v.ownBlock ∧ v.ownBlock ≠ none ∧ w.grownBy (w4.setRow b (cur.toList.take (l0.length * j.size) ++ xv ++ cur.toList.drop (l0.length * j.size + j.size)).toArray) v.ownBlock) ∨ (v'.ownBlock = some w.heap.size ∧ w.grownBy (w4.setRow b (cur.toList.take (l0.length * j.size) ++ xv ++ cur.toList.drop (l0.length * j.size + j.size)).toArray) none) := by
    rcases hg4 with ⟨e1, e2, e3⟩ | ⟨e1, e3⟩
    · refine .inl ⟨e1, e2, e3.os, e3.tape, e3.output, by simpa using e3.size, fun k hk hne => ?_⟩
      rw [setRow_other w4 b k _ (fun e' => hne (by rw [e', ← hob, e1]))]
      exact e3.block k hk hne
    · refine .inr ⟨e1, e3.os, e3.tape, e3.output, by simpa using e3.size, fun k hk hne => ?_⟩
      rw [hob] at e1; simp at e1
      rw [setRow_other w4 b k _ (by omega)]
      exact e3.block k hk hne
  obtain ⟨G', g1, g2, g3⟩ := hS.grown hj0 htok hv hx (ys := [X]) (news := xv) (by simpa using hX) (by simpa [flat] using hxv) (by simp) hb48 ho5 hg5
  exact ⟨v', w4, b, cap, cur, by rw [k1]; exact hrun, hv', hbk, hfit, hobs, G', g1, g2, g3⟩
end
end Go.Ai

set_option linter.unusedVariables false
set_option linter.unusedSimpArgs false
namespace Go.Ai
open Go Go.RowKit
section
variable {P : Program} {w0 : World} {tt : TT} {N : Nat}

theorem Sim.putCell {H : AH} {G : Gh} {w : World} (hS : Sim w0 G H w) {id off b : Nat} {cs : List AV} {te : TypeId} (ho : H.obj id = some (.cells cs te)) (hb : G.ob id = some b) {vs : List Value} (hw : w.heap[b]? = some (.cells vs.toArray te (0, 0))) (hr : RepL G cs vs)
    {y : AV} {u : Value} (hy : Rep G y u) (hs : y.scal = true) :
    Sim w0 G (H.put id (.cells (cs.take off ++ [y] ++ cs.drop (off + 1)) te)) (w.setRow b (vs.take off ++ [u] ++ vs.drop (off + 1)).toArray) := by
  obtain ⟨vs', h3, h4, h5⟩ := hS.cellsAt ho hb
  refine hS.setObj ho hb (w' := w.setRow b _) ⟨rfl, rfl, rfl, by simp, fun k hk hne => setRow_other w b k _ (fun e => hne (by simp [e]))⟩
    ⟨_, setRow_heap w b vs.toArray _ te _ hw, ((hr.take off).append (.cons hy (.nil _))).append (hr.drop _), fun c hc => ?_⟩
  simp only [List.mem_append, List.mem_singleton] at hc
  rcases hc with (hc | hc) | hc
  · exact h5 c (List.mem_of_mem_take hc)
  · subst hc; exact hs
  · exact h5 c (List.mem_of_mem_drop hc)

theorem setRow_swap (w : World) {a b : Nat} (h : a ≠ b) (x y : Array Value) : (w.setRow a x).setRow b y = (w.setRow b y).setRow a x := by
  simp only [World.setRow]
  congr 1
  apply Array.ext
  · simp
  · intro k h1 h2
    simp only [Array.getElem_modify]
    split <;> split <;> simp_all

theorem EnvRep.setTmp {G : Gh} {env : Env} {a : Act} (h : EnvRep G N env a.tmps) (d : Nat) (hd : d < N) {v : AV} {x : Value} (hr : Rep G v x) : EnvRep G N ((d, v) :: env) (a.put (some d) x).tmps := h.put (some d) (fun _ e => by cases e; exact hd) hr

theorem draw_tail (htt : TtOk P tt) {ops : Array Oper} {Q : Exit → Act → World → Prop} {k d p s z n x q : Nat} {t e : TypeId} {i j : TyI} {o0 o1 o2 o3 : Oper} (hs : ops.size = k + 4)
    (h0 : ops[k]? = some o0) (h1 : ops[k + 1]? = some o1) (h2 : ops[k + 2]? = some o2) (h3 : ops[k + 3]? = some o3)
    (e0 : xop ops o0 = ⟨some d, .append t (.tmp s) (.tmp z), none⟩) (e1 : xop ops o1 = ⟨some p, .indexAddr t (.tmp d) (.tmp n), none⟩) (e2 : xop ops o2 = ⟨none, .store e (.tmp p) (.tmp x), none⟩) (e3 : xop ops o3 = ⟨none, .store t (.tmp q) (.tmp d), none⟩)
    (a1 : k ∈ afters o1) (a2 : k ∈ afters o2) (a2' : k + 1 ∈ afters o2) (a3 : k ∈ afters o3)
    (b0 : ∀ j ∈ afters o0, j < k) (b1 : ∀ j ∈ afters o1, j < k + 1) (b2 : ∀ j ∈ afters o2, j < k + 2) (b3 : ∀ j ∈ afters o3, j < k + 3)
    (hdN : d < N) (hpN : p < N) (hi : tt t = some i) (hu : i.u = .slice e) (hj : tt e = some j) (hi1 : i.size = 1) (hj0 : 0 < j.size)
    {env : Env} {H : AH} {l0 : List AV} {tk : Nat} {Z X : AV} {id off : Nat} {cs : List AV} {te : TypeId}
    (v1 : look s env = .own l0 tk) (v2 : (look z env).elems = some [Z]) (v3 : look n env = .int .i64 l0.length) (v4 : look x env = X) (v5 : look q env = .ptr id off)
    (hZ : Z.cells.length = j.size ∧ Z.cells.all AV.scal = true) (hX : X.cells.length = j.size ∧ X.cells.all AV.scal = true)
    (htok : H.tok tk = some ⟨l0.length, e, j.size⟩) (hobj : H.obj id = some (.cells cs te)) (hoff : off < cs.length)
    (hb : (l0.length + 1) * j.bytes ≤ 140737488355328) (hb48 : l0.length + 1 ≤ 281474976710656)
    (dn : n ≠ d) (dx : x ≠ d) (dq : q ≠ d) (dp : d ≠ p) (px : x ≠ p) (pq : q ≠ p)
    {G : Gh} {a : Act} {w : World} (hS : Sim w0 G H w) (hE : EnvRep G N env a.tmps) (had : a.defers = []) {listed : Array Bool} (hls : listed.size = ops.size) (hl : ∀ j, j < ops.size → listed.getD j true = decide (j < k))
    (hk : ∀ (G' : Gh) (a' : Act) (w' : World), G.le G' → Sim w0 G' ((H.putTok tk ⟨l0.length + 1, e, j.size⟩).put id (.cells (cs.take off ++ [.own (l0 ++ [X]) tk] ++ cs.drop (off + 1)) te)) w' →
      EnvRep G' N ((p, .any) :: (d, .own (l0 ++ [X]) tk) :: env) a'.tmps → a'.defers = [] → Q .normal a' w') : wpAny P .any ops Q 4 listed a w := by
  simp only [xop, XOp.mk.injEq, Option.map_eq_none_iff] at e0 e1 e2 e3
  obtain ⟨e0d, e0o, e0g⟩ := e0
  obtain ⟨e1d, e1o, e1g⟩ := e1
  obtain ⟨e2d, e2o, e2g⟩ := e2
  obtain ⟨e3d, e3o, e3g⟩ := e3
  replace e0o := XO.of_append e0o
  replace e1o := XO.of_indexAddr e1o
  replace e2o := XO.of_store e2o
  replace e3o := XO.of_store e3o
  have rx : RepL G X.cells (a.eval (.tmp x)).cells.toList := by
    have := (hE.rep x); rw [v4] at this
    exact this.cells (cells_ok hX.2)
  have rs : Rep G (.own l0 tk) (a.eval (.tmp s)) := by have := hE.rep s; rw [v1] at this; exact this
  have rz : Rep G (.slice [Z]) (a.eval (.tmp z)) := (hE.eval (.tmp z)).elems v2
  obtain ⟨v', w4, b, cap, cur, hrun, hv', hbk, hfit, hoth, G', g1, g2, g3⟩ := grow_facts (P := P) htt hi hu hj hj0 hS rs rz hZ hX.1 htok hb hb48 o0.type rx
  have rn : a.eval (.tmp n) = .int .i64 l0.length := by
    have := hE.rep n; rw [v3] at this
    exact this.int_inv.1
  obtain ⟨bh, hq, hqb⟩ : ∃ b, a.eval (.tmp q) = .pointer (some ⟨b, off, none⟩) ∧ G.ob id = some b := by
    have := hE.rep q; rw [v5] at this
    exact ptr_inv this
  obtain ⟨vs, c3, c4, c5⟩ := hS.cellsAt hobj hqb
  obtain ⟨hbne, hbh⟩ := hoth id (by rw [hobj]; simp) bh hqb
  have hut := (htt t i hi).u
  rw [hu] at hut
  have hfit' : l0.length * j.size + j.size ≤ cur.size := by rw [Nat.add_mul] at hfit; omega
  have hxl : (a.eval (.tmp x)).cells.toList.length = j.size := by rw [← rx.1, hX.1]
  have hx1 : ∀ u ∈ (a.eval (.tmp x)).cells.toList, u.oneCell' = true := by
    intro u hu'
    obtain ⟨o, ho, rfl⟩ := List.getElem_of_mem hu'
    have ho2 : o < X.cells.length := by rw [rx.1]; exact ho
    exact (rx.2 o _ _ (List.getElem?_eq_getElem ho2) (List.getElem?_eq_getElem ho)).one (by have := hX.2; simp at this; exact this _ (List.getElem_mem ho2))
  have hsz : a.tmps.size = N := hE.size
  have hvl : vs.length = cs.length := c4.1.symm
  -- the ends
  generalize hxv : (a.eval (.tmp x)).cells.toList = xv at *
  let R : Array Value := (cur.toList.take (l0.length * j.size) ++ xv ++ cur.toList.drop (l0.length * j.size + j.size)).toArray
  let C : Array Value := (vs.take off ++ [v'] ++ vs.drop (off + 1)).toArray
  let pv : Value := .pointer (some ⟨b, l0.length * j.size, none⟩)
  let A4 : Act := a.put (some d) v'
  let A5 : Act := A4.put (some p) pv
  have hend : Q .normal A5 ((w4.setRow b R).setRow bh C) := by
    have hobj' : (H.putTok tk ⟨l0.length + 1, e, j.size⟩).obj id = some (.cells cs te) := hobj
    have hcell := g2.putCell (off := off) hobj' (g1.ob _ _ hqb) (vs := vs) (by rw [setRow_other w4 b bh _ hbne, hbh]; exact c3) (c4.mono g1) g3 rfl
    exact hk G' A5 _ g1 hcell (((hE.mono g1).setTmp d hdN g3).setTmp p hpN (.any _)) had
  -- the runs
  have run1 : (execOp A4.eval o1).run P w4 = .ok (.value pv) w4 ∧ ∀ W, (execOp A4.eval o1).run P W = .ok (.value pv) W := by
    have ed : A4.eval (.tmp d) = v' := eval_put_eq (by omega)
    have en : A4.eval (.tmp n) = .int .i64 l0.length := by rw [eval_put_ne dn]; exact rn
    have hh : ∀ W, (execOp A4.eval o1).run P W = .ok (.value pv) W := fun W => by
      have hlt2 : (l0.length : Int) < ((l0.length + 1 : Nat) : Int) := by omega
      simp [execOp, e1o, ed, en, hv', Instr.indexAt, asIntOf, run_underlying hut, hlt2, sizeOf_run htt hj, add_off, pv]
    exact ⟨hh w4, hh⟩
  have run2 : ∀ W, W.heap[b]? = some (.cells cur e (0, 0)) → (execOp A5.eval o2).run P W = .ok .skip (W.setRow b R) := fun W hW => by
    have ep : A5.eval (.tmp p) = pv := eval_put_eq (by simp [A4, Act.put]; omega)
    have ex : (A5.eval (.tmp x)).cells.toList = xv := by rw [show A5.eval (.tmp x) = a.eval (.tmp x) by rw [eval_put_ne px, eval_put_ne dx]]; exact hxv
    exact store_run htt hj e2o hW ep ex hxl hfit' hx1
  have run3 : ∀ (A : Act) W, A.eval (.tmp q) = .pointer (some ⟨bh, off, none⟩) → A.eval (.tmp d) = v' → W.heap[bh]? = some (.cells vs.toArray te (0, 0)) → (execOp A.eval o3).run P W = .ok .skip (W.setRow bh C) := fun A W hAq hAd hW => by
    have := store_run (P := P) htt hi e3o hW hAq (xs := [v']) (by rw [hAd, hv']; rfl) (by simp [hi1]) (by rw [hi1]; simp; omega) (by rw [hv']; simp [Value.oneCell'])
    rw [hi1] at this
    exact this
  have eq4 : A4.eval (.tmp q) = .pointer (some ⟨bh, off, none⟩) := by rw [eval_put_ne dq]; exact hq
  have ed4 : A4.eval (.tmp d) = v' := eval_put_eq (by omega)
  have eq5 : A5.eval (.tmp q) = .pointer (some ⟨bh, off, none⟩) := by rw [eval_put_ne pq]; exact eq4
  have ed5 : A5.eval (.tmp d) = v' := by rw [eval_put_ne dp]; exact ed4
  have c3' : w4.heap[bh]? = some (.cells vs.toArray te (0, 0)) := by rw [hbh]; exact c3
  have end0 : ∀ (ls : Array Bool), ls.size = ops.size → (∀ j, j < ops.size → ls.getD j true = true) → ∀ W, W = (w4.setRow b R).setRow bh C → wpAny P .any ops Q 0 ls A5 W := by
    intro ls hsz' hall W hW
    refine ⟨List.eq_nil_iff_forall_not_mem.2 fun i' hi' => ?_, by rw [hW]; exact hend⟩
    obtain ⟨k1, o', k2, _⟩ := mem_ready.1 hi'
    rw [hall i' (Array.getElem?_eq_some_iff.1 k2).1] at k1; cases k1
  -- the first
  refine any_step hls hl h0 (by simp) (fun j' hj' => ⟨by have := b0 j' hj'; omega, by simpa using b0 j' hj'⟩) fun i1 oi hoi hSi haf ls1 hs1 hl1 => ?_
  have hi1lt := (Array.getElem?_eq_some_iff.1 hoi).1
  have : i1 = k := by
    simp at hSi
    rcases (show i1 = k ∨ i1 = k + 1 ∨ i1 = k + 2 ∨ i1 = k + 3 by omega) with rfl | rfl | rfl | rfl
    · rfl
    · rw [h1] at hoi; cases hoi; have := haf k a1 (by omega); simp at this
    · rw [h2] at hoi; cases hoi; have := haf k a2 (by omega); simp at this
    · rw [h3] at hoi; cases hoi; have := haf k a3 (by omega); simp at this
  subst this
  rw [h0] at hoi; cases hoi
  refine wpOp_run h0 e0g (v := v') (exec_append e0o hrun) rfl ?_
  rw [e0d]
  -- the second
  refine any_step hs1 hl1 h1 (by simp) (fun j' hj' => ⟨by have := b1 j' hj'; omega, by have := b1 j' hj'; simp; omega⟩) fun i2 oi hoi hSi haf ls2 hs2 hl2 => ?_
  have hi2lt := (Array.getElem?_eq_some_iff.1 hoi).1
  have : i2 = i1 + 1 ∨ i2 = i1 + 3 := by
    simp at hSi
    rcases (show i2 = i1 + 1 ∨ i2 = i1 + 2 ∨ i2 = i1 + 3 by omega) with rfl | rfl | rfl
    · exact .inl rfl
    · rw [h2] at hoi; cases hoi; have := haf (i1 + 1) a2' (by omega); simp at this; omega
    · exact .inr rfl
  rcases this with rfl | rfl
  · rw [h1] at hoi; cases hoi
    refine wpOp_run h1 e1g (v := pv) run1.1 rfl ?_
    rw [e1d]
    refine any_step hs2 hl2 h2 (by simp) (fun j' hj' => ⟨by have := b2 j' hj'; omega, by have := b2 j' hj'; simp; omega⟩) fun i3 oi hoi hSi haf ls3 hs3 hl3 => ?_
    have hi3lt := (Array.getElem?_eq_some_iff.1 hoi).1
    have : i3 = i1 + 2 ∨ i3 = i1 + 3 := by simp at hSi; omega
    rcases this with rfl | rfl
    · rw [h2] at hoi; cases hoi
      refine wpOp_run h2 e2g (run2 w4 hbk) rfl ?_
      rw [e2d]
      refine any_step hs3 hl3 h3 (by simp) (fun j' hj' => ⟨by have := b3 j' hj'; omega, by have := b3 j' hj'; simp; omega⟩) fun i4 oi hoi hSi haf ls4 hs4 hl4 => ?_
      have hi4lt := (Array.getElem?_eq_some_iff.1 hoi).1
      have : i4 = i1 + 3 := by simp at hSi; omega
      subst this
      rw [h3] at hoi; cases hoi
      refine wpOp_run h3 e3g (run3 A5 _ eq5 ed5 (by rw [setRow_other w4 b bh _ hbne]; exact c3')) rfl ?_
      rw [e3d]
      exact end0 _ hs4 (fun j' hj' => by rw [hl4 j' hj']; simp; omega) _ rfl
    · rw [h3] at hoi; cases hoi
      refine wpOp_run h3 e3g (run3 A5 _ eq5 ed5 c3') rfl ?_
      rw [e3d]
      refine any_step hs3 hl3 h2 (by simp) (fun j' hj' => ⟨by have := b2 j' hj'; omega, by have := b2 j' hj'; simp; omega⟩) fun i4 oi hoi hSi haf ls4 hs4 hl4 => ?_
      have hi4lt := (Array.getElem?_eq_some_iff.1 hoi).1
      have : i4 = i1 + 2 := by simp at hSi; omega
      subst this
      rw [h2] at hoi; cases hoi
      refine wpOp_run h2 e2g (run2 _ (by rw [setRow_other w4 bh b _ (Ne.symm hbne)]; exact hbk)) rfl ?_
      rw [e2d]
      exact end0 _ hs4 (fun j' hj' => by rw [hl4 j' hj']; simp; omega) _ (setRow_swap w4 hbne _ _)
  · rw [h3] at hoi; cases hoi
    refine wpOp_run h3 e3g (run3 A4 _ eq4 ed4 c3') rfl ?_
    rw [e3d]
    refine any_step hs2 hl2 h1 (by simp) (fun j' hj' => ⟨by have := b1 j' hj'; omega, by have := b1 j' hj'; simp; omega⟩) fun i3 oi hoi hSi haf ls3 hs3 hl3 => ?_
    have hi3lt := (Array.getElem?_eq_some_iff.1 hoi).1
    have : i3 = i1 + 1 := by
      simp at hSi
      rcases (show i3 = i1 + 1 ∨ i3 = i1 + 2 by omega) with rfl | rfl
      · rfl
      · rw [h2] at hoi; cases hoi; have := haf (i1 + 1) a2' (by omega); simp at this; omega
    subst this
    rw [h1] at hoi; cases hoi
    refine wpOp_run h1 e1g (v := pv) (run1.2 _) rfl ?_
    rw [e1d]
    refine any_step hs3 hl3 h2 (by simp) (fun j' hj' => ⟨by have := b2 j' hj'; omega, by have := b2 j' hj'; simp; omega⟩) fun i4 oi hoi hSi haf ls4 hs4 hl4 => ?_
    have hi4lt := (Array.getElem?_eq_some_iff.1 hoi).1
    have : i4 = i1 + 2 := by simp at hSi; omega
    subst this
    rw [h2] at hoi; cases hoi
    refine wpOp_run h2 e2g (run2 _ (by rw [setRow_other w4 bh b _ (Ne.symm hbne)]; exact hbk)) rfl ?_
    rw [e2d]
    exact end0 _ hs4 (fun j' hj' => by rw [hl4 j' hj']; simp; omega) _ (setRow_swap w4 hbne _ _)
end
end Go.Ai

set_option linter.unusedVariables false
set_option linter.unusedSimpArgs false
namespace Go.Ai
open Go Go.RowKit
/-- The operations after the k-th wait for all before them; the k-th's successors wait for it; the store waits for the place. -/
def tafter (k : Nat) (af : List (List Nat)) : Bool :=
  (List.range k).all (fun j => (af.getD k []).contains j && (af.getD (k + 1) []).contains j && (af.getD (k + 2) []).contains j && (af.getD (k + 3) []).contains j) &&
  (af.getD (k + 1) []).contains k && (af.getD (k + 2) []).contains k && (af.getD (k + 2) []).contains (k + 1) && (af.getD (k + 3) []).contains k &&
  (af.getD k []).all (· < k) && (af.getD (k + 1) []).all (· < k + 1) && (af.getD (k + 2) []).all (· < k + 2) && (af.getD (k + 3) []).all (· < k + 3)
def dtail (l : List XOp) : Bool := l.any fun o => match o.xo with | .buildSlice _ 1 [(_, .const (.agg _))] => true | _ => false
def tends (d p s z n x q : Nat) (t e : TypeId) : List XOp := [⟨some d, .append t (.tmp s) (.tmp z), none⟩, ⟨some p, .indexAddr t (.tmp d) (.tmp n), none⟩, ⟨none, .store e (.tmp p) (.tmp x), none⟩, ⟨none, .store t (.tmp q) (.tmp d), none⟩]
def tne (d p n x q : Nat) : Bool := n != d && x != d && q != d && d != p && x != p && q != p

/-- What is to stand at the end of the first part, and what comes of it. -/
def TailK (d p s z n x q : Nat) (e : TypeId) (j : TyI) (env : Env) (H : AH) (K : Env → AH → Prop) : Prop :=
  ∃ (l0 : List AV) (tk : Nat) (Z X : AV) (id off : Nat) (cs : List AV) (te : TypeId), look s env = .own l0 tk ∧ (look z env).elems = some [Z] ∧ look n env = .int .i64 l0.length ∧ look x env = X ∧ look q env = .ptr id off ∧
    (Z.cells.length = j.size ∧ Z.cells.all AV.scal = true) ∧ (X.cells.length = j.size ∧ X.cells.all AV.scal = true) ∧ H.tok tk = some ⟨l0.length, e, j.size⟩ ∧ H.obj id = some (.cells cs te) ∧ off < cs.length ∧
    (l0.length + 1) * j.bytes ≤ 140737488355328 ∧ l0.length + 1 ≤ 281474976710656 ∧
    K ((p, .any) :: (d, .own (l0 ++ [X]) tk) :: env) ((H.putTok tk ⟨l0.length + 1, e, j.size⟩).put id (.cells (cs.take off ++ [.own (l0 ++ [X]) tk] ++ cs.drop (off + 1)) te))

section
variable {P : Program} {w0 : World} {tt : TT} {N : Nat}
theorem kclash_zero (q : Nat) : kclash q 0 = false := by unfold kclash; split <;> simp_all
theorem getD_map_at {α β : Type} [Inhabited β] {f : α → β} {l : List α} {i : Nat} {o : α} (h : l[i]? = some o) (b : β) : (l.map f).getD i b = f o := by
  rw [List.getD_eq_getElem?_getD, List.getElem?_map, h]; rfl

theorem wp_drawE (htt : TtOk P tt) (hm : P.follows .mixedOrders = true) {id : Nat} {ops : Array Oper} {Q : Exit → Act → World → Prop} {env : Env} {H : AH} {K : Env → AH → Prop} (hd : dstOk N (.region id ops true) = true)
    {lp : List XOp} {d p s z n x q : Nat} {t e : TypeId} {i j : TyI} (hl : ops.toList.map (xop ops) = lp ++ tends d p s z n x q t e)
    (hck : dcheck lp ((ops.toList.map afters).take lp.length) = true) (hta : tafter lp.length (ops.toList.map afters) = true) (hne : tne d p n x q = true)
    (hi : tt t = some i) (hu : i.u = .slice e) (hj : tt e = some j) (hi1 : i.size = 1) (hj0 : 0 < j.size)
    (h : drun P w0 tt 0 lp [] env H fun T env' H' => dclear T (dpairs lp ((ops.toList.map afters).take lp.length)) ∧ TailK d p s z n x q e j env' H' K)
    {G : Gh} {a : Act} {w : World} (hS : Sim w0 G H w) (hE : EnvRep G N env a.tmps) (had : a.defers = [])
    (hk : ∀ (G' : Gh) (a' : Act) (w' : World) (env' : Env) (H' : AH), G.le G' → Sim w0 G' H' w' → EnvRep G' N env' a'.tmps → a'.defers = [] → K env' H' → Q .normal a' w') : (Code.region id ops true).wp P Q a w := by
  obtain ⟨k, hkl⟩ : ∃ k, k = lp.length := ⟨_, rfl⟩
  rw [← hkl] at hck hta h
  have hsize : ops.size = k + 4 := by
    have := congrArg List.length hl
    simp [tends] at this; omega
  have hat : ∀ (i : Nat) (o : Oper), ops[i]? = some o → (lp ++ tends d p s z n x q t e)[i]? = some (xop ops o) := by
    intro i o ho
    rw [← hl, List.getElem?_map, Array.getElem?_toList, ho]; rfl
  have haf : ∀ (i : Nat) (o : Oper), ops[i]? = some o → ((ops.toList.map afters).getD i []) = afters o := by
    intro i o ho
    rw [List.getD_eq_getElem?_getD, List.getElem?_map, Array.getElem?_toList, ho]; rfl
  have haf' : ∀ (i : Nat) (o : Oper), i < k → ops[i]? = some o → (((ops.toList.map afters).take k).getD i []) = afters o := by
    intro i o hik ho
    rw [← haf i o ho, List.getD_eq_getElem?_getD, List.getD_eq_getElem?_getD, List.getElem?_take, if_pos hik]
  obtain ⟨pl, env', H', T', g1, g2, g3, g4, g5, g6, g7⟩ := drun_rel lp 0 [] env H _ (fun i => lp.getD i default) (fun k o hk => by simp [List.getD_eq_getElem?_getD, hk]) (fun _ _ => rfl) h
  obtain ⟨l0, tk, Z, X, id', off, cs, te, q1, q2, q3, q4, q5, q6, q7, q8, q9, q10, q11, q12, q13⟩ := g7
  simp only [tne, Bool.and_eq_true, bne_iff_ne, ne_eq] at hne
  obtain ⟨⟨⟨⟨⟨n1, n2⟩, n3⟩, n4⟩, n5⟩, n6⟩ := hne
  simp only [tafter, List.all_eq_true, List.mem_range, Bool.and_eq_true, decide_eq_true_eq, List.contains_eq_mem] at hta
  obtain ⟨⟨⟨⟨⟨⟨⟨⟨t0, t1⟩, t2⟩, t3⟩, t4⟩, t5⟩, t6⟩, t7⟩, t8⟩ := hta
  simp only [dcheck, List.all_eq_true, List.mem_range, Bool.and_eq_true, decide_eq_true_eq, Bool.or_eq_true] at hck
  rw [← hkl] at hck
  have hdd : ∀ o ∈ ops, ∀ d, o.dst = some d → d < N := fun o ho d hdo => by
    simp only [dstOk, List.all_eq_true] at hd
    have := hd o (Array.mem_def.1 ho)
    rw [hdo] at this
    simpa using this
  have o0 : ops[k]? = some ops[k] := Array.getElem?_eq_getElem (by omega)
  have o1 : ops[k + 1]? = some ops[k + 1] := Array.getElem?_eq_getElem (by omega)
  have o2 : ops[k + 2]? = some ops[k + 2] := Array.getElem?_eq_getElem (by omega)
  have o3 : ops[k + 3]? = some ops[k + 3] := Array.getElem?_eq_getElem (by omega)
  have x0 : xop ops ops[k] = ⟨some d, .append t (.tmp s) (.tmp z), none⟩ := by
    have := hat _ _ o0
    rw [List.getElem?_append_right (by omega), show k - lp.length = 0 by omega] at this
    simpa [tends] using this.symm
  have x1 : xop ops ops[k + 1] = ⟨some p, .indexAddr t (.tmp d) (.tmp n), none⟩ := by
    have := hat _ _ o1
    rw [List.getElem?_append_right (by omega), show k + 1 - lp.length = 1 by omega] at this
    simpa [tends] using this.symm
  have x2 : xop ops ops[k + 2] = ⟨none, .store e (.tmp p) (.tmp x), none⟩ := by
    have := hat _ _ o2
    rw [List.getElem?_append_right (by omega), show k + 2 - lp.length = 2 by omega] at this
    simpa [tends] using this.symm
  have x3 : xop ops ops[k + 3] = ⟨none, .store t (.tmp q) (.tmp d), none⟩ := by
    have := hat _ _ o3
    rw [List.getElem?_append_right (by omega), show k + 3 - lp.length = 3 by omega] at this
    simpa [tends] using this.symm
  rw [haf _ _ o0] at t0 t5
  rw [haf _ _ o1] at t0 t1 t6
  rw [haf _ _ o2] at t0 t2 t3 t7
  rw [haf _ _ o3] at t0 t4 t8
  have hol : ∀ (i : Nat) (o : Oper), i < k → ops[i]? = some o → (lp.getD i default) = xop ops o := by
    intro i o hik ho
    have := hat i o ho
    rw [List.getElem?_append_left (by omega)] at this
    rw [List.getD_eq_getElem?_getD, this]; rfl
  have hlenpl : pl.length = k := by have := congrArg List.length g1; simpa [← hkl] using this
  have hfst : ∀ x (hx : x < pl.length), pl[x].1 = x := by
    intro x hx
    have : (pl.map (·.1))[x]'(by simpa using hx) = (List.range' 0 lp.length)[x]'(by simp; omega) := by simp only [g1]
    simpa using this
  refine wp_region_any hm ?_
  have main := draw_prefix (N := N) (rest := 4) (Q := Q) (k := k) htt (by omega) hdd hol (fun i o hik ho j hj => ?_) (fun i o ho hki j hj => ?_) k (Array.replicate ops.size false) pl env H env' H' G a w.drew (by simp) (fun j hj1 hj2 => by simp [Array.getD_eq_getD_getElem?, Array.getElem?_replicate, hj2]) (fun j => ?_) ?_ ?_ hlenpl.symm g2 (Sim.drew hS) hE had
    fun G' a' w' ls k1 k2 k3 k4 k5 k6 => draw_tail htt hsize o0 o1 o2 o3 x0 x1 x2 x3 t1 t2 t3 t4 t5 t6 t7 t8 (hdd _ (Array.mem_of_getElem? o0) d (by have := congrArg XOp.dst x0; simpa [xop] using this)) (hdd _ (Array.mem_of_getElem? o1) p (by have := congrArg XOp.dst x1; simpa [xop] using this)) hi hu hj hi1 hj0 q1 q2 q3 q4 q5 q6 q7 q8 q9 q10 q11 q12 n1 n2 n3 n4 n5 n6 k2 k3 k4 k5 k6
      fun G'' a'' w'' j1 j2 j3 j4 => hk G'' a'' w'' _ _ (k1.trans j1) j2 j3 j4 q13
  · rw [hsize] at main ⊢; exact main
  · have := (hck i hik).1 j (by rw [haf' i o hik ho]; exact hj)
    exact this
  · have hlt := (Array.getElem?_eq_some_iff.1 ho).1
    have := t0 j hj
    rcases (show i = k ∨ i = k + 1 ∨ i = k + 2 ∨ i = k + 3 by omega) with rfl | rfl | rfl | rfl
    · rw [o0] at ho; cases ho; exact this.1.1.1
    · rw [o1] at ho; cases ho; exact this.1.1.2
    · rw [o2] at ho; cases ho; exact this.1.2
    · rw [o3] at ho; cases ho; exact this.2
  · rw [g1, List.mem_range']
    simp only [Array.getD_eq_getD_getElem?]
    constructor
    · rintro ⟨m, hm', rfl⟩
      have : 0 + 1 * m = m := by omega
      rw [this]
      exact ⟨by omega, by simp [Array.getElem?_replicate, show m < ops.size by omega]⟩
    · intro hj
      exact ⟨j, by omega, by omega⟩
  · rw [g1]; exact List.pairwise_lt_range'
  · refine List.pairwise_iff_getElem.2 fun x y hx hy hxy => ?_
    have hpx := g5 pl[x] (List.getElem_mem hx)
    have hpy := g5 pl[y] (List.getElem_mem hy)
    rw [hfst x hx] at hpx ⊢
    rw [hfst y hy] at hpy ⊢
    have hyo : ops[y]? = some ops[y] := Array.getElem?_eq_getElem (by omega)
    by_cases hin : x ∈ afters ops[y]
    · exact .inl ⟨_, hyo, hin⟩
    · refine .inr ⟨?_, ?_⟩
      · rcases (hck y (by omega)).2 x hxy with h1 | h1
        · rw [haf' y _ (by omega) hyo] at h1
          exact absurd (by simpa using h1) hin
        · exact h1
      · by_cases hc : kclash pl[x].2.touch.kind pl[y].2.touch.kind = true
        · rw [← hpx, ← hpy]
          refine dclear_spec g6 (x, y) ?_
          simp only [dpairs, List.mem_flatMap, List.mem_range, List.mem_map, List.mem_filter]
          have hkx := g3 pl[x] (List.getElem_mem hx)
          have hky := g3 pl[y] (List.getElem_mem hy)
          rw [hfst x hx] at hkx
          rw [hfst y hy] at hky
          refine ⟨y, by omega, x, ⟨hxy, ?_⟩, rfl⟩
          rw [haf' y _ (by omega) hyo]
          simp only [Bool.and_eq_true, Bool.not_eq_true', List.contains_eq_mem, decide_eq_false_iff_not]
          refine ⟨hin, ?_⟩
          rcases hkx with h1 | h1
          · rw [h1] at hc; simp [Touch.kind, kclash] at hc
          · rcases hky with h2 | h2
            · rw [h2] at hc; exact absurd hc (by rw [show Touch.kind .none = 0 from rfl, kclash_zero]; simp)
            · rw [← h1, ← h2]; exact hc
        · exact Touch.indep_of (by simpa using hc)
end
end Go.Ai
