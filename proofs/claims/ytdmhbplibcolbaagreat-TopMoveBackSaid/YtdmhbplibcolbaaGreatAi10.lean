/- A part of the proof: no statement of the seat is proved in this text. -/
import Derived.Test.YtdmhbplibcolbaaGreatAi7
import Derived.Laws.RangeString
set_option linter.unusedVariables false
set_option linter.unusedSimpArgs false
namespace Go.Ai
open Go Go.RowKit
structure AH.Eqv (H H' : AH) : Prop where
  n : H'.n = H.n
  m : H'.m = H.m
  obj : ∀ i, H'.obj i = H.obj i
  tok : ∀ t, H'.tok t = H.tok t
theorem Sim.congr {w0 : World} {G : Gh} {H H' : AH} {w : World} (h : Sim w0 G H w) (e : H.Eqv H') : Sim w0 G H' w := by
  refine ⟨h.below, h.K, ?_, ?_, ?_, ?_, ?_⟩
  · intro i hi; rw [e.n] at hi; rw [e.obj]; exact h.obN i hi
  · intro i o ho; rw [e.obj] at ho; exact h.obs i o ho
  · intro i j b hi hj; rw [e.obj] at hi hj; exact h.inj i j b hi hj
  · intro t ht; rw [e.m] at ht; rw [e.tok]; exact h.tkN t ht
  · intro t n ht
    rw [e.tok] at ht
    obtain ⟨x, h1, h2, h3, h4⟩ := h.tks t n ht
    exact ⟨x, h1, h2, h3, fun b hb => ⟨(h4 b hb).1, fun i hi => (h4 b hb).2.1 i (by rwa [e.obj] at hi), fun t' x' hne ht' => (h4 b hb).2.2 t' x' hne (by rwa [e.tok] at ht')⟩⟩
section
variable {P : Program} {w0 : World} {tt : TT} {env : Env} {H : AH} {ty : TypeId}
theorem Sim.newRow {G : Gh} {w w' : World} (hS : Sim w0 G H w) (hg : w.grownBy w' none) {e : TypeId} {cur : Array Value} (hb : w'.heap[w.heap.size]? = some (.cells cur e (0, 0))) {l : List AV} {vs : List Value} {sz cap : Nat}
    (hu : ∀ y, y ∈ l → y.cells.length = sz) (hr : RepL G (flat l) vs) (hp : cur.toList.take vs.length = vs) (hc : l.length ≤ cap) (h48 : l.length ≤ 281474976710656) :
    Sim w0 (G.addK w.heap.size vs) H w' ∧ G.le (G.addK w.heap.size vs) ∧ Rep (G.addK w.heap.size vs) (.slice l) (.slice (some ⟨w.heap.size, 0, none⟩) l.length cap) := by
  have hcell : ∀ (o : Nat) (v : Value), vs[o]? = some v → w'.cell? ⟨w.heap.size, o, none⟩ = some v := by
    intro o v hv
    have hlt : o < vs.length := (List.getElem?_eq_some_iff.1 hv).1
    rw [← hp, List.getElem?_take, if_pos hlt] at hv
    simpa [World.cell?, hb] using hv
  obtain ⟨h1, h2⟩ := (hS.frame hg).addImm (hS.fresh (Nat.le_refl _)) hcell
  exact ⟨h1, h2, Rep.slice_mk (RepK.of_new hr h2) hu hc h48⟩
theorem Sim.newOwn {G : Gh} {w w' : World} (hS : Sim w0 G H w) (hg : w.grownBy w' none) {e : TypeId} {l : List AV} {vs : List Value} {sz cap : Nat} (hs0 : 0 < sz)
    (ho : w'.ownsRow w0.heap.size e sz (.slice (some ⟨w.heap.size, 0, none⟩) l.length cap) l.length vs) (hu : ∀ y, y ∈ l → y.cells.length = sz) (hr : RepL G (flat l) vs) (h48 : l.length ≤ 281474976710656) :
    ∃ G', Sim w0 G' (H.pushTok ⟨l.length, e, sz⟩) w' ∧ G.le G' ∧ Rep G' (.own l H.m) (.slice (some ⟨w.heap.size, 0, none⟩) l.length cap) := by
  rcases ho.2 with ⟨h, _⟩ | ⟨g, cap', cur, hv, hbB, hb, hnc, hcm, hcs, htake⟩
  · cases h
  · simp only [Value.slice.injEq, Option.some.injEq, Addr.mk.injEq] at hv
    obtain ⟨⟨rfl, _, _⟩, _, rfl⟩ := hv
    have hvl : vs.length = l.length * sz := ho.1
    obtain ⟨h1, h2, h3⟩ := hS.newRow hg hb hu hr (by rw [hvl]; exact htake) hnc h48
    have hf := hS.fresh (Nat.le_refl w.heap.size)
    obtain ⟨h4, h5⟩ := h1.addTok (x := ⟨.slice (some ⟨w.heap.size, 0, none⟩) l.length cap, l.length, e, sz, vs⟩) ho (fun b hb' => by
      simp [Value.ownBlock] at hb'; subst hb'
      refine ⟨fun o ho' => ?_, hf.ob, fun t' x' ht' hx' => hf.tk t' x' ht' hx'⟩
      simp only [Gh.addK, if_true]
      exact List.getElem?_eq_none (by rw [hvl]; exact ho'))
    exact ⟨_, h4, h2.trans h5, .own _ _ _ _ (by simp [Gh.addTk]; rfl) (by simp) (fun _ => rfl) hu (h3.mono h5)⟩
theorem src_cells {G : Gh} {w : World} (hS : Sim w0 G H w) {ys : List AV} {v : Value} {sz : Nat} (h : Rep G (.slice ys) v) (hu : ∀ y, y ∈ ys → y.cells.length = sz ∧ y.cells.all AV.scal = true) (hne : ys ≠ []) :
    ∃ (a : Addr) (c : Nat) (news : List Value), v = .slice (some a) ys.length c ∧ RepL G (flat ys) news ∧ (∀ (j : Nat) (u : Value), news[j]? = some u → w.cell? (a.add j) = some u) ∧ (∀ u ∈ news, u.oneCell' = true) ∧ news.length = ys.length * sz := by
  rcases h.slice_inv with ⟨_, h0⟩ | ⟨b, off, cap, sz', hv, _, _, _, hr⟩ | ⟨_, _, _, h0⟩
  · exact absurd h0 hne
  rotate_left
  · exact absurd h0 hne
  · obtain ⟨vs, h1, h2, h3⟩ := hr.cells hS
    refine ⟨⟨b, off, none⟩, cap, vs, hv, h1, h2, fun u hu' => ?_, ?_⟩
    · obtain ⟨j, hj, rfl⟩ := List.getElem_of_mem hu'
      have hj2 : j < (flat ys).length := by rw [h1.1]; exact hj
      refine (h1.2 j _ _ (List.getElem?_eq_getElem hj2) (List.getElem?_eq_getElem hj)).one ?_
      have hm : (flat ys)[j] ∈ flat ys := List.getElem_mem hj2
      simp only [flat, List.mem_flatMap] at hm
      obtain ⟨y, hy, hc⟩ := hm
      have := (hu y hy).2
      simp at this
      exact this _ hc
    · rw [← h1.1, flat_length (fun y hy => (hu y hy).1)]
theorem run_append_zero {t ty e : TypeId} {i : TypeInfo} (ht : P.underlying t = some (.slice e)) (hi : P.info? e = some i) {w : World} {v s : Value} (hv : (v = .slice none 0 0) ∨ ∃ a n cap, v = .slice (some a) n cap ∧ n ≤ cap)
    (hs : s = .slice none 0 0 ∨ ∃ a c, s = .slice (some a) 0 c) : (Builtin.append_ #[t, t] ty #[v, s]).run P w = .ok v w := by
  rcases hv with rfl | ⟨a, n, cap, rfl, hn⟩ <;> rcases hs with rfl | ⟨a', c, rfl⟩
  · simp [Builtin.append_, run_underlying ht, sizeOf, typeInfo, hi, Builtin.lenOf, Builtin.firstCells]
  · simp [Builtin.append_, run_underlying ht, sizeOf, typeInfo, hi, Builtin.lenOf, Builtin.firstCells, loadCells, loadCellsFrom]
  · simp [Builtin.append_, run_underlying ht, sizeOf, typeInfo, hi, Builtin.lenOf, Builtin.firstCells, hn, storeCells]
  · simp [Builtin.append_, run_underlying ht, sizeOf, typeInfo, hi, Builtin.lenOf, Builtin.firstCells, loadCells, loadCellsFrom, hn, storeCells]
theorem exec_append {t : TypeId} {x y : Operand} {a : Act} {w w' : World} {o : Oper} {v : Value} (ho : o.op = .call { callee := .builtin .append, args := #[x, y], argTypes := #[t, t] })
    (h : (Builtin.append_ #[t, t] o.type #[a.eval x, a.eval y]).run P w = .ok v w') : (execOp a.eval o).run P w = .ok (.value v) w' := by
  simp [execOp, ho, resolve, invoke, builtin, h]
theorem slice_form {G : Gh} {l : List AV} {v : Value} (h : Rep G (.slice l) v) : (v = .slice none 0 0) ∨ ∃ a n cap, v = .slice (some a) n cap ∧ n ≤ cap := by
  rcases h.slice_inv with ⟨h, _⟩ | ⟨b, off, cap, sz, h, hc, _⟩ | ⟨a, cap, h, _⟩
  · exact .inl h
  · exact .inr ⟨_, _, _, h, hc⟩
  · exact .inr ⟨a, 0, cap, h, Nat.zero_le _⟩
theorem zero_form {G : Gh} {v : Value} (h : Rep G (.slice []) v) : v = .slice none 0 0 ∨ ∃ a c, v = .slice (some a) 0 c := by
  rcases h.slice_inv with ⟨h, _⟩ | ⟨b, off, cap, sz, h, hc, _⟩ | ⟨a, cap, h, _⟩
  · exact .inl h
  · exact .inr ⟨_, _, h⟩
  · exact .inr ⟨a, cap, h⟩
theorem ok_append_own (htt : TtOk P tt) (t : TypeId) (x y : Operand) (i j : TyI) (e : TypeId) (hi : tt t = some i) (hu : i.u = .slice e) (hj : tt e = some j) (l ys : List AV) (tk : Nat) (hx : aev env x = .own l tk)
    (hy : (aev env y).elems = some ys) (htok : H.tok tk = some ⟨l.length, e, j.size⟩) (hys : ∀ z, z ∈ ys → z.cells.length = j.size ∧ z.cells.all AV.scal = true) (hs0 : 0 < j.size)
    (hb : (l.length + ys.length) * j.bytes ≤ 140737488355328) (hb48 : l.length + ys.length ≤ 281474976710656) :
    OpOk P w0 env H (.call { callee := .builtin .append, args := #[x, y], argTypes := #[t, t] }) ty (.own (l ++ ys) tk) (H.putTok tk ⟨(l ++ ys).length, e, j.size⟩) := by
  intro G N a w o hS hE ho hty
  obtain ⟨f, z, h1, h2, h3, h4, h5, h6, h7⟩ := (htt e j hj).info
  have hut := (htt t i hi).u
  rw [hu] at hut
  have hrx := hE.eval x
  rw [hx] at hrx
  have hry := (hE.eval y).elems hy
  by_cases hne : ys = []
  · subst hne
    refine ⟨.value (a.eval x), a.eval x, w, G, exec_append ho (run_append_zero hut h1 (slice_form hrx.forget) (zero_form hry)), rfl, .refl G, hS.congr ⟨rfl, rfl, fun _ => rfl, fun s => ?_⟩, by simpa using hrx⟩
    rw [tok_putTok]
    split
    · rename_i e'; subst e'; rw [htok]; simp
    · rfl
  · obtain ⟨ad, c, news, k1, k2, k3, k4, k5⟩ := src_cells hS hry hys hne
    rw [← h2] at hys htok hs0
    rw [← h3] at hb
    obtain ⟨v', w', G', hrun, hle, hS', hr'⟩ := hS.append (P := P) t o.type e f z hut h1 h4 (by rw [h5, h2]) hs0 htok hrx (a := ad) (c := c) (fun q hq => (hys q hq).1) k2 k3 k4 (List.length_pos_iff.2 hne) hb hb48
    refine ⟨.value v', v', w', G', exec_append ho (by rw [k1]; exact hrun), rfl, hle, ?_, hr'⟩
    rw [List.length_append, ← h2]
    exact hS'
theorem ok_append_nil (htt : TtOk P tt) (t : TypeId) (x y : Operand) (i j : TyI) (e : TypeId) (hi : tt t = some i) (hu : i.u = .slice e) (hj : tt e = some j) (ys : List AV) (hx : aev env x = .nilS)
    (hy : (aev env y).elems = some ys) (hys : ∀ z, z ∈ ys → z.cells.length = j.size ∧ z.cells.all AV.scal = true) (hs0 : 0 < j.size)
    (hb : ys.length * j.bytes ≤ 140737488355328) (hb48 : ys.length ≤ 281474976710656) :
    OpOk P w0 env H (.call { callee := .builtin .append, args := #[x, y], argTypes := #[t, t] }) ty (.own ys H.m) (H.pushTok ⟨ys.length, e, j.size⟩) := by
  intro G N a w o hS hE ho hty
  obtain ⟨f, z, h1, h2, h3, h4, h5, h6, h7⟩ := (htt e j hj).info
  have hut := (htt t i hi).u
  rw [hu] at hut
  have hrx := hE.eval x
  rw [hx] at hrx
  have hry := (hE.eval y).elems hy
  have ex : a.eval x = .slice none 0 0 := by
    generalize a.eval x = v at hrx; cases hrx; rfl
  by_cases hne : ys = []
  · subst hne
    obtain ⟨h8, h9⟩ := hS.addTok (x := ⟨.slice none 0 0, 0, e, j.size, []⟩) (World.ownsRow_nil w _ _ _) (fun b hb => by simp [Value.ownBlock] at hb)
    refine ⟨.value (a.eval x), a.eval x, w, _, exec_append ho (run_append_zero hut h1 (.inl ex) (zero_form hry)), rfl, h9, h8, ?_⟩
    rw [ex]
    exact .own _ _ _ _ (by simp [Gh.addTk]; rfl) (by simp) (fun _ => rfl) (by simp) .sliceNil
  · obtain ⟨ad, c, news, k1, k2, k3, k4, k5⟩ := src_cells hS hry hys hne
    have hl := List.length_pos_iff.2 hne
    obtain ⟨v', w', hrun, hown, hg⟩ := run_append2 (P := P) (w := w) w0.heap.size t o.type e f z hut h1 h4 (by rw [h5, h2]) (by rw [h2]; exact hs0) (.slice none 0 0) 0 [] (World.ownsRow_nil w _ _ _) ad ys.length c news (by rw [k5, h2]) k3 k4 hl (by omega) (by rw [h3]; simpa using hb) hS.below.size
    rcases hg with ⟨_, hn, _⟩ | ⟨hob, hg⟩
    · simp [Value.ownBlock] at hn
    · simp only [Nat.zero_add, List.nil_append] at hown
      obtain ⟨cap, hv'⟩ : ∃ cap, v' = .slice (some ⟨w.heap.size, 0, none⟩) ys.length cap := by
        rcases hown.2 with ⟨_, h0⟩ | ⟨g, cap, cur, hv, _⟩
        · omega
        · rw [hv] at hob; simp [Value.ownBlock] at hob; subst hob; exact ⟨cap, hv⟩
      subst hv'
      rw [h2] at hown
      obtain ⟨G', h8, h9, h10⟩ := hS.newOwn hg hs0 hown (fun q hq => (hys q hq).1) k2 hb48
      exact ⟨.value _, _, w', G', exec_append ho (by rw [ex, k1]; exact hrun), rfl, h9, h8, h10⟩
theorem ok_append_lit (htt : TtOk P tt) (t : TypeId) (x y : Operand) (i j : TyI) (e : TypeId) (hi : tt t = some i) (hu : i.u = .slice e) (hj : tt e = some j) (l ys : List AV) (hx : aev env x = .lit l)
    (hy : (aev env y).elems = some ys) (hl0 : ∀ z, z ∈ l → z.cells.length = j.size) (hys : ∀ z, z ∈ ys → z.cells.length = j.size ∧ z.cells.all AV.scal = true) (hs0 : 0 < j.size)
    (hb : (l.length + ys.length) * j.bytes ≤ 140737488355328) (hb48 : l.length + ys.length ≤ 281474976710656) :
    OpOk P w0 env H (.call { callee := .builtin .append, args := #[x, y], argTypes := #[t, t] }) ty (.slice (l ++ ys)) H := by
  intro G N a w o hS hE ho hty
  obtain ⟨f, z, h1, h2, h3, h4, h5, h6, h7⟩ := (htt e j hj).info
  have hut := (htt t i hi).u
  rw [hu] at hut
  have hrx := hE.eval x
  rw [hx] at hrx
  have hry := (hE.eval y).elems hy
  by_cases hne : ys = []
  · subst hne
    exact ⟨.value (a.eval x), a.eval x, w, G, exec_append ho (run_append_zero hut h1 (slice_form hrx.forget) (zero_form hry)), rfl, .refl G, hS, by rw [List.append_nil]; exact hrx.forget⟩
  · obtain ⟨ad, c, news, k1, k2, k3, k4, k5⟩ := src_cells hS hry hys hne
    have hl := List.length_pos_iff.2 hne
    obtain ⟨v, hv⟩ : ∃ v, v = a.eval x := ⟨_, rfl⟩
    rw [← hv] at hrx
    cases hrx with
    | lit _ A hrs =>
      rcases hrs.slice_inv with ⟨hn, hl'⟩ | ⟨b, off, cap, sz, hn, hc, _, hun, hr⟩ | ⟨ad', cap, hn, hl'⟩
      rotate_left 2
      · subst hl'
        simp only [Value.slice.injEq] at hn
        obtain ⟨rfl, _, _⟩ := hn
        have hrun := run_append_grow (P := P) w t o.type e f z hut h1 h4 ad' 0 0 [] (by simp) (by simp) ad ys.length c news (by rw [k5, h2]) k3 (by omega) (by omega) (growslice_fits (by omega) (by rw [h3]; simpa using hb))
        have hge := grownCap_ge w ys.length 0 e
        obtain ⟨g1, g2, g3⟩ := hS.newRow (w' := w.drew.alloc (.cells (news.toArray ++ Builtin.zeroCells z.cells (grownCap w ys.length 0 e - ys.length)) e)) (l := ys) (vs := news) (sz := j.size) (cap := grownCap w ys.length 0 e)
          ⟨rfl, rfl, rfl, by simp, fun k hk _ => Below.heap_alloc w.drew _ k hk⟩ (heap_alloc_new w.drew _) (fun q hq => (hys q hq).1) k2 (by simp) hge (by simpa using hb48)
        refine ⟨.value _, _, _, _, exec_append ho (by rw [← hv, k1]; simpa using hrun), rfl, g2, g1, ?_⟩
        simpa using g3
      · simp only [Value.slice.injEq] at hn
        obtain ⟨rfl, h0, _⟩ := hn
        have hrun := run_append_nil (P := P) w t o.type e f z hut h1 h4 ad ys.length c news (by rw [k5, h2]) k3 hl (by omega) (by rw [h3]; rw [h0] at hb; simp at hb; omega)
        have hge := grownCap_ge w ys.length 0 e
        obtain ⟨g1, g2, g3⟩ := hS.newRow (w' := w.drew.alloc (.cells (news.toArray ++ Builtin.zeroCells z.cells (grownCap w ys.length 0 e - ys.length)) e)) (l := l ++ ys) (vs := news) (sz := j.size) (cap := grownCap w ys.length 0 e)
          ⟨rfl, rfl, rfl, by simp, fun k hk _ => Below.heap_alloc w.drew _ k hk⟩ (heap_alloc_new w.drew _) (by rw [hl']; simpa using fun q hq => (hys q hq).1) (by rw [hl']; simpa using k2) (by simp) (by rw [hl']; simpa using hge) (by rw [hl']; simp; omega)
        refine ⟨.value _, _, _, _, exec_append ho (by rw [← hv, h0, k1]; exact hrun), rfl, g2, g1, ?_⟩
        rw [hl'] at g3 ⊢
        simpa using g3
      · simp only [Value.slice.injEq] at hn
        obtain ⟨rfl, _, hcap⟩ := hn
        obtain ⟨olds, q1, q2, q3⟩ := hr.cells hS
        have hol : olds.length = l.length * f.size := by rw [← q1.1, flat_length hl0, h2]
        have hrun := run_append_grow (P := P) w t o.type e f z hut h1 h4 ⟨b, off, none⟩ l.length l.length olds hol q2 ad ys.length c news (by rw [k5, h2]) k3 (by omega) (by omega) (growslice_fits (by omega) (by rw [h3]; exact hb))
        have hge := grownCap_ge w (l.length + ys.length) l.length e
        have hua : ∀ q, q ∈ l ++ ys → q.cells.length = j.size := fun q hq => by
          rcases List.mem_append.1 hq with hq | hq
          · exact hl0 q hq
          · exact (hys q hq).1
        obtain ⟨g1, g2, g3⟩ := hS.newRow (w' := w.drew.alloc (.cells (olds.toArray ++ news.toArray ++ Builtin.zeroCells z.cells (grownCap w (l.length + ys.length) l.length e - (l.length + ys.length))) e)) (l := l ++ ys) (vs := olds ++ news) (sz := j.size) (cap := grownCap w (l.length + ys.length) l.length e)
          ⟨rfl, rfl, rfl, by simp, fun k hk _ => Below.heap_alloc w.drew _ k hk⟩ (heap_alloc_new w.drew _) hua (by rw [flat_append]; exact q1.append k2) (by simp [List.take_append]; exact List.take_of_length_le (by omega)) (by rw [List.length_append]; exact hge) (by rw [List.length_append]; omega)
        rw [List.length_append] at g3
        exact ⟨.value _, _, _, _, exec_append ho (by rw [← hv, k1]; exact hrun), rfl, g2, g1, g3⟩
end
section
variable {P : Program} {w0 : World} {tt : TT} {env : Env} {H : AH} {ty : TypeId}
theorem ok_buildSlice_own (htt : TtOk P tt) (t : TypeId) (i : TyI) (hi : tt t = some i) (e : TypeId) (j : TyI) (hj : tt e = some j) (hu : i.u = .slice e) (n : Nat) (parts : Array (Nat × Operand))
    (hp : parts.toList.map (·.1) = List.range' 0 n) (hv : ∀ x, x ∈ parts.toList.map (fun p => aev env p.2) → x.cells.length = j.size ∧ x.cells.all AV.scal = true) (hlim : n * j.size ≤ 16777216) (hj0 : 0 < j.size) :
    OpOk P w0 env H (.buildSlice t n parts) ty (.own (parts.toList.map fun p => aev env p.2) H.m) (H.pushTok ⟨(parts.toList.map fun p => aev env p.2).length, e, j.size⟩) := by
  intro G N a w oo hS hE ho hty
  obtain ⟨f, z, h1, h2, h3, h4, h5, h6, h7⟩ := (htt e j hj).info
  have hut := (htt t i hi).u
  rw [hu] at hut
  have hn : (parts.toList.map fun p => aev env p.2).length = n := by
    have := congrArg List.length hp; simpa using this
  have henum : ∀ (ps : List (Nat × Operand)) (k : Nat), ps.map (·.1) = List.range' k ps.length → ps.map (fun p => (p.1, aev env p.2)) = enumF k (ps.map fun p => aev env p.2) := by
    intro ps
    induction ps with
    | nil => intro k _; rfl
    | cons p ps ih =>
      intro k hk
      simp [List.range'_succ] at hk
      simp [enumF, hk.1, ih (k + 1) hk.2]
  have hen := henum parts.toList 0 (by rw [hp]; congr 1; simpa using hn.symm)
  let zs : Array Value := (Array.range (n * j.size)).map ((if n * j.size = 0 then #[] else z.cells)[· % (if n * j.size = 0 then #[] else z.cells).size]!)
  have hzs : zs.toList.length = n * j.size := by simp [zs]
  have hfill := afill_seq j.size (parts.toList.map fun p => aev env p.2) [] (List.replicate (n * j.size) .any) (by simp) hv (by simp [hn])
  obtain ⟨us, k1, k2⟩ := fill_rep (G := G) (parts.toList.map fun p => (p.1, aev env p.2)) (parts.toList.map fun p => (p.1, a.eval p.2)) (List.replicate (n * j.size) .any) (flat (parts.toList.map fun p => aev env p.2)) zs
    (by rw [hen]; simpa [flat_nil] using hfill) (by have := RepL.anys G zs.toList; rwa [hzs] at this) (by simp) (by
    intro j x p hx hp
    simp only [List.getElem?_map, Option.map_eq_some_iff] at hx hp
    obtain ⟨q, hq, rfl⟩ := hx
    obtain ⟨q', hq', rfl⟩ := hp
    rw [hq] at hq'; simp at hq'; subst hq'
    exact ⟨rfl, hE.eval _⟩)
  have hun : ∀ x, x ∈ (parts.toList.map fun p => aev env p.2) → x.cells.length = j.size := fun x hx => (hv x hx).1
  have hn24 : n ≤ 16777216 := Nat.le_trans (Nat.le_mul_of_pos_right n hj0) hlim
  have husz : us.toList.length = n * j.size := by rw [← k2.1, flat_length hun, hn]
  obtain ⟨G', g1, g2, g3⟩ := hS.newOwn (w' := w.alloc (.cells us e)) (e := e) (l := parts.toList.map fun p => aev env p.2) (vs := us.toList) (sz := j.size) (cap := n) (World.grownBy_alloc w _ _) hj0
    ⟨by rw [husz, hn], .inr ⟨w.heap.size, n, us, by rw [hn], hS.below.size, heap_alloc_new w _, by omega, by simp [maxLen]; omega, by simpa using husz, by rw [hn, ← husz]; exact List.take_length⟩⟩ hun k2 (by omega)
  rw [hn] at g3
  refine ⟨.value (.slice (some ⟨w.heap.size, 0, none⟩) n n), .slice (some ⟨w.heap.size, 0, none⟩) n n, _, _, ?_, rfl, g2, g1, g3⟩
  · have hz : (sizeOf e).run P w = .ok j.size w := by simp [sizeOf, typeInfo, h1, h2]
    have hl24 : ¬ (n * j.size > 2 ^ 24) := by omega
    have hzr : ((if n * j.size = 0 then Pure.pure #[] else do Pure.pure (← zeroValue e).cells : Sem (Array Value))).run P w = .ok (if n * j.size = 0 then #[] else z.cells) w := by
      split <;> simp [zeroValue, typeInfo, h1, h4]
    have k1' : Instr.fill (fun i => some (i * j.size, j.size)) zs (parts.map fun (i, x) => (i, a.eval x)).toList = some us := by
      rw [← k1]; congr 1; simp
    simp only [execOp, ho, Instr.buildSlice, Sem.run_bind, run_underlying hut, Result.andThen_ok, hz, if_neg hl24, hzr]
    have e1 : (parts.map fun x => (x.1, a.eval x.2)) = parts.map fun (i, x) => (i, a.eval x) := rfl
    by_cases h0 : n * j.size = 0
    · have hz0 : zs = (Array.range (n * j.size)).map (fun x => (#[] : Array Value)[x % (#[] : Array Value).size]!) := by simp only [zs, if_pos h0]
      rw [hz0] at k1'
      simp only [if_pos h0, Sem.run_bind, Sem.run_pure, Result.andThen_ok]
      rw [e1, k1']
      simp [newRow]
    · have hz0 : zs = (Array.range (n * j.size)).map (fun x => z.cells[x % z.cells.size]!) := by simp only [zs, if_neg h0]
      rw [hz0] at k1'
      simp only [if_neg h0, Sem.run_bind, Sem.run_pure, Result.andThen_ok, zeroValue, typeInfo]
      simp only [program, Sem.run, Sem.run_bind, Sem.run_pure, Result.andThen_ok, h1, h4]
      rw [e1, k1']
      simp [newRow]
end
theorem decode_lt (s : ByteArray) (i : Nat) : (Utf8.decode s i).1 < 2147483648 := by
  have hb : ∀ k, (s.get! k).toNat < 256 := fun k => UInt8.toNat_lt _
  have h0 := hb (i + 0); have h1 := hb (i + 1); have h2 := hb (i + 2); have h3 := hb (i + 3)
  simp only [Utf8.decode]
  repeat' split
  all_goals simp only [Utf8.runeError] <;> omega
section
variable {P : Program} {w0 : World} {tt : TT} {env : Env} {H : AH} {ty : TypeId}
theorem ok_range (htt : TtOk P tt) (t : TypeId) (x : Operand) (i : TyI) (hi : tt t = some i) (hu : i.u = .string) (s : ByteArray) (hx : aev env x = .str s) :
    OpOk P w0 env H (.range t x) ty (.ptr H.n 0) (H.push (.iter s 0)) := by
  intro G N a w o hS hE ho ht
  have hv := hE.eval x
  rw [hx] at hv
  obtain ⟨v, hveq⟩ : ∃ v, v = a.eval x := ⟨_, rfl⟩
  rw [← hveq] at hv
  cases hv with
  | str _ hs =>
    obtain ⟨hS', hle⟩ := (hS.frame (World.grownBy_alloc w (.stringIter s 0) _)).addObj (o := .iter s 0) (hS.fresh (Nat.le_refl _)) hS.below.size (heap_alloc_new w _)
    refine ⟨.value (.pointer (some ⟨w.heap.size, 0, none⟩)), .pointer (some ⟨w.heap.size, 0, none⟩), _, _, ?_, rfl, hle, hS', .ptr _ _ _ (by simp [Gh.addOb])⟩
    have hut : P.underlying t = some .string := by rw [← hu]; exact (htt t i hi).u
    simp [execOp, ho, ← hveq, run_range_string w t s hut, World.iter]
theorem Sim.iterAt {G : Gh} {w : World} (hS : Sim w0 G H w) {id b : Nat} {s : ByteArray} {pos : Nat} (ho : H.obj id = some (.iter s pos)) (hb : G.ob id = some b) : w.heap[b]? = some (.stringIter s pos) := by
  obtain ⟨b', h1, h2, h3, h6⟩ := hS.obs id _ ho
  rw [hb] at h1; simp at h1; subst h1
  exact h3
theorem ok_next_more (x : Operand) (id : Nat) (hx : aev env x = .ptr id 0) (s : ByteArray) (pos : Nat) (ho : H.obj id = some (.iter s pos)) (hp : pos < s.size) (hb : s.size ≤ 281474976710656) :
    OpOk P w0 env H (.next x true) ty (.tup [.bool true, .int .i64 pos, .int .i32 (Utf8.decode s pos).1]) (H.put id (.iter s (pos + (Utf8.decode s pos).2))) := by
  intro G N a w o hS hE hoo ht
  have hv := hE.eval x
  rw [hx] at hv
  obtain ⟨b, hv, hob⟩ := ptr_inv hv
  have hit := hS.iterAt ho hob
  have hlt := heap_lt hit
  let w' : World := { w with heap := w.heap.setIfInBounds b (.stringIter s (pos + (Utf8.decode s pos).2)) }
  have hg : w.grownBy w' (some b) := ⟨rfl, rfl, rfl, by simp [w'], fun k hk hne => by
    show (w.heap.setIfInBounds b _)[k]? = _
    rw [Array.getElem?_setIfInBounds_ne (fun e => hne (by rw [e]))]⟩
  have hd := decode_lt s pos
  refine ⟨.value (.tuple #[.bool true, .int .i64 pos, .int .i32 (Utf8.decode s pos).1]), _, w', G, ?_, rfl, .refl G, hS.setObj ho hob hg (o' := .iter s (pos + (Utf8.decode s pos).2)) (show (w.heap.setIfInBounds b _)[b]? = _ from Array.getElem?_setIfInBounds_self_of_lt hlt), ?_⟩
  · simp only [execOp, hoo, hv, Instr.next, getObj, setObj, Sem.run_bind, Sem.run, hit, Result.andThen, hp, if_true]
    simp [goInt, Sem.run, hlt, w']
  · refine .tup _ [.bool true, .int .i64 pos, .int .i32 (Utf8.decode s pos).1] rfl fun j c v h1 h2 => ?_
    match j, h1, h2 with
    | 0, h1, h2 => simp at h1 h2; subst h1; subst h2; exact .bool _
    | 1, h1, h2 =>
      simp at h1 h2; subst h1; subst h2
      exact .int _ _ (by simp [IntKind.wrap, IntKind.bits, IntKind.signed]; split <;> omega)
    | 2, h1, h2 =>
      simp at h1 h2; subst h1; subst h2
      exact .int _ _ (by simp [IntKind.wrap, IntKind.bits, IntKind.signed]; split <;> omega)
    | j + 3, h1, h2 => simp at h1
theorem ok_next_end (x : Operand) (id : Nat) (hx : aev env x = .ptr id 0) (s : ByteArray) (pos : Nat) (ho : H.obj id = some (.iter s pos)) (hp : ¬ pos < s.size) :
    OpOk P w0 env H (.next x true) ty (.tup [.bool false]) H := .pure fun G N a w o hS hE hoo ht => by
  have hv := hE.eval x
  rw [hx] at hv
  obtain ⟨b, hv, hob⟩ := ptr_inv hv
  have hit := hS.iterAt ho hob
  refine ⟨.tuple #[.bool false], ?_, .tup _ [.bool false] rfl fun j c v h1 h2 => ?_⟩
  · simp [execOp, hoo, hv, Instr.next, getObj, Sem.run, hit, hp]
  · match j, h1, h2 with
    | 0, h1, h2 => simp at h1 h2; subst h1; subst h2; exact .bool _
    | j + 1, h1, h2 => simp at h1
theorem ok_max (x y : Operand) (k : IntKind) (n m : Int) (hx : aev env x = .int k n) (hy : aev env y = .int k m) (ts : Array TypeId) :
    OpOk P w0 env H (.call { callee := .builtin .max, args := #[x, y], argTypes := ts }) ty (.int k (if m > n then m else n)) H := .pure fun G N a w o hS hE ho ht => by
  have h1 := hE.eval x
  have h2 := hE.eval y
  rw [hx] at h1
  rw [hy] at h2
  obtain ⟨v, hveq⟩ : ∃ v, v = a.eval x := ⟨_, rfl⟩
  obtain ⟨u, hueq⟩ : ∃ u, u = a.eval y := ⟨_, rfl⟩
  rw [← hveq] at h1
  rw [← hueq] at h2
  cases h1 with
  | int _ _ hw1 =>
    cases h2 with
    | int _ _ hw2 =>
      refine ⟨.int k (if m > n then m else n), ?_, .int _ _ (by split <;> assumption)⟩
      have e1 := hveq.symm
      have e2 := hueq.symm
      simp [execOp, ho, resolve, invoke, builtin, e1, e2, Builtin.max_, Builtin.max2]
end
end Go.Ai
