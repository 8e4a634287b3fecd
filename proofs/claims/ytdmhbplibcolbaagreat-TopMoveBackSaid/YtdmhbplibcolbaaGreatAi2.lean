/- A part of the proof: no statement of the seat is proved in this text. -/
import Derived.Test.YtdmhbplibcolbaaGreatAi1
set_option linter.unusedVariables false
set_option linter.unusedSimpArgs false
namespace Go.Ai
open Go Go.RowKit
def RepK (G : Gh) (b off : Nat) (cs : List AV) : Prop := ∀ (o : Nat) (c : AV), cs[o]? = some c → ∃ v, G.K b (off + o) = some v ∧ Rep G c v
theorem RepK.mono {G G' : Gh} (hle : G.le G') {b off : Nat} {cs : List AV} (h : RepK G b off cs) : RepK G' b off cs := fun o c hc =>
  let ⟨v, h1, h2⟩ := h o c hc; ⟨v, hle.K _ _ _ h1, h2.mono hle⟩
theorem Rep.slice_mk {G : Gh} {b off cap sz : Nat} {l : List AV} (h : RepK G b off (flat l)) (hu : ∀ x, x ∈ l → x.cells.length = sz) (hc : l.length ≤ cap) (hb : l.length ≤ 281474976710656) :
    Rep G (.slice l) (.slice (some ⟨b, off, none⟩) l.length cap) := by
  refine .slice l _ b off cap sz (fun o => (G.K b (off + o)).getD undef) rfl hc hb hu (fun o c hc => ?_) (fun o c hc => ?_)
  · obtain ⟨v, h1, h2⟩ := h o c hc; rw [h1]; rfl
  · obtain ⟨v, h1, h2⟩ := h o c hc; rw [h1]; exact h2
theorem Rep.rptr_mk {G : Gh} {b off : Nat} {cs : List AV} (h : RepK G b off cs) : Rep G (.rptr cs) (.pointer (some ⟨b, off, none⟩)) := by
  refine .rptr cs b off (fun o => (G.K b (off + o)).getD undef) (fun o c hc => ?_) (fun o c hc => ?_)
  · obtain ⟨v, h1, h2⟩ := h o c hc; rw [h1]; rfl
  · obtain ⟨v, h1, h2⟩ := h o c hc; rw [h1]; exact h2
theorem Rep.slice_inv {G : Gh} {l : List AV} {v : Value} (h : Rep G (.slice l) v) :
    (v = .slice none 0 0 ∧ l = []) ∨ (∃ b off cap sz, v = .slice (some ⟨b, off, none⟩) l.length cap ∧ l.length ≤ cap ∧ l.length ≤ 281474976710656 ∧ (∀ x, x ∈ l → x.cells.length = sz) ∧ RepK G b off (flat l)) ∨ ∃ a cap, v = .slice (some a) 0 cap ∧ l = [] := by
  cases h with
  | slice l n b off cap sz ws hn hc hb hu hk hr =>
    subst hn
    exact .inr (.inl ⟨b, off, cap, sz, rfl, hc, hb, hu, fun o c hc => ⟨ws o, hk o c hc, hr o c hc⟩⟩)
  | sliceNil => exact .inl ⟨rfl, rfl⟩
  | sliceE a cap => exact .inr (.inr ⟨a, cap, rfl, rfl⟩)
theorem Rep.rptr_inv {G : Gh} {cs : List AV} {v : Value} (h : Rep G (.rptr cs) v) : ∃ b off, v = .pointer (some ⟨b, off, none⟩) ∧ RepK G b off cs := by
  cases h with
  | rptr cs b off ws hk hr => exact ⟨b, off, rfl, fun o c hc => ⟨ws o, hk o c hc, hr o c hc⟩⟩
theorem Rep.len_le {G : Gh} {l : List AV} {v : Value} (h : Rep G (.slice l) v) : l.length ≤ 281474976710656 := by
  rcases h.slice_inv with ⟨_, rfl⟩ | ⟨_, _, _, _, _, _, h, _⟩ | ⟨_, _, _, rfl⟩
  · simp
  · exact h
  · simp
theorem flat_nil : flat [] = [] := rfl
theorem flat_cons (x : AV) (l : List AV) : flat (x :: l) = x.cells ++ flat l := rfl
theorem flat_append (l m : List AV) : flat (l ++ m) = flat l ++ flat m := by simp [flat]
theorem flat_length {sz : Nat} {l : List AV} (hu : ∀ x, x ∈ l → x.cells.length = sz) : (flat l).length = l.length * sz := by
  induction l with
  | nil => simp [flat]
  | cons x l ih =>
    rw [flat_cons, List.length_append, ih (fun y hy => hu y (List.mem_cons_of_mem _ hy)), hu x (List.mem_cons_self ..), List.length_cons, Nat.add_mul]
    omega
theorem flat_at {sz : Nat} {l : List AV} (hu : ∀ x, x ∈ l → x.cells.length = sz) : ∀ {i j : Nat} {x c : AV}, l[i]? = some x → x.cells[j]? = some c → (flat l)[i * sz + j]? = some c := by
  induction l with
  | nil => intro i j x c h; simp at h
  | cons y l ih =>
    intro i j x c h1 h2
    rw [flat_cons]
    have hy := hu y (List.mem_cons_self ..)
    cases i with
    | zero =>
      simp at h1; subst h1
      have : j < y.cells.length := (List.getElem?_eq_some_iff.1 h2).1
      rw [List.getElem?_append_left (by omega)]
      simpa using h2
    | succ i =>
      simp at h1
      rw [List.getElem?_append_right (by rw [hy, Nat.add_mul]; omega), hy]
      have : (i + 1) * sz + j - sz = i * sz + j := by rw [Nat.add_mul]; omega
      rw [this]
      exact ih (fun z hz => hu z (List.mem_cons_of_mem _ hz)) h1 h2
theorem RepK.elem {G : Gh} {b off sz : Nat} {l : List AV} (h : RepK G b off (flat l)) (hu : ∀ x, x ∈ l → x.cells.length = sz) {i : Nat} {x : AV} (hx : l[i]? = some x) : RepK G b (off + i * sz) x.cells := by
  intro o c hc
  have := h (i * sz + o) c (flat_at hu hx hc)
  rwa [← Nat.add_assoc] at this
theorem RepK.drop {G : Gh} {b off : Nat} {cs : List AV} (h : RepK G b off cs) (n : Nat) : RepK G b (off + n) (cs.drop n) := by
  intro o c hc
  have := h (n + o) c (by simpa using hc)
  rwa [← Nat.add_assoc] at this
theorem RepK.takeL {G : Gh} {b off : Nat} {cs : List AV} (h : RepK G b off cs) (n : Nat) : RepK G b off (cs.take n) := by
  intro o c hc
  rw [List.getElem?_take] at hc
  split at hc
  · exact h o c hc
  · cases hc
theorem RepK.cells {G : Gh} {w0 : World} {H : AH} {w : World} (hS : Sim w0 G H w) {b off : Nat} {cs : List AV} (h : RepK G b off cs) :
    ∃ vs : List Value, RepL G cs vs ∧ (∀ (j : Nat) (u : Value), vs[j]? = some u → w.cell? ((⟨b, off, none⟩ : Addr).add j) = some u) ∧ ∀ (j : Nat) (u : Value), vs[j]? = some u → G.K b (off + j) = some u := by
  have key : ∀ (j : Nat) (u : Value), (List.ofFn fun j : Fin cs.length => (G.K b (off + j)).getD undef)[j]? = some u → G.K b (off + j) = some u := by
    intro j u hu
    rw [List.getElem?_ofFn] at hu
    split at hu
    · rename_i hj
      obtain ⟨v, h1, _⟩ := h j cs[j] (List.getElem?_eq_getElem hj)
      simp [h1] at hu
      subst hu; exact h1
    · cases hu
  refine ⟨List.ofFn fun j : Fin cs.length => (G.K b (off + j)).getD undef, ⟨by simp, fun j c v h1 h2 => ?_⟩, fun j u hu => ?_, key⟩
  · have k1 := key j v h2
    obtain ⟨v', k2, k3⟩ := h j c h1
    rw [k1] at k2; simp at k2; subst k2; exact k3
  · have k1 := hS.K _ _ _ (key j u hu)
    unfold Addr.add
    split
    · rename_i e; subst e; simpa using k1
    · exact k1
def Gh.setTk (G : Gh) (t : Nat) (x : Tok) : Gh := { G with tk := fun s => if s = t then some x else G.tk s }
theorem tok_putTok (H : AH) (t : Nat) (n : ATok) (s : Nat) : (H.putTok t n).tok s = if s = t then (H.tok t).map (fun _ => n) else H.tok s := alook_aset t n H.toks s
theorem run_append2 {P : Program} {w : World} (base : Nat) (t ty e : TypeId) (i : TypeInfo) (z : Value) (ht : P.underlying t = some (.slice e)) (hi : P.info? e = some i) (hz : i.zero = some z)
    (hzs : z.cells.size = i.size) (hsz : 0 < i.size) (v : Value) (n : Nat) (xs : List Value) (hown : w.ownsRow base e i.size v n xs)
    (a : Addr) (m c : Nat) (news : List Value) (hl : news.length = m * i.size) (hnews : ∀ (j : Nat) (u : Value), news[j]? = some u → w.cell? (a.add j) = some u) (h1 : ∀ u ∈ news, u.oneCell' = true)
    (hm : 0 < m) (h63 : n + m ≤ 9223372036854775807) (hbytes : (n + m) * i.bytes ≤ 140737488355328) (hbase : base ≤ w.heap.size) :
    ∃ v' w', (Builtin.append_ #[t, t] ty #[v, .slice (some a) m c]).run P w = .ok v' w' ∧ w'.ownsRow base e i.size v' (n + m) (xs ++ news) ∧
      ((v'.ownBlock = v.ownBlock ∧ v.ownBlock ≠ none ∧ w.grownBy w' v.ownBlock) ∨ (v'.ownBlock = some w.heap.size ∧ w.grownBy w' none)) := by
  have hml : maxLen = 9223372036854775807 := rfl
  have hlen : (xs ++ news).length = (n + m) * i.size := by rw [List.length_append, hown.1, hl, Nat.add_mul]
  have fresh : ∀ old, old < n + m →
      (w.drew.alloc (.cells (xs.toArray ++ news.toArray ++ Builtin.zeroCells z.cells (grownCap w (n + m) old e - (n + m))) e)).ownsRow base e i.size
        (.slice (some ⟨w.heap.size, 0, none⟩) (n + m) (grownCap w (n + m) old e)) (n + m) (xs ++ news) := by
    intro old ho
    have hge := grownCap_ge w (n + m) old e
    have hcm : grownCap w (n + m) old e ≤ maxLen := grownCap_le_maxLen w (n + m) old e (by omega)
    refine ⟨hlen, .inr ⟨w.heap.size, _, _, rfl, hbase, heap_alloc_new w.drew _, hge, hcm, ?_, ?_⟩⟩
    · simp only [Array.size_append, List.size_toArray, size_zeroCells, hzs, hown.1, hl, ← Nat.add_mul]
      congr 1; omega
    · simp only [Array.toList_append, List.append_assoc]
      rw [← List.append_assoc, ← hlen]
      exact List.take_left
  have grew : ∀ o, w.grownBy (w.drew.alloc o) none := fun o => ⟨rfl, rfl, rfl, by simp, fun k hk _ => heap_alloc_old w.drew _ k hk⟩
  rcases hown.2 with ⟨rfl, rfl⟩ | ⟨g, cap, cur, rfl, hbg, hg, hnc, hcm, hcs, htake⟩
  · have hx : xs = [] := List.eq_nil_of_length_eq_zero (by simpa using hown.1)
    subst hx
    have hr := run_append_nil (P := P) w t ty e i z ht hi hz a m c news hl hnews hm (by omega) (by have hb := hbytes; simp only [Nat.zero_add] at hb; omega)
    have hf := fresh 0 (by omega)
    simp only [Nat.zero_add, List.nil_append, Array.empty_append] at hf ⊢
    exact ⟨_, _, hr, hf, .inr ⟨rfl, grew _⟩⟩
  · by_cases hroom : n + m ≤ cap
    · obtain ⟨w', hr, ho, hgr⟩ := run_append_fits (P := P) (w := w) base t ty e i i.size ht hi rfl g n cap xs hown a m c news hl hnews h1 hroom
      exact ⟨_, w', hr, ho, .inl ⟨rfl, by simp [Value.ownBlock], hgr⟩⟩
    · have holds : ∀ (j : Nat) (u : Value), xs[j]? = some u → w.cell? ((⟨g, 0, none⟩ : Addr).add j) = some u := hown.cells (g := g) rfl
      have hr := run_append_grow (P := P) w t ty e i z ht hi hz ⟨g, 0, none⟩ n cap xs hown.1 holds a m c news hl hnews (by omega) (by omega) (growslice_fits (by omega) hbytes)
      exact ⟨_, _, hr, fresh cap (by omega), .inr ⟨rfl, grew _⟩⟩
theorem Sim.setTok {w0 : World} {G : Gh} {H : AH} {w w' : World} (h : Sim w0 G H w) {t : Nat} {x x' : Tok} (ht : H.tok t = some ⟨x.n, x.e, x.sz⟩) (hx : G.tk t = some x)
    (hn : x.n < x'.n) (hs : x'.sz = x.sz) (hs0 : 0 < x.sz) (ho : w'.ownsRow w0.heap.size x'.e x'.sz x'.v x'.n x'.xs)
    (hp : ∀ (o : Nat) (v : Value), x.xs[o]? = some v → x'.xs[o]? = some v)
    (hg : (x'.v.ownBlock = x.v.ownBlock ∧ x.v.ownBlock ≠ none ∧ w.grownBy w' x.v.ownBlock) ∨ (x'.v.ownBlock = some w.heap.size ∧ w.grownBy w' none)) :
    ∃ (b cap : Nat) (G' : Gh), x'.v = .slice (some ⟨b, 0, none⟩) x'.n cap ∧ x'.n ≤ cap ∧ G.le G' ∧ Sim w0 G' (H.putTok t ⟨x'.n, x'.e, x'.sz⟩) w' ∧ G'.tk t = some x' ∧
      ∀ (o : Nat) (v : Value), x'.xs[o]? = some v → G'.K b o = some v := by
  obtain ⟨y, k1, k2, k3, k4⟩ := h.tks t _ ht
  rw [hx] at k1; simp at k1; subst k1
  have hlen : x'.xs.length = x'.n * x.sz := by rw [← hs]; exact ho.1
  rcases ho.2 with ⟨_, h0⟩ | ⟨b, cap, cur, hv, hbB, hb, hnc, hcm, hcs, htake⟩
  · omega
  have hob : x'.v.ownBlock = some b := by rw [hv]; rfl
  have hcell : ∀ (o : Nat) (v : Value), x'.xs[o]? = some v → w'.cell? ⟨b, o, none⟩ = some v := by
    intro o v hov
    have := ho.cells (g := b) hob o v hov
    rwa [show (⟨b, 0, none⟩ : Addr).add o = ⟨b, o, none⟩ by unfold Addr.add; split <;> simp_all] at this
  have hgrow : w.grownBy w' x.v.ownBlock := by
    rcases hg with ⟨_, _, hg⟩ | ⟨_, hg⟩
    · exact hg
    · exact ⟨hg.os, hg.tape, hg.output, hg.size, fun k hk _ => hg.block k hk (by simp)⟩
  -- what the ghost knew of block b
  have hKb : ∀ (o : Nat) (v : Value), G.K b o = some v → x'.xs[o]? = some v := by
    intro o v hk
    rcases hg with ⟨e, hne, hg⟩ | ⟨e, hg⟩
    · rw [hob] at e
      have hlt : o < x.n * x.sz := by
        rcases Nat.lt_or_ge o (x.n * x.sz) with h1 | h1
        · exact h1
        · have := (k4 b e.symm).1 o h1; rw [this] at hk; cases hk
      have hw := h.K b o v hk
      rcases k3.2 with ⟨hv0, _⟩ | ⟨g, cap0, cur0, hv0, _⟩
      · rw [hv0] at e; cases e
      · have hg0 : g = b := by rw [hv0] at e; simp [Value.ownBlock] at e; exact e.symm
        subst hg0
        have hat := k3.cells (g := g) (by rw [hv0]; rfl) o
        have hol : o < x.xs.length := by rw [k3.1]; exact hlt
        have h2 := hat x.xs[o] (List.getElem?_eq_getElem hol)
        rw [show (⟨g, 0, none⟩ : Addr).add o = ⟨g, o, none⟩ by unfold Addr.add; split <;> simp_all] at h2
        rw [h2] at hw; simp at hw
        exact hp o v (by rw [List.getElem?_eq_getElem hol, hw])
    · rw [hob] at e; simp at e; subst e
      have := (h.fresh (Nat.le_refl _)).K o; rw [this] at hk; cases hk
  have hother : ∀ (b' : Nat), b' < w.heap.size → x.v.ownBlock ≠ some b' → w'.heap[b']? = w.heap[b']? := fun b' hb' hne => hgrow.block b' hb' (fun e => hne e.symm)
  -- nobody else's block is b
  have hobs : ∀ i, H.obj i ≠ none → G.ob i ≠ some b := by
    intro i hi
    rcases hg with ⟨e, hne, hg⟩ | ⟨e, hg⟩
    · rw [hob] at e; exact (k4 b e.symm).2.1 i hi
    · rw [hob] at e; simp at e; subst e; exact (h.fresh (Nat.le_refl _)).ob i hi
  have htks : ∀ t' y, t' ≠ t → H.tok t' ≠ none → G.tk t' = some y → y.v.ownBlock ≠ some b := by
    intro t' y hne ht' hy
    rcases hg with ⟨e, hn2, hg⟩ | ⟨e, hg⟩
    · rw [hob] at e; exact (k4 b e.symm).2.2 t' y hne ht' hy
    · rw [hob] at e; simp at e; subst e; exact (h.fresh (Nat.le_refl _)).tk t' y ht' hy
  let G' : Gh := { (G.setTk t x') with K := fun b' o => if b' = b then x'.xs[o]? else G.K b' o }
  have hle : G.le G' := by
    refine ⟨fun b' o v hk => ?_, fun i b' hi => hi, fun s y hy => ?_⟩
    · show (if b' = b then x'.xs[o]? else G.K b' o) = some v
      split
      · rename_i e; subst e; exact hKb o v hk
      · exact hk
    · by_cases e : s = t
      · subst e
        rw [hx] at hy; simp at hy; subst hy
        exact ⟨x', by simp [G', Gh.setTk], by omega, hs, fun e => by omega⟩
      · exact ⟨y, by simp [G', Gh.setTk, e, hy], Nat.le_refl _, rfl, fun _ => rfl⟩
  refine ⟨b, cap, G', hv, hnc, hle, ⟨?_, ?_, h.obN, ?_, h.inj, ?_, ?_⟩, by simp [G', Gh.setTk], fun o v hv => by simp [G', hv]⟩
  · refine h.below.trans ⟨hgrow.os, hgrow.tape, hgrow.output, hgrow.size, fun k hk => ?_⟩
    have hk2 := h.below.size
    refine hother k (by omega) (fun e => ?_)
    have := (k3.lt k e).1
    omega
  · intro b' o v hk
    simp only [G'] at hk
    split at hk
    · rename_i e; subst e; exact hcell o v hk
    · rename_i e
      have h1 := h.K b' o v hk
      have hlt := World.block_lt_of_cell? w _ h1
      simp at hlt
      by_cases e2 : x.v.ownBlock = some b'
      · -- the row has moved on; its old block stands as it was
        rcases hg with ⟨e3, hne, hg⟩ | ⟨e3, hg⟩
        · rw [hob] at e3; rw [← e3] at e2; simp at e2; exact absurd e2.symm e
        · exact (World.cell?_of_block (hg.block b' hlt (by simp))).trans h1
      · exact (World.cell?_of_block (hother b' hlt e2)).trans h1
  · intro i o hi
    obtain ⟨b', h1, h2, h3, h4⟩ := h.obs i o hi
    have hne : b' ≠ b := by intro e; subst e; exact hobs i (by rw [show H.obj i = some o from hi]; simp) h1
    refine ⟨b', h1, h2, h3.keep hle (hother b' h3.lt (fun e => ?_)), fun off => ?_⟩
    · exact (k4 b' e).2.1 i (by rw [show H.obj i = some o from hi]; simp) h1
    · simp only [G', if_neg hne]; exact h4 off
  · intro s hs'
    have hs2 : H.m ≤ s := hs'
    have hst : s ≠ t := by intro e; subst e; have := (h.tkN s hs2).1; rw [ht] at this; cases this
    rw [tok_putTok, if_neg hst]
    refine ⟨(h.tkN s hs2).1, ?_⟩
    simp only [G', Gh.setTk, if_neg hst]
    exact (h.tkN s hs2).2
  · intro s n hsn
    rw [tok_putTok] at hsn
    by_cases e : s = t
    · subst e
      rw [if_pos rfl, ht] at hsn; simp at hsn; subst hsn
      refine ⟨x', by simp [G', Gh.setTk], rfl, ho, fun b' hb' => ?_⟩
      rw [hob] at hb'; simp at hb'; subst hb'
      refine ⟨fun o hoo => ?_, hobs, fun t' y hne ht' hy => ?_⟩
      · simp only [G', if_true]
        exact List.getElem?_eq_none (by rw [hlen, ← hs]; exact hoo)
      · rw [tok_putTok, if_neg hne] at ht'
        simp only [G', Gh.setTk, if_neg hne] at hy
        exact htks t' y hne ht' hy
    · rw [if_neg e] at hsn
      obtain ⟨y, j1, j2, j3, j4⟩ := h.tks s n hsn
      refine ⟨y, by simp [G', Gh.setTk, e, j1], j2, j3.kept hgrow ?_, fun b' hb' => ?_⟩
      · cases hy : y.v.ownBlock with
        | none => exact .inl rfl
        | some c =>
          refine .inr fun e2 => ?_
          exact (j4 c hy).2.2 t x (fun e3 => e e3.symm) (by rw [ht]; simp) hx e2.symm
      · have hne : b' ≠ b := by
          intro e2; subst e2
          exact htks s y e (by rw [hsn]; simp) j1 hb'
        refine ⟨fun o hoo => ?_, (j4 b' hb').2.1, fun t' z hnt ht' hz => ?_⟩
        · simp only [G', if_neg hne]; exact (j4 b' hb').1 o hoo
        · by_cases e2 : t' = t
          · subst e2
            simp only [G', Gh.setTk, if_true, Option.some.injEq] at hz
            subst hz
            rw [hob]; simp; exact fun e3 => hne e3.symm
          · rw [tok_putTok, if_neg e2] at ht'
            simp only [G', Gh.setTk, if_neg e2] at hz
            exact (j4 b' hb').2.2 t' z hnt ht' hz
theorem RepL.index {G : Gh} {cs : List AV} {vs : List Value} (h : RepL G cs vs) {o : Nat} {c : AV} (hc : cs[o]? = some c) : ∃ v, vs[o]? = some v ∧ Rep G c v := by
  have hlt : o < cs.length := (List.getElem?_eq_some_iff.1 hc).1
  have hlt2 : o < vs.length := by rw [← h.1]; exact hlt
  exact ⟨vs[o], List.getElem?_eq_getElem hlt2, h.2 o c _ hc (List.getElem?_eq_getElem hlt2)⟩
theorem Sim.append {P : Program} {w0 : World} {G : Gh} {H : AH} {w : World} (h : Sim w0 G H w) (t ty e : TypeId) (i : TypeInfo) (z : Value) (ht : P.underlying t = some (.slice e)) (hi : P.info? e = some i) (hz : i.zero = some z)
    (hzs : z.cells.size = i.size) (hsz : 0 < i.size) {tk : Nat} {l ys : List AV} (htok : H.tok tk = some ⟨l.length, e, i.size⟩)
    {v : Value} (hr : Rep G (.own l tk) v)
    {a : Addr} {c : Nat} {news : List Value} (hys : ∀ y, y ∈ ys → y.cells.length = i.size) (hnr : RepL G (flat ys) news) (hnews : ∀ (j : Nat) (u : Value), news[j]? = some u → w.cell? (a.add j) = some u) (h1 : ∀ u ∈ news, u.oneCell' = true)
    (hm : 0 < ys.length) (hbytes : (l.length + ys.length) * i.bytes ≤ 140737488355328) (hb48 : l.length + ys.length ≤ 281474976710656) :
    ∃ v' w' G', (Builtin.append_ #[t, t] ty #[v, .slice (some a) ys.length c]).run P w = .ok v' w' ∧ G.le G' ∧ Sim w0 G' (H.putTok tk ⟨l.length + ys.length, e, i.size⟩) w' ∧ Rep G' (.own (l ++ ys) tk) v' := by
  obtain ⟨x, hx, k2, k3, k4⟩ := h.tks tk _ htok
  simp only [ATok.mk.injEq] at k2
  obtain ⟨k2, hxe, hxs⟩ := k2
  cases hr with
  | own _ _ _ tok hk1 hk2 hk3 hk4 hk5 =>
    rw [hx] at hk1; simp at hk1; subst hk1
    have hv : x.v = v := hk3 k2
    subst hv
    subst hxe
    have hown : w.ownsRow w0.heap.size x.e i.size x.v l.length x.xs := by rw [← hxs, ← k2]; exact k3
    have hnl : news.length = ys.length * i.size := by rw [← hnr.1, flat_length hys]
    obtain ⟨v', w', hrun, ho', hg⟩ := run_append2 (P := P) w0.heap.size t ty x.e i z ht hi hz hzs hsz x.v l.length x.xs hown a ys.length c news hnl hnews h1 hm (by omega) hbytes h.below.size
    obtain ⟨b, cap, G', hv', hnc, hle, hS, hT, hK⟩ := h.setTok (t := tk) (x := x) (x' := ⟨v', l.length + ys.length, x.e, x.sz, x.xs ++ news⟩) (by rw [k2, hxs]; exact htok) hx (by simp only; omega) rfl (by omega)
      (by simp only [hxs]; exact ho') (fun o u hu => by rw [List.getElem?_append_left (List.getElem?_eq_some_iff.1 hu).1]; exact hu) hg
    refine ⟨v', w', G', hrun, hle, by simpa only [hxs] using hS, .own _ tk v' _ hT (by simp) (fun _ => rfl) (fun q hq => ?_) ?_⟩
    · rcases List.mem_append.1 hq with hq | hq
      · exact hk4 q hq
      · simp only [hxs]; exact hys q hq
    · have hu : ∀ q, q ∈ l ++ ys → q.cells.length = i.size := fun q hq => by
        rcases List.mem_append.1 hq with hq | hq
        · rw [hk4 q hq, hxs]
        · exact hys q hq
      simp only at hv' hnc hK
      have hll : (l ++ ys).length = l.length + ys.length := List.length_append
      rw [hv', ← hll]
      refine Rep.slice_mk (sz := i.size) (fun o c hc => ?_) hu (by omega) (by omega)
      rw [flat_append] at hc
      have hlf : (flat l).length = l.length * i.size := flat_length (fun q hq => by rw [hk4 q hq, hxs])
      have hxl : x.xs.length = l.length * i.size := hown.1
      rcases Nat.lt_or_ge o (flat l).length with hlt | hge
      · rw [List.getElem?_append_left hlt] at hc
        -- the old elements: what the ghost knew of them is what the row holds
        rcases hk5.slice_inv with ⟨_, rfl⟩ | ⟨b0, off0, cap0, sz0, hv0, _, _, _, hrk⟩ | ⟨_, _, _, rfl⟩
        · simp [flat] at hlt
        rotate_left
        · simp [flat] at hlt
        · obtain ⟨u, hu1, hu2⟩ := hrk o c hc
          have hw := h.K _ _ _ hu1
          rcases hown.2 with ⟨hn0, _⟩ | ⟨g, cap1, cur1, hv1, _⟩
          · rw [hn0] at hv0; cases hv0
          · rw [hv1] at hv0
            simp only [Value.slice.injEq, Option.some.injEq, Addr.mk.injEq] at hv0
            obtain ⟨⟨rfl, rfl, _⟩, _, rfl⟩ := hv0
            have hol : o < x.xs.length := by omega
            have h2 := hown.cells (g := g) (by rw [hv1]; rfl) o x.xs[o] (List.getElem?_eq_getElem hol)
            rw [show (⟨g, 0, none⟩ : Addr).add o = ⟨g, 0 + o, none⟩ by unfold Addr.add; split <;> simp_all] at h2
            rw [h2] at hw; simp at hw
            refine ⟨u, ?_, hu2.mono hle⟩
            rw [Nat.zero_add]
            exact hK o u (by rw [List.getElem?_append_left hol, List.getElem?_eq_getElem hol, hw])
      · rw [List.getElem?_append_right hge] at hc
        obtain ⟨u, hu1, hu2⟩ := hnr.index hc
        refine ⟨u, ?_, hu2.mono hle⟩
        rw [Nat.zero_add]
        exact hK o u (by rw [List.getElem?_append_right (by omega), hxl, ← hlf]; exact hu1)
end Go.Ai
