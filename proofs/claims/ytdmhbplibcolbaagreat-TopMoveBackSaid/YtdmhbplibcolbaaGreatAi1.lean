/- A part of the proof: no statement of the seat is proved in this text. -/
import Derived.Test.YtdmhbplibcolbaaGreatAi0
set_option linter.unusedVariables false
set_option linter.unusedSimpArgs false
namespace Go.Ai
open Go Go.RowKit
structure Fresh (G : Gh) (H : AH) (b : Nat) : Prop where
  K : ∀ o, G.K b o = none
  ob : ∀ i, H.obj i ≠ none → G.ob i ≠ some b
  tk : ∀ t x, H.tok t ≠ none → G.tk t = some x → x.v.ownBlock ≠ some b
theorem heap_lt {w : World} {b : Nat} {o : Obj} (h : w.heap[b]? = some o) : b < w.heap.size := (Array.getElem?_eq_some_iff.1 h).1
theorem ObjAt.lt {G : Gh} {w : World} {b : Nat} {o : AObj} (h : ObjAt G w b o) : b < w.heap.size := by
  cases o with
  | cells cs t => obtain ⟨vs, h, _⟩ := h; exact heap_lt h
  | amap es => obtain ⟨ms, c, h, _⟩ := h; exact heap_lt h
  | iter s pos => exact heap_lt h
theorem ObjAt.keep {G G' : Gh} {w w' : World} {b : Nat} {o : AObj} (h : ObjAt G w b o) (hle : G.le G') (hw : w'.heap[b]? = w.heap[b]?) : ObjAt G' w' b o := by
  cases o with
  | cells cs t => obtain ⟨vs, h, h2, h3⟩ := h; exact ⟨vs, hw.trans h, h2.mono hle, h3⟩
  | amap es =>
    obtain ⟨ms, c, h, h2, h3⟩ := h
    exact ⟨ms, c, hw.trans h, h2, fun j e m h4 h5 => ⟨(h3 j e m h4 h5).1.mono hle, (h3 j e m h4 h5).2.mono hle⟩⟩
  | iter s pos => exact hw.trans h
theorem Sim.fresh {w0 : World} {G : Gh} {H : AH} {w : World} (h : Sim w0 G H w) {b : Nat} (hb : w.heap.size ≤ b) : Fresh G H b := by
  refine ⟨fun o => ?_, fun i hi e => ?_, fun t x ht hx e => ?_⟩
  · cases hk : G.K b o with
    | none => rfl
    | some v => have := World.block_lt_of_cell? w _ (h.K b o v hk); simp at this; omega
  · cases ho : H.obj i with
    | none => exact hi ho
    | some o =>
      obtain ⟨b', h1, _, h2, _⟩ := h.obs i o ho
      have := h2.lt
      rw [e] at h1
      simp at h1
      omega
  · cases ho : H.tok t with
    | none => exact ht ho
    | some n =>
      obtain ⟨x', h1, _, h2, _⟩ := h.tks t n ho
      rw [hx] at h1
      simp at h1
      subst h1
      have := (h2.lt b e).2
      omega
theorem Sim.frame {w0 : World} {G : Gh} {H : AH} {w w' : World} (h : Sim w0 G H w) (hg : w.grownBy w' none) : Sim w0 G H w' := by
  have hb : ∀ b, b < w.heap.size → w'.heap[b]? = w.heap[b]? := fun b hb => hg.block b hb (by simp)
  refine ⟨h.below.trans ⟨hg.os, hg.tape, hg.output, hg.size, fun k hk => hb k (by have := h.below.size; omega)⟩, ?_, h.obN, ?_, h.inj, h.tkN, ?_⟩
  · intro b o v hk
    have h1 := h.K b o v hk
    exact (World.cell?_of_block (hb b (World.block_lt_of_cell? w _ h1))).trans h1
  · intro i o ho
    obtain ⟨b, h1, h2, h3, h4⟩ := h.obs i o ho
    exact ⟨b, h1, h2, h3.keep (.refl G) (hb b h3.lt), h4⟩
  · intro t n ht
    obtain ⟨x, h1, h2, h3, h4⟩ := h.tks t n ht
    exact ⟨x, h1, h2, h3.kept hg (by cases x.v.ownBlock <;> simp), h4⟩
def Gh.addOb (G : Gh) (n b : Nat) : Gh := { G with ob := fun i => if i = n then some b else G.ob i }
def Gh.addK (G : Gh) (b : Nat) (vs : List Value) : Gh := { G with K := fun b' o => if b' = b then vs[o]? else G.K b' o }
def Gh.addTk (G : Gh) (m : Nat) (x : Tok) : Gh := { G with tk := fun t => if t = m then some x else G.tk t }
theorem Gh.le_addOb {G : Gh} {n b : Nat} (h : G.ob n = none) : G.le (G.addOb n b) :=
  ⟨fun _ _ _ h => h, fun i b' hi => by
    show (if i = n then some b else G.ob i) = some b'
    split
    · rename_i e; subst e; rw [h] at hi; cases hi
    · exact hi, fun t x ht => ⟨x, ht, Nat.le_refl _, rfl, fun _ => rfl⟩⟩
theorem Gh.le_addK {G : Gh} {b : Nat} {vs : List Value} (h : ∀ o, G.K b o = none) : G.le (G.addK b vs) :=
  ⟨fun b' o v hk => by
    show (if b' = b then vs[o]? else G.K b' o) = some v
    split
    · rename_i e; subst e; rw [h] at hk; cases hk
    · exact hk, fun _ _ h => h, fun t x ht => ⟨x, ht, Nat.le_refl _, rfl, fun _ => rfl⟩⟩
theorem Gh.le_addTk {G : Gh} {m : Nat} {x : Tok} (h : G.tk m = none) : G.le (G.addTk m x) :=
  ⟨fun _ _ _ h => h, fun _ _ h => h, fun t y ht => ⟨y, by
    show (if t = m then some x else G.tk t) = some y
    split
    · rename_i e; subst e; rw [h] at ht; cases ht
    · exact ht, Nat.le_refl _, rfl, fun _ => rfl⟩⟩
theorem obj_push (H : AH) (o : AObj) (i : Nat) : (H.push o).obj i = if i = H.n then some o else H.obj i := by
  simp [AH.push, AH.obj, alook]
theorem tok_push (H : AH) (o : AObj) (t : Nat) : (H.push o).tok t = H.tok t := rfl
theorem tok_pushTok (H : AH) (n : ATok) (t : Nat) : (H.pushTok n).tok t = if t = H.m then some n else H.tok t := by simp [AH.pushTok, AH.tok, alook]
theorem obj_pushTok (H : AH) (n : ATok) (i : Nat) : (H.pushTok n).obj i = H.obj i := rfl
theorem Sim.addObj {w0 : World} {G : Gh} {H : AH} {w : World} (h : Sim w0 G H w) {b : Nat} {o : AObj} (hf : Fresh G H b) (hb : w0.heap.size ≤ b) (ho : ObjAt G w b o) :
    Sim w0 (G.addOb H.n b) (H.push o) w ∧ G.le (G.addOb H.n b) := by
  have hle : G.le (G.addOb H.n b) := Gh.le_addOb (h.obN H.n (Nat.le_refl _)).2
  have hne : ∀ i o, H.obj i = some o → i ≠ H.n := fun i o ho e => by
    have := (h.obN i (by omega)).1; rw [this] at ho; cases ho
  refine ⟨⟨h.below, h.K, ?_, ?_, ?_, h.tkN, ?_⟩, hle⟩
  · intro i hi
    have hi' : H.n + 1 ≤ i := hi
    rw [obj_push, if_neg (by omega)]
    refine ⟨(h.obN i (by omega)).1, ?_⟩
    show (if i = H.n then some b else G.ob i) = none
    rw [if_neg (by omega)]; exact (h.obN i (by omega)).2
  · intro i o' hi
    rw [obj_push] at hi
    split at hi
    · rename_i e
      simp only [Option.some.injEq] at hi
      subst hi; subst e
      exact ⟨b, by simp [Gh.addOb], hb, ho.keep hle rfl, hf.K⟩
    · rename_i e
      obtain ⟨b', h1, h2, h3, h4⟩ := h.obs i o' hi
      exact ⟨b', by simp [Gh.addOb, e, h1], h2, h3.keep hle rfl, h4⟩
  · intro i j b' hi hj h1 h2
    rw [obj_push] at hi hj
    simp only [Gh.addOb] at h1 h2
    by_cases ei : i = H.n <;> by_cases ej : j = H.n
    · omega
    · rw [if_pos ei] at h1; rw [if_neg ej] at h2 hj
      simp at h1; subst h1
      exact absurd h2 (hf.ob j hj)
    · rw [if_neg ei] at h1 hi; rw [if_pos ej] at h2
      simp at h2; subst h2
      exact absurd h1 (hf.ob i hi)
    · rw [if_neg ei] at h1 hi; rw [if_neg ej] at h2 hj
      exact h.inj i j b' hi hj h1 h2
  · intro t n ht
    obtain ⟨x, h1, h2, h3, h4⟩ := h.tks t n ht
    refine ⟨x, h1, h2, h3, fun b' hb' => ⟨(h4 b' hb').1, fun i hi => ?_, (h4 b' hb').2.2⟩⟩
    rw [obj_push] at hi
    simp only [Gh.addOb]
    split
    · intro e
      simp at e; subst e
      exact hf.tk t x (by rw [show H.tok t = some n from ht]; simp) h1 hb'
    · rename_i e
      rw [if_neg e] at hi
      exact (h4 b' hb').2.1 i hi
theorem Sim.addImm {w0 : World} {G : Gh} {H : AH} {w : World} (h : Sim w0 G H w) {b : Nat} {vs : List Value} (hf : Fresh G H b) (hv : ∀ o v, vs[o]? = some v → w.cell? ⟨b, o, none⟩ = some v) :
    Sim w0 (G.addK b vs) H w ∧ G.le (G.addK b vs) := by
  have hle : G.le (G.addK b vs) := Gh.le_addK hf.K
  refine ⟨⟨h.below, ?_, h.obN, ?_, h.inj, h.tkN, ?_⟩, hle⟩
  · intro b' o v hk
    simp only [Gh.addK] at hk
    split at hk
    · rename_i e; subst e; exact hv o v hk
    · exact h.K b' o v hk
  · intro i o hi
    obtain ⟨b', h1, h2, h3, h4⟩ := h.obs i o hi
    refine ⟨b', h1, h2, h3.keep hle rfl, fun off => ?_⟩
    simp only [Gh.addK]
    rw [if_neg, h4 off]
    intro e; subst e
    exact hf.ob i (by rw [hi]; simp) h1
  · intro t n ht
    obtain ⟨x, h1, h2, h3, h4⟩ := h.tks t n ht
    refine ⟨x, h1, h2, h3, fun b' hb' => ⟨fun o ho => ?_, (h4 b' hb').2.1, (h4 b' hb').2.2⟩⟩
    simp only [Gh.addK]
    rw [if_neg, (h4 b' hb').1 o ho]
    intro e; subst e
    exact hf.tk t x (by rw [ht]; simp) h1 hb'
theorem Sim.addTok {w0 : World} {G : Gh} {H : AH} {w : World} (h : Sim w0 G H w) {x : Tok} (ho : w.ownsRow w0.heap.size x.e x.sz x.v x.n x.xs)
    (hf : ∀ b, x.v.ownBlock = some b → (∀ o, x.n * x.sz ≤ o → G.K b o = none) ∧ (∀ i, H.obj i ≠ none → G.ob i ≠ some b) ∧ ∀ t' x', H.tok t' ≠ none → G.tk t' = some x' → x'.v.ownBlock ≠ some b) :
    Sim w0 (G.addTk H.m x) (H.pushTok ⟨x.n, x.e, x.sz⟩) w ∧ G.le (G.addTk H.m x) := by
  have hle : G.le (G.addTk H.m x) := Gh.le_addTk (h.tkN H.m (Nat.le_refl _)).2
  refine ⟨⟨h.below, h.K, h.obN, ?_, h.inj, ?_, ?_⟩, hle⟩
  · intro i o hi
    obtain ⟨b', h1, h2, h3, h4⟩ := h.obs i o hi
    exact ⟨b', h1, h2, h3.keep hle rfl, h4⟩
  · intro t ht
    have ht' : H.m + 1 ≤ t := ht
    rw [tok_pushTok, if_neg (by omega)]
    refine ⟨(h.tkN t (by omega)).1, ?_⟩
    show (if t = H.m then some x else G.tk t) = none
    rw [if_neg (by omega)]; exact (h.tkN t (by omega)).2
  · intro t n ht
    rw [tok_pushTok] at ht
    split at ht
    · rename_i e
      subst e
      simp only [Option.some.injEq] at ht
      subst ht
      refine ⟨x, by simp [Gh.addTk], rfl, ho, fun b hb => ⟨(hf b hb).1, (hf b hb).2.1, fun t' x' hne ht' hx' => ?_⟩⟩
      rw [tok_pushTok, if_neg hne] at ht'
      simp only [Gh.addTk, if_neg hne] at hx'
      exact (hf b hb).2.2 t' x' ht' hx'
    · rename_i e
      obtain ⟨y, h1, h2, h3, h4⟩ := h.tks t n ht
      refine ⟨y, by simp [Gh.addTk, e, h1], h2, h3, fun b hb => ⟨(h4 b hb).1, (h4 b hb).2.1, fun t' x' hne ht' hx' => ?_⟩⟩
      rw [tok_pushTok] at ht'
      simp only [Gh.addTk] at hx'
      split at hx'
      · simp at hx'; subst hx'
        intro e2
        exact (hf b e2).2.2 t y (by rw [ht]; simp) h1 hb
      · rename_i e3
        rw [if_neg e3] at ht'
        exact (h4 b hb).2.2 t' x' hne ht' hx'
theorem obj_put (H : AH) (i : Nat) (o : AObj) (j : Nat) : (H.put i o).obj j = if j = i then (H.obj i).map (fun _ => o) else H.obj j := alook_aset i o H.objs j
theorem obj_put_ne (H : AH) (i : Nat) (o : AObj) (j : Nat) : (H.put i o).obj j = none ↔ H.obj j = none := by
  rw [obj_put]; split
  · rename_i e; subst e; simp
  · rfl
theorem Sim.setObj {w0 : World} {G : Gh} {H : AH} {w w' : World} (h : Sim w0 G H w) {i b : Nat} {o o' : AObj} (hi : H.obj i = some o) (hb : G.ob i = some b)
    (hg : w.grownBy w' (some b)) (ho : ObjAt G w' b o') : Sim w0 G (H.put i o') w' := by
  obtain ⟨b0, h1, h2, h3, h4⟩ := h.obs i o hi
  rw [hb] at h1; simp at h1; subst h1
  have hbk : ∀ k, k < w.heap.size → k ≠ b → w'.heap[k]? = w.heap[k]? := fun k hk hne => hg.block k hk (by simpa using hne)
  refine ⟨h.below.trans ⟨hg.os, hg.tape, hg.output, hg.size, fun k hk => hbk k (by have := h.below.size; omega) (by omega)⟩, ?_, ?_, ?_, ?_, h.tkN, ?_⟩
  · intro b' o v hk
    have h1 := h.K b' o v hk
    have hne : b' ≠ b := by intro e; subst e; rw [h4] at hk; cases hk
    exact (World.cell?_of_block (hbk b' (World.block_lt_of_cell? w _ h1) hne)).trans h1
  · intro j hj
    rw [obj_put_ne]; exact h.obN j hj
  · intro j oj hj
    rw [obj_put] at hj
    split at hj
    · rename_i e; subst e
      rw [hi] at hj; simp at hj; subst hj
      exact ⟨b, hb, h2, ho, h4⟩
    · rename_i e
      obtain ⟨b', k1, k2, k3, k4⟩ := h.obs j oj hj
      have hne : b' ≠ b := by
        intro e2; subst e2
        exact e (h.inj j i b' (by rw [hj]; simp) (by rw [hi]; simp) k1 hb)
      exact ⟨b', k1, k2, k3.keep (.refl G) (hbk b' k3.lt hne), k4⟩
  · intro j k b' hj hk
    rw [Ne, obj_put_ne] at hj hk
    exact h.inj j k b' hj hk
  · intro t n ht
    obtain ⟨x, k1, k2, k3, k4⟩ := h.tks t n ht
    refine ⟨x, k1, k2, k3.kept hg ?_, fun b' hb' => ⟨(k4 b' hb').1, fun j hj => ?_, (k4 b' hb').2.2⟩⟩
    · cases hx : x.v.ownBlock with
      | none => exact .inl rfl
      | some c =>
        refine .inr fun e => ?_
        simp at e; subst e
        exact (k4 c hx).2.1 i (by rw [hi]; simp) hb
    · rw [Ne, obj_put_ne] at hj
      exact (k4 b' hb').2.1 j hj
theorem Sim.allocObj {w0 : World} {G : Gh} {H : AH} {w : World} (h : Sim w0 G H w) {cs : List AV} {vs : List Value} (t : TypeId) (hr : RepL G cs vs) (hs : ∀ c ∈ cs, c.scal = true) :
    Sim w0 (G.addOb H.n w.heap.size) (H.push (.cells cs t)) (w.alloc (.cells vs.toArray t)) ∧ G.le (G.addOb H.n w.heap.size) :=
  (h.frame (World.grownBy_alloc w _ _)).addObj (h.fresh (Nat.le_refl _)) h.below.size ⟨vs, heap_alloc_new w _, hr, hs⟩
theorem Sim.drew {w0 : World} {G : Gh} {H : AH} {w : World} (h : Sim w0 G H w) : Sim w0 G H w.drew := h.frame ⟨rfl, rfl, rfl, Nat.le_refl _, fun _ _ _ => rfl⟩
end Go.Ai
