/- A part of the proof: no statement of the seat is proved in this text. -/
import Derived.Test.YtdmhbplibcolbaaGreatAi12k
set_option linter.unusedVariables false
set_option linter.unusedSimpArgs false
namespace Go.Ai
open Go Go.RowKit
mutual
def AV.fit (n m : Nat) : AV → Bool
  | .ptr i _ => decide (i < n)
  | .map i => decide (i < n)
  | .own l t => decide (t < m) && AV.fitL n m l
  | .slice l => AV.fitL n m l
  | .lit l => AV.fitL n m l
  | .rptr cs => AV.fitL n m cs
  | .fn _ cs => AV.fitL n m cs
  | .agg cs => AV.fitL n m cs
  | .tup cs => AV.fitL n m cs
  | .any | .int _ _ | .bool _ | .str _ | .nilS | .nilP | .nilF | .nilM | .raw _ => true
def AV.fitL (n m : Nat) : List AV → Bool
  | [] => true
  | x :: xs => AV.fit n m x && AV.fitL n m xs
end
theorem fitL_iff {n m : Nat} {l : List AV} : AV.fitL n m l = true ↔ ∀ x ∈ l, x.fit n m = true := by
  induction l with
  | nil => simp [AV.fitL]
  | cons x l ih => simp [AV.fitL, ih]
theorem fitL_at {n m : Nat} {l : List AV} (h : AV.fitL n m l = true) {o : Nat} {c : AV} (hc : l[o]? = some c) : c.fit n m = true := fitL_iff.1 h c (List.mem_of_getElem? hc)
theorem fit_cells {n m : Nat} {x : AV} (h : x.fit n m = true) : AV.fitL n m x.cells = true := by
  cases x <;> simp [AV.cells, AV.fitL, AV.fit] at h ⊢ <;> exact h
theorem fit_flat {n m : Nat} {l : List AV} (h : AV.fitL n m l = true) : AV.fitL n m (flat l) = true := by
  rw [fitL_iff]
  intro c hc
  simp only [flat, List.mem_flatMap] at hc
  obtain ⟨x, hx, hc⟩ := hc
  exact fitL_iff.1 (fit_cells (fitL_iff.1 h x hx)) c hc
def Gh.cut (G : Gh) (n m : Nat) : Gh := { G with ob := fun i => if i < n then G.ob i else none, tk := fun t => if t < m then G.tk t else none }
theorem Rep.cut {G : Gh} {a : AV} {v : Value} (h : Rep G a v) {n m : Nat} (hf : a.fit n m = true) : Rep (G.cut n m) a v := by
  induction h with
  | any v => exact .any v
  | int k n h => exact .int k n h
  | bool b => exact .bool b
  | str s h => exact .str s h
  | slice l n b off cap sz ws hn hc hb hu hk hr ih => exact .slice l n b off cap sz ws hn hc hb hu hk (fun o c ho => ih o c ho (fitL_at (fit_flat hf) ho))
  | sliceNil => exact .sliceNil
  | sliceE a cap => exact .sliceE a cap
  | nilS => exact .nilS
  | own l t v tok ht hl hv hsz h ih =>
    simp only [AV.fit, Bool.and_eq_true, decide_eq_true_eq] at hf
    exact .own l t v tok (by simp [Gh.cut, hf.1, ht]) hl hv hsz (ih hf.2)
  | lit l a h ih => exact .lit l a (ih hf)
  | ptr i off b h => simp only [AV.fit, decide_eq_true_eq] at hf; exact .ptr i off b (by simp [Gh.cut, hf, h])
  | rptr cs b off vs hk hr ih => exact .rptr cs b off vs hk (fun o c ho => ih o c ho (fitL_at hf ho))
  | nilP => exact .nilP
  | fn f caps vs hl hr ih => exact .fn f caps vs hl (fun j c v h1 h2 => ih j c v h1 h2 (fitL_at hf h1))
  | nilF => exact .nilF
  | agg cs vs hl hr ih => exact .agg cs vs hl (fun j c v h1 h2 => ih j c v h1 h2 (fitL_at hf h1))
  | tup cs vs hl hr ih => exact .tup cs vs hl (fun j c v h1 h2 => ih j c v h1 h2 (fitL_at hf h1))
  | map i b h => simp only [AV.fit, decide_eq_true_eq] at hf; exact .map i b (by simp [Gh.cut, hf, h])
  | nilM => exact .nilM
  | raw v => exact .raw v
structure AH.WF (H : AH) : Prop where
  obj : ∀ i, H.n ≤ i → H.obj i = none
  tok : ∀ t, H.m ≤ t → H.tok t = none
  fit : ∀ i cs t, H.obj i = some (.cells cs t) → AV.fitL H.n H.m cs = true
  fitM : ∀ i es, H.obj i = some (.amap es) → ∀ (e : AV × AV), e ∈ es → e.1.fit H.n H.m = true ∧ e.2.fit H.n H.m = true
theorem Rep.fit {G : Gh} {n m : Nat} (ho : ∀ i b, G.ob i = some b → i < n) (ht : ∀ t x, G.tk t = some x → t < m) {a : AV} {v : Value} (h : Rep G a v) : a.fit n m = true := by
  have flatfit : ∀ l : List AV, (∀ (o : Nat) (c : AV), (flat l)[o]? = some c → c.fit n m = true) → AV.fitL n m l = true := by
    intro l hl
    rw [fitL_iff]
    intro x hx
    have hc : AV.fitL n m x.cells = true := by
      rw [fitL_iff]
      intro c hc
      have hm : c ∈ flat l := by simp only [flat, List.mem_flatMap]; exact ⟨x, hx, hc⟩
      obtain ⟨o, h1, h2⟩ := List.getElem_of_mem hm
      exact hl o c (by rw [List.getElem?_eq_getElem h1, h2])
    cases x <;> simp [AV.cells, AV.fitL, AV.fit] at hc ⊢ <;> exact hc
  have listfit : ∀ l : List AV, (∀ (o : Nat) (c : AV), l[o]? = some c → c.fit n m = true) → AV.fitL n m l = true := by
    intro l hl
    rw [fitL_iff]
    intro c hc
    obtain ⟨o, h1, h2⟩ := List.getElem_of_mem hc
    exact hl o c (by rw [List.getElem?_eq_getElem h1, h2])
  have listfit2 : ∀ (l : List AV) (vs : List Value), l.length = vs.length → (∀ (j : Nat) (c : AV) (v : Value), l[j]? = some c → vs[j]? = some v → c.fit n m = true) → AV.fitL n m l = true := by
    intro l vs hl ih
    refine listfit l fun o c hc => ?_
    have h1 : o < vs.length := by rw [← hl]; exact (List.getElem?_eq_some_iff.1 hc).1
    exact ih o c _ hc (List.getElem?_eq_getElem h1)
  induction h with
  | slice l n b off cap sz ws hn hc hb hu hk hr ih => exact flatfit l ih
  | own l t v tok htk hl hv hsz h ih => simp only [AV.fit, Bool.and_eq_true, decide_eq_true_eq]; exact ⟨ht t tok htk, ih⟩
  | lit l a h ih => exact ih
  | ptr i off b h => simp only [AV.fit, decide_eq_true_eq]; exact ho i b h
  | rptr cs b off vs hk hr ih => exact listfit cs ih
  | fn f caps vs hl hr ih => exact listfit2 caps vs hl ih
  | agg cs vs hl hr ih => exact listfit2 cs vs hl ih
  | tup cs vs hl hr ih => exact listfit2 cs vs hl ih
  | map i b h => simp only [AV.fit, decide_eq_true_eq]; exact ho i b h
  | _ => rfl
theorem Sim.lts {w0 : World} {G : Gh} {H : AH} {w : World} (h : Sim w0 G H w) : (∀ i b, G.ob i = some b → i < H.n) ∧ ∀ t x, G.tk t = some x → t < H.m :=
  ⟨fun i b hb => by
    rcases Nat.lt_or_ge i H.n with h1 | h1
    · exact h1
    · rw [(h.obN i h1).2] at hb; simp at hb, fun i b hb => by
    rcases Nat.lt_or_ge i H.m with h1 | h1
    · exact h1
    · rw [(h.tkN i h1).2] at hb; simp at hb⟩
theorem Sim.wf {w0 : World} {G : Gh} {H : AH} {w : World} (h : Sim w0 G H w) : H.WF := by
  obtain ⟨l1, l2⟩ := h.lts
  refine ⟨fun i hi => (h.obN i hi).1, fun t ht => (h.tkN t ht).1, fun i cs t hi => ?_, fun i es hi e he => ?_⟩
  · obtain ⟨b, h1, h2, ⟨vs, h3, h4, h5⟩, h6⟩ := h.obs i _ hi
    rw [fitL_iff]
    intro c hc
    obtain ⟨o, k1, k2⟩ := List.getElem_of_mem hc
    obtain ⟨v, k3, k4⟩ := h4.index (by rw [List.getElem?_eq_getElem k1, k2])
    exact k4.fit l1 l2
  · obtain ⟨b, h1, h2, ⟨ms, cl, h3, h4, h5⟩, h6⟩ := h.obs i _ hi
    obtain ⟨o, k1, k2⟩ := List.getElem_of_mem he
    have k3 : o < ms.length := by omega
    have := h5 o e _ (by rw [List.getElem?_eq_getElem k1, k2]) (List.getElem?_eq_getElem k3)
    exact ⟨this.1.fit l1 l2, this.2.fit l1 l2⟩
def AV.Weak (u v : AV) : Prop := ∀ (G : Gh) (x : Value), Rep G u x → Rep G v x
theorem AV.Weak.refl (u : AV) : u.Weak u := fun _ _ h => h
theorem AV.Weak.any (u : AV) : u.Weak .any := fun _ _ _ => .any _
theorem AV.Weak.forget (u : AV) : u.Weak u.forget := fun _ _ h => h.forget
def OLe (a b : Option AObj) : Prop := a = b ∨ ∃ cs cs' t, a = some (.cells cs' t) ∧ b = some (.cells cs t) ∧ cs'.length = cs.length ∧ (∀ (j : Nat) (c c' : AV), cs[j]? = some c → cs'[j]? = some c' → c.Weak c') ∧ ∀ c' ∈ cs', c'.scal = true
theorem OLe.rfl' (a : Option AObj) : OLe a a := .inl rfl
theorem OLe.ne {a b : Option AObj} (h : OLe a b) (ha : a ≠ none) : b ≠ none := by
  rcases h with rfl | ⟨cs, cs', t, _, rfl, _⟩
  · exact ha
  · simp
theorem OLe.at {a b : Option AObj} (h : OLe a b) {o : AObj} (ha : a = some o) : ∃ o2, b = some o2 ∧ ∀ (G : Gh) (w : World) (k : Nat), ObjAt G w k o2 → ObjAt G w k o := by
  rcases h with rfl | ⟨cs, cs', t, h1, h2, h3, h4, h5⟩
  · exact ⟨o, ha, fun _ _ _ h => h⟩
  · rw [h1] at ha; cases ha
    refine ⟨_, h2, fun G w k ⟨vs, k1, k2, k3⟩ => ⟨vs, k1, ⟨by rw [h3]; exact k2.1, fun j c' v q1 q2 => ?_⟩, h5⟩⟩
    have hj : j < cs.length := by rw [← h3]; exact (List.getElem?_eq_some_iff.1 q1).1
    exact h4 j _ _ (List.getElem?_eq_getElem hj) q1 G v (k2.2 j _ v (List.getElem?_eq_getElem hj) q2)
theorem OLe.weaker {a b : Option AObj} (h : OLe a b) {cs cs' : List AV} {t : TypeId} (ha : a = some (.cells cs t)) (hl : cs'.length = cs.length) (hw : ∀ (j : Nat) (c c' : AV), cs[j]? = some c → cs'[j]? = some c' → c.Weak c') (hs : ∀ c' ∈ cs', c'.scal = true) : OLe (some (.cells cs' t)) b := by
  rcases h with rfl | ⟨ds, ds', u, h1, h2, h3, h4, h5⟩
  · exact .inr ⟨cs, cs', t, rfl, ha, hl, hw, hs⟩
  · rw [h1] at ha; cases ha
    refine .inr ⟨ds, cs', _, rfl, h2, hl.trans h3, fun j c c' q1 q2 => ?_, hs⟩
    have hj : j < cs.length := by rw [← hl]; exact (List.getElem?_eq_some_iff.1 q2).1
    exact fun G x hx => hw j _ _ (List.getElem?_eq_getElem hj) q2 G x (h4 j _ _ q1 (List.getElem?_eq_getElem hj) G x hx)
theorem TLe.at {a b : Option ATok} (h : a = none ∨ a = b) {x : ATok} (ha : a = some x) : b = some x := by
  rcases h with e | e
  · rw [e] at ha; cases ha
  · rw [← e]; exact ha
theorem TLe.ne {a b : Option ATok} (h : a = none ∨ a = b) (ha : a ≠ none) : b ≠ none := by
  rcases h with e | e
  · exact absurd e ha
  · rw [← e]; exact ha
structure AH.Sub (H' H : AH) : Prop where
  wf : H'.WF
  n : H'.n ≤ H.n
  m : H'.m ≤ H.m
  obj : ∀ i, i < H'.n → OLe (H'.obj i) (H.obj i)
  tok : ∀ t, t < H'.m → H'.tok t = none ∨ H'.tok t = H.tok t
theorem AH.Sub.refl {H : AH} (h : H.WF) : H.Sub H := ⟨h, Nat.le_refl _, Nat.le_refl _, fun _ _ => .inl rfl, fun _ _ => .inr rfl⟩
theorem AH.Sub.push {H' H : AH} (h : H'.Sub H) (o : AObj) : H'.Sub (H.push o) :=
  ⟨h.wf, Nat.le_succ_of_le h.n, h.m, fun i hi => by rw [obj_push, if_neg (by have := h.n; omega)]; exact h.obj i hi, h.tok⟩
theorem AH.Sub.put {H' H : AH} (h : H'.Sub H) (i : Nat) (o : AObj) (hi : H'.n ≤ i) : H'.Sub (H.put i o) :=
  ⟨h.wf, h.n, h.m, fun j hj => by rw [obj_put, if_neg (by omega)]; exact h.obj j hj, h.tok⟩
theorem AH.Sub.pushTok {H' H : AH} (h : H'.Sub H) (a : ATok) : H'.Sub (H.pushTok a) :=
  ⟨h.wf, h.n, Nat.le_succ_of_le h.m, h.obj, fun t ht => by rw [tok_pushTok, if_neg (by have := h.m; omega)]; exact h.tok t ht⟩
theorem AH.Sub.putTok {H' H : AH} (h : H'.Sub H) (t : Nat) (a : ATok) (hi : H'.m ≤ t) : H'.Sub (H.putTok t a) :=
  ⟨h.wf, h.n, h.m, h.obj, fun j hj => by rw [tok_putTok, if_neg (by omega)]; exact h.tok j hj⟩
theorem AH.Sub.weak {H' H : AH} (h : H'.Sub H) {i : Nat} {cs cs' : List AV} {t : TypeId} (hi : H'.obj i = some (.cells cs t)) (hl : cs'.length = cs.length) (hw : ∀ (j : Nat) (c c' : AV), cs[j]? = some c → cs'[j]? = some c' → c.Weak c') (hs : ∀ c' ∈ cs', c'.scal = true)
    (hf : AV.fitL H'.n H'.m cs' = true) : (H'.put i (.cells cs' t)).Sub H := by
  have hat : ∀ j, (H'.put i (.cells cs' t)).obj j = if j = i then some (.cells cs' t) else H'.obj j := fun j => by
    rw [obj_put]; split
    · rw [hi]; rfl
    · rfl
  refine ⟨⟨fun j hj => ?_, h.wf.tok, fun j ds u ho => ?_, fun j es ho => ?_⟩, h.n, h.m, fun j hj => ?_, h.tok⟩
  · rw [obj_put_ne]; exact h.wf.obj j hj
  · rw [hat] at ho; split at ho
    · cases ho; exact hf
    · exact h.wf.fit j ds u ho
  · rw [hat] at ho; split at ho
    · cases ho
    · exact h.wf.fitM j es ho
  · rw [hat]; split
    · rename_i e; subst e; exact (h.obj j hj).weaker hi hl hw hs
    · exact h.obj j hj
theorem ObjAt.cut {G : Gh} {w : World} {b : Nat} {o : AObj} {n m : Nat} (h : ObjAt G w b o) (hf : ∀ cs t, o = .cells cs t → AV.fitL n m cs = true) (hm : ∀ es, o = .amap es → ∀ (e : AV × AV), e ∈ es → e.1.fit n m = true ∧ e.2.fit n m = true) : ObjAt (G.cut n m) w b o := by
  cases o with
  | cells cs t => obtain ⟨vs, h1, h2, h3⟩ := h; exact ⟨vs, h1, ⟨h2.1, fun j c v k1 k2 => (h2.2 j c v k1 k2).cut (fitL_at (hf cs t rfl) k1)⟩, h3⟩
  | amap es =>
    obtain ⟨ms, cl, h1, h2, h3⟩ := h
    refine ⟨ms, cl, h1, h2, fun j e q k1 k2 => ?_⟩
    have := hm es rfl e (List.mem_of_getElem? k1)
    exact ⟨(h3 j e q k1 k2).1.cut this.1, (h3 j e q k1 k2).2.cut this.2⟩
  | iter s pos => exact h
theorem Sim.sub {w0 : World} {G : Gh} {H H' : AH} {w : World} (h : Sim w0 G H w) (s : H'.Sub H) : Sim w0 (G.cut H'.n H'.m) H' w := by
  have lt : ∀ i o, H'.obj i = some o → i < H'.n := fun i o ho => by
    rcases Nat.lt_or_ge i H'.n with h1 | h1
    · exact h1
    · rw [s.wf.obj i h1] at ho; cases ho
  have ltt : ∀ t a, H'.tok t = some a → t < H'.m := fun i o ho => by
    rcases Nat.lt_or_ge i H'.m with h1 | h1
    · exact h1
    · rw [s.wf.tok i h1] at ho; cases ho
  have ltn : ∀ i, H'.obj i ≠ none → i < H'.n := fun i hi => by
    cases ho : H'.obj i with
    | none => exact absurd ho hi
    | some o => exact lt i o ho
  have lttn : ∀ i, H'.tok i ≠ none → i < H'.m := fun i hi => by
    cases ho : H'.tok i with
    | none => exact absurd ho hi
    | some o => exact ltt i o ho
  refine ⟨h.below, h.K, ?_, ?_, ?_, ?_, ?_⟩
  · intro i hi
    exact ⟨s.wf.obj i hi, by simp [Gh.cut]; omega⟩
  · intro i o ho
    have hi := lt i o ho
    obtain ⟨o2, e1, e2⟩ := (s.obj i hi).at ho
    obtain ⟨b, h1, h2, h3', h4⟩ := h.obs i o2 e1
    have h3 := e2 _ _ _ h3'
    exact ⟨b, by simp [Gh.cut, hi, h1], h2, h3.cut (fun cs t e => s.wf.fit i cs t (by rw [ho, e])) (fun es e => s.wf.fitM i es (by rw [ho, e])), h4⟩
  · intro i j b hi hj h1 h2
    have hi' := ltn i hi
    have hj' := ltn j hj
    simp only [Gh.cut, hi', hj', if_true] at h1 h2
    exact h.inj i j b ((s.obj i hi').ne hi) ((s.obj j hj').ne hj) h1 h2
  · intro t ht
    exact ⟨s.wf.tok t ht, by simp [Gh.cut]; omega⟩
  · intro t a ha
    have ht := ltt t a ha
    obtain ⟨x, h1, h2, h3, h4⟩ := h.tks t a (TLe.at (s.tok t ht) ha)
    refine ⟨x, by simp [Gh.cut, ht, h1], h2, h3, fun b hb => ⟨(h4 b hb).1, fun i hi => ?_, fun t' x' hne ht' hx' => ?_⟩⟩
    · have hi' := ltn i hi
      simp only [Gh.cut, hi', if_true]
      exact (h4 b hb).2.1 i ((s.obj i hi').ne hi)
    · have ht2 := lttn t' ht'
      simp only [Gh.cut, ht2, if_true] at hx'
      exact (h4 b hb).2.2 t' x' hne (TLe.ne (s.tok t' ht2) ht') hx'
theorem Gh.le_cut {w0 : World} {G0 G : Gh} {H0 : AH} {w : World} (h : G0.le G) (hS : Sim w0 G0 H0 w) {n m : Nat} (hn : H0.n ≤ n) (hm : H0.m ≤ m) : G0.le (G.cut n m) := by
  refine ⟨h.K, fun i b hb => ?_, fun t x hx => ?_⟩
  · have : i < H0.n := by
      rcases Nat.lt_or_ge i H0.n with h1 | h1
      · exact h1
      · rw [(hS.obN i h1).2] at hb; cases hb
    have hlt : i < n := by omega
    simp only [Gh.cut, hlt, if_true]
    exact h.ob i b hb
  · have : t < H0.m := by
      rcases Nat.lt_or_ge t H0.m with h1 | h1
      · exact h1
      · rw [(hS.tkN t h1).2] at hx; cases hx
    have hlt : t < m := by omega
    simp only [Gh.cut, hlt, if_true]
    exact h.tk t x hx
def EWeak (n m : Nat) (env env' : Env) : Prop := ∀ p ∈ env', AV.Weak (look p.1 env) p.2 ∧ p.2.fit n m = true
theorem EWeak.rep {n m : Nat} {env env' : Env} (h : EWeak n m env env') {G : Gh} {N : Nat} {tmps : Array Value} (hE : EnvRep G N env tmps) : EnvRep (G.cut n m) N env' tmps := by
  refine ⟨hE.size, fun k => ?_⟩
  induction env' with
  | nil => exact .any _
  | cons p env' ih =>
    obtain ⟨j, v⟩ := p
    simp only [look]
    split
    · rename_i e; subst e
      obtain ⟨h1, h2⟩ := h (k, v) (List.mem_cons_self ..)
      exact (h1 G _ (hE.rep k)).cut h2
    · exact ih (fun p hp => h p (List.mem_cons_of_mem _ hp))
theorem exists_min (p : Nat → Prop) (h : ∃ n, p n) : ∃ n, p n ∧ ∀ k, p k → n ≤ k := by
  obtain ⟨n, hn⟩ := h
  induction n using Nat.strongRecOn with
  | _ n ih =>
    by_cases hk : ∃ k, k < n ∧ p k
    · obtain ⟨k, h1, h2⟩ := hk; exact ih k h1 h2
    · exact ⟨n, hn, fun k hp => Nat.le_of_not_lt fun hlt => hk ⟨k, hlt, hp⟩⟩
section
variable {P : Program} {w0 : World} {tt : TT} {N : Nat}
theorem AX.facts {x : XCode} {env : Env} {H : AH} {Q : APost} (h : (∀ k, (look k env).Ok) → H.WF → AX P w0 N x env H Q) : AX P w0 N x env H Q :=
  fun c hc hd G a w hS hE had => h (fun k => ⟨G, _, hE.rep k⟩) hS.wf c hc hd G a w hS hE had
theorem AX.weak {x : XCode} {env env' : Env} {H : AH} {Q : APost} (h : AX P w0 N x env' H Q) (he : ∀ p ∈ env', AV.Weak (look p.1 env) p.2) : AX P w0 N x env H Q := by
  intro c hc hd G a w hS hE had
  refine h c hc hd G a w hS ⟨hE.size, fun k => ?_⟩ had
  clear h
  induction env' with
  | nil => exact .any _
  | cons p env' ih =>
    obtain ⟨j, v⟩ := p
    simp only [look]
    split
    · rename_i e; subst e
      exact he (k, v) (List.mem_cons_self ..) G _ (hE.rep k)
    · exact ih (fun p hp => he p (List.mem_cons_of_mem _ hp))
theorem AX.loop (htt : TtOk P tt) {b : XCode} {env : Env} {H : AH} {Q : APost} (I : Nat → Env → AH → Prop) (n : Nat) (h0 : I n env H)
    (step : ∀ n env1 H1, I n env1 H1 → (∀ k, (look k env1).Ok) → H1.WF → awp P w0 tt N b env1 H1 (athen (fun env' H' => ∃ m env'' H'', m < n ∧ H''.Sub H' ∧ H1.n ≤ H''.n ∧ H1.m ≤ H''.m ∧ EWeak H''.n H''.m env' env'' ∧ I m env'' H'') Q)) :
    AX P w0 N (.loop b) env H Q := by
  intro c hc hd G a w hS hE had
  cases c <;> simp only [xc] at hc <;> (try cases hc) <;> (try (split at hc <;> cases hc))
  rename_i c
  -- the relation of the loop: some measure, some frame and heap that fit
  let J : Nat → Act → World → Prop := fun n a' w' => ∃ (G' : Gh) (env' : Env) (H' : AH), G.le G' ∧ Sim w0 G' H' w' ∧ EnvRep G' N env' a'.tmps ∧ a'.defers = [] ∧ I n env' H'
  let μ : Act → World → Nat := fun a' w' => open Classical in if h : ∃ n, J n a' w' then Classical.choose (exists_min (fun n => J n a' w') h) else 0
  have hμ : ∀ a' w' n, J n a' w' → J (μ a' w') a' w' ∧ μ a' w' ≤ n := by
    intro a' w' n hn
    have hex : ∃ n, J n a' w' := ⟨n, hn⟩
    have hspec := Classical.choose_spec (exists_min (fun n => J n a' w') hex)
    have e : μ a' w' = Classical.choose (exists_min (fun n => J n a' w') hex) := dif_pos hex
    rw [e]
    exact ⟨hspec.1, hspec.2 n hn⟩
  refine wp_loop (fun a' w' => ∃ n, J n a' w') μ ⟨n, G, env, H, .refl G, hS, hE, had, h0⟩ ?_
  intro a1 w1 ⟨n1, hn1⟩
  obtain ⟨⟨G1, env1, H1, k1, k2, k3, k4, k5⟩, _⟩ := hμ a1 w1 n1 hn1
  have hb := awp_sound (N := N) htt _ _ _ _ (step _ env1 H1 k5 (fun k => ⟨G1, _, k3.rep k⟩) k2.wf) c rfl (by simpa [dstOk] using hd)
  refine wp_mono (hb G1 a1 w1 k2 k3 k4) fun e a' w' ⟨G', env', H', h1, h2, h3, h4, h5⟩ => ?_
  cases e with
  | normal =>
    obtain ⟨m, env'', H'', q1, q2, q3, q4, q5, q6⟩ := h5
    have hJ : J m a' w' := ⟨G'.cut H''.n H''.m, env'', H'', k1.trans (Gh.le_cut h1 k2 q3 q4), h2.sub q2, q5.rep h3, h4, q6⟩
    exact ⟨⟨m, hJ⟩, Nat.lt_of_le_of_lt (hμ a' w' m hJ).2 q1⟩
  | _ => exact ⟨G', env', H', k1.trans h1, h2, h3, h4, h5⟩
theorem AX.loopK (htt : TtOk P tt) {b : XCode} {env : Env} {H : AH} {Q : APost} (I : Nat → Env → AH → Prop) (n : Nat) (h0 : I n env H)
    (step : ∀ n env1 H1, I n env1 H1 → (∀ k, (look k env1).Ok) → H1.WF → ∀ (K : Env → AH → Prop) (R : APost), (∀ env' H' m env'' H'', m < n → H''.Sub H' → H1.n ≤ H''.n → H1.m ≤ H''.m → EWeak H''.n H''.m env' env'' → I m env'' H'' → K env' H') →
      (∀ e env' H', Q e env' H' → R e env' H') → awp P w0 tt N b env1 H1 (athen K R)) :
    AX P w0 N (.loop b) env H Q :=
  AX.loop htt I n h0 fun n env1 H1 h1 h2 h3 => step n env1 H1 h1 h2 h3 _ _ (fun env' H' m env'' H'' q1 q2 q3 q4 q5 q6 => ⟨m, env'', H'', q1, q2, q3, q4, q5, q6⟩) (fun _ _ _ h => h)
end
end Go.Ai
