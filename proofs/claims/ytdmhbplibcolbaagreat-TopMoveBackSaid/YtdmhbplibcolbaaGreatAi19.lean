/- A part of the proof: no statement of the seat is proved in this text. -/
import Derived.Test.YtdmhbplibcolbaaGreatAi18
set_option linter.unusedVariables false
set_option linter.unusedSimpArgs false
namespace Go.Ai
open Go Go.RowKit
def EW0 (env env' : Env) : Prop := ∀ p ∈ env', AV.Weak (look p.1 env) p.2
@[go_sem] theorem EW0_nil (env : Env) : EW0 env [] = True := by simp [EW0]
@[go_sem] theorem EW0_cons (env : Env) (k : Nat) (v : AV) (e : Env) : EW0 env ((k, v) :: e) = (AV.Weak (look k env) v ∧ EW0 env e) := by simp [EW0]
@[go_sem] theorem EWeak_nil (n m : Nat) (env : Env) : EWeak n m env [] = True := by simp [EWeak]
@[go_sem] theorem EWeak_cons (n m : Nat) (env : Env) (k : Nat) (v : AV) (e : Env) : EWeak n m env ((k, v) :: e) = ((AV.Weak (look k env) v ∧ v.fit n m = true) ∧ EWeak n m env e) := by simp [EWeak]
@[go_sem] theorem Weak_self (v : AV) : AV.Weak v v = True := by simp [AV.Weak.refl]
@[go_sem] theorem Weak_any (v : AV) : AV.Weak v .any = True := by simp [AV.Weak.any]
theorem Weak_of {u v : AV} (h : u = v) : AV.Weak u v := h ▸ AV.Weak.refl u
section
variable {P : Program} {w0 : World} {tt : TT} {N : Nat}
theorem AX.iter (htt : TtOk P tt) {b : XCode} {env : Env} {H : AH} {Q : APost} {S : Type} (E : S → Env) (T : S → AH) (μ : S → Nat) (inv : S → Prop) (s0 : S) (hE : EW0 env (E s0)) (hT : T s0 = H) (h0 : inv s0)
    (step : ∀ s, inv s → (∀ k, (look k (E s)).Ok) → (T s).WF → ∀ (K : KE) (R : APost), (∀ env' H' s', μ s' < μ s → inv s' → (T s').Sub H' → (T s).n ≤ (T s').n → (T s).m ≤ (T s').m → EWeak (T s').n (T s').m env' (E s') → K env' H') →
      (∀ e env' H', Q e env' H' → R e env' H') → awpC P w0 tt N b (athen K R) (E s) (T s)) : AX P w0 N (.loop b) env H Q := by
  refine AX.weak (env' := E s0) ?_ hE
  refine AX.loopK htt (fun n env H => ∃ s, env = E s ∧ H = T s ∧ n = μ s ∧ inv s) (μ s0) ⟨s0, rfl, hT.symm, rfl, h0⟩ ?_
  rintro n env1 H1 ⟨s, rfl, rfl, rfl, hi⟩ hk hwf K R hK hR
  exact step s hi hk hwf K R (fun env' H' s' h1 h2 h3 h4 h5 h6 => hK env' H' (μ s') _ _ h1 h3 h4 h5 h6 ⟨s', rfl, rfl, rfl, h2⟩) hR
theorem AX.iter0 (htt : TtOk P tt) {b : XCode} {env : Env} {H : AH} {Q : APost} {S : Type} (E : S → Env) (μ : S → Nat) (inv : S → Prop) (s0 : S) (hE : EW0 env (E s0)) (h0 : inv s0)
    (step : ∀ s, inv s → (∀ k, (look k (E s)).Ok) → H.WF → ∀ (K : KE) (R : APost), (∀ env' H' s', μ s' < μ s → inv s' → H.Sub H' → EWeak H.n H.m env' (E s') → K env' H') →
      (∀ e env' H', Q e env' H' → R e env' H') → awpC P w0 tt N b (athen K R) (E s) H) : AX P w0 N (.loop b) env H Q :=
  AX.iter htt E (fun _ => H) μ inv s0 hE rfl h0 fun s h1 h2 h3 K R hK hR => step s h1 h2 h3 K R (fun env' H' s' k1 k2 k3 k4 => hK env' H' s' k1 k2 k3 (Nat.le_refl _) (Nat.le_refl _) k4) hR
theorem AX.own0 {x : XCode} {env : Env} {H : AH} {Q : APost} {k : Nat} (e : TypeId) (sz : Nat) (hk : look k env = .nilS) (h : AX P w0 N x ((k, .own [] H.m) :: env) (H.pushTok ⟨0, e, sz⟩) Q) : AX P w0 N x env H Q := by
  intro c hc hd G a w hS hE had
  obtain ⟨h8, h9⟩ := hS.addTok (x := ⟨.slice none 0 0, 0, e, sz, []⟩) (World.ownsRow_nil w _ _ _) (fun b hb => by simp [Value.ownBlock] at hb)
  refine wp_mono (h c hc hd _ a w h8 ⟨hE.size, fun j => ?_⟩ had) fun ex a' w' ⟨G', env', H', k1, k2, k3, k4, k5⟩ => ⟨G', env', H', h9.trans k1, k2, k3, k4, k5⟩
  simp only [look]
  split
  · rename_i ej
    subst ej
    have := hE.rep j
    rw [hk] at this
    generalize a.tmps.getD j undef = v at this
    cases this
    exact .own _ _ _ _ (by simp [Gh.addTk]; rfl) (by simp) (fun _ => rfl) (by simp) .sliceNil
  · exact (hE.rep j).mono h9
theorem AX.own0c {x : XCode} {env : Env} {H : AH} {Q : APost} {id : Nat} (e : TypeId) (sz : Nat) {t : TypeId} (hk : H.obj id = some (.cells [.nilS] t)) (h : AX P w0 N x env ((H.pushTok ⟨0, e, sz⟩).put id (.cells [.own [] H.m] t)) Q) : AX P w0 N x env H Q := by
  intro c hc hd G a w hS hE had
  obtain ⟨h8, h9⟩ := hS.addTok (x := ⟨.slice none 0 0, 0, e, sz, []⟩) (World.ownsRow_nil w _ _ _) (fun b hb => by simp [Value.ownBlock] at hb)
  obtain ⟨b, q1, q2, ⟨vs, q3, q4, q5⟩, q6⟩ := h8.obs id _ (show (H.pushTok ⟨0, e, sz⟩).obj id = _ from hk)
  obtain ⟨v, vs', rfl, q7, q8⟩ := q4.form
  have := q8.form_nil
  subst this
  have hv : v = .slice none 0 0 := by cases q7; rfl
  have hself : w.grownBy w (some b) := ⟨rfl, rfl, rfl, Nat.le_refl _, fun _ _ _ => rfl⟩
  have h10 := h8.setObj (o' := .cells [.own [] H.m] t) (show (H.pushTok ⟨0, e, sz⟩).obj id = _ from hk) q1 hself ⟨[v], q3, .cons (by
    rw [hv]; exact .own _ _ _ _ (by simp [Gh.addTk]; rfl) (by simp) (fun _ => rfl) (by simp) .sliceNil) (.nil _), by simp [AV.scal]⟩
  exact wp_mono (h c hc hd _ a w h10 (hE.mono h9) had) fun ex a' w' ⟨G', env', H', k1, k2, k3, k4, k5⟩ => ⟨G', env', H', h9.trans k1, k2, k3, k4, k5⟩
theorem ACalls.own0c {f : FuncId} {args : List AV} {H : AH} {Q : AV → AH → Prop} {id : Nat} (e : TypeId) (sz : Nat) {t : TypeId} (hk : H.obj id = some (.cells [.nilS] t)) (h : ACalls P w0 f args ((H.pushTok ⟨0, e, sz⟩).put id (.cells [.own [] H.m] t)) Q) : ACalls P w0 f args H Q := by
  refine ⟨h.fn, fun G w vs hS hr => ?_⟩
  obtain ⟨h8, h9⟩ := hS.addTok (x := ⟨.slice none 0 0, 0, e, sz, []⟩) (World.ownsRow_nil w _ _ _) (fun b hb => by simp [Value.ownBlock] at hb)
  obtain ⟨b, q1, q2, ⟨us, q3, q4, q5⟩, q6⟩ := h8.obs id _ (show (H.pushTok ⟨0, e, sz⟩).obj id = _ from hk)
  obtain ⟨v, vs', rfl, q7, q8⟩ := q4.form
  have := q8.form_nil
  subst this
  have hv : v = .slice none 0 0 := by cases q7; rfl
  have hself : w.grownBy w (some b) := ⟨rfl, rfl, rfl, Nat.le_refl _, fun _ _ _ => rfl⟩
  have h10 := h8.setObj (o' := .cells [.own [] H.m] t) (show (H.pushTok ⟨0, e, sz⟩).obj id = _ from hk) q1 hself ⟨[v], q3, .cons (by
    rw [hv]; exact .own _ _ _ _ (by simp [Gh.addTk]; rfl) (by simp) (fun _ => rfl) (by simp) .sliceNil) (.nil _), by simp [AV.scal]⟩
  exact (h.run _ w vs h10 (hr.mono h9)).mono fun e w' ⟨v, r, G', H', k1, k2, k3, k4, k5⟩ => ⟨v, r, G', H', k1, h9.trans k2, k3, k4, k5⟩
theorem AX.weakH {x : XCode} {env env' : Env} {H H' : AH} {Q : APost} (hs : H'.Sub H) (hn : H'.n = H.n) (hm : H'.m = H.m) (he : EWeak H'.n H'.m env env') (h : AX P w0 N x env' H' Q) : AX P w0 N x env H Q := by
  intro c hc hd G a w hS hE had
  exact wp_mono (h c hc hd (G.cut H'.n H'.m) a w (hS.sub hs) (he.rep hE) had) fun ex a' w' ⟨G', env'', H'', k1, k2, k3, k4, k5⟩ => ⟨G', env'', H'', (Gh.le_cut (.refl G) hS (by omega) (by omega)).trans k1, k2, k3, k4, k5⟩
end
mutual
theorem fit_mono {n n' m m' : Nat} (hn : n ≤ n') (hm : m ≤ m') : (a : AV) → a.fit n m = true → a.fit n' m' = true
  | .slice l, h => by simp only [AV.fit] at h ⊢; exact fitL_mono hn hm l h
  | .own l t, h => by simp only [AV.fit, Bool.and_eq_true, decide_eq_true_eq] at h ⊢; exact ⟨by omega, fitL_mono hn hm l h.2⟩
  | .lit l, h => by simp only [AV.fit] at h ⊢; exact fitL_mono hn hm l h
  | .ptr i o, h => by simp only [AV.fit, decide_eq_true_eq] at h ⊢; omega
  | .rptr l, h => by simp only [AV.fit] at h ⊢; exact fitL_mono hn hm l h
  | .fn f l, h => by simp only [AV.fit] at h ⊢; exact fitL_mono hn hm l h
  | .agg l, h => by simp only [AV.fit] at h ⊢; exact fitL_mono hn hm l h
  | .tup l, h => by simp only [AV.fit] at h ⊢; exact fitL_mono hn hm l h
  | .map i, h => by simp only [AV.fit, decide_eq_true_eq] at h ⊢; omega
  | .any, _ => rfl
  | .int _ _, _ => rfl
  | .bool _, _ => rfl
  | .str _, _ => rfl
  | .nilS, _ => rfl
  | .nilP, _ => rfl
  | .nilF, _ => rfl
  | .nilM, _ => rfl
  | .raw _, _ => rfl
theorem fitL_mono {n n' m m' : Nat} (hn : n ≤ n') (hm : m ≤ m') : (l : List AV) → AV.fitL n m l = true → AV.fitL n' m' l = true
  | [], _ => rfl
  | a :: l, h => by
    simp only [AV.fitL, Bool.and_eq_true] at h ⊢
    exact ⟨fit_mono hn hm a h.1, fitL_mono hn hm l h.2⟩
end
theorem WF_push {H : AH} (h : H.WF) (o : AObj) (hc : ∀ cs t, o = .cells cs t → AV.fitL (H.n + 1) H.m cs = true) (hm : ∀ es, o = .amap es → ∀ (e : AV × AV), e ∈ es → e.1.fit (H.n + 1) H.m = true ∧ e.2.fit (H.n + 1) H.m = true) : (H.push o).WF := by
  refine ⟨fun i hi => ?_, h.tok, fun i cs t ho => ?_, fun i es ho e he => ?_⟩
  · simp only [push_n] at hi
    rw [obj_push, if_neg (by omega)]
    exact h.obj i (by omega)
  · rw [obj_push] at ho
    split at ho
    · cases ho; exact hc _ _ rfl
    · exact fitL_mono (Nat.le_succ _) (Nat.le_refl _) cs (h.fit i cs t ho)
  · rw [obj_push] at ho
    split at ho
    · cases ho; exact hm _ rfl e he
    · have := h.fitM i es ho e he
      exact ⟨fit_mono (Nat.le_succ _) (Nat.le_refl _) _ this.1, fit_mono (Nat.le_succ _) (Nat.le_refl _) _ this.2⟩
theorem WF_push_iter {H : AH} (h : H.WF) (s : ByteArray) (n : Nat) : (H.push (.iter s n)).WF := WF_push h _ (by simp) (by simp)
theorem WF_push_cells {H : AH} (h : H.WF) (cs : List AV) (t : TypeId) (hc : AV.fitL (H.n + 1) H.m cs = true) : (H.push (.cells cs t)).WF := WF_push h _ (by intro a b e; cases e; exact hc) (by simp)
theorem put_push_self (H : AH) (x y : AObj) : (H.push x).put H.n y = H.push y := by simp [AH.put, AH.push, aset]
@[go_sem] theorem put_self (H : AH) (x y : AObj) (i : Nat) (h : (i == H.n) = true) : (H.push x).put i y = H.push y := by have h := eq_of_beq h; subst h; exact put_push_self H x y
@[go_sem] theorem put_over (H : AH) (x y : AObj) (i : Nat) (h : ¬ i = H.n) : (H.push x).put i y = (H.put i y).push x := AH.put_push h y x
@[go_sem] theorem put_overTok (H : AH) (x : ATok) (y : AObj) (i : Nat) : (H.pushTok x).put i y = (H.put i y).pushTok x := rfl
@[go_sem] theorem putTok_over (H : AH) (x : AObj) (y : ATok) (i : Nat) : (H.push x).putTok i y = (H.putTok i y).push x := rfl
@[go_sem] theorem putTok_overTok (H : AH) (x y : ATok) (i : Nat) (h : ¬ i = H.m) : (H.pushTok x).putTok i y = (H.putTok i y).pushTok x := AH.putTok_pushTok h y x
@[go_sem high] theorem aconst_empty : aconst (.string { data := #[] }) = .str { data := #[] } := rfl
@[go_sem high] theorem aconst0_empty : aconst0 (.string { data := #[] }) = .str { data := #[] } := rfl
@[go_sem] theorem rg_zero : (([] : List Nat) = List.range' 0 0) = True := by simp
@[go_sem] theorem rg_one : ([0] = List.range' 0 1) = True := by simp
@[go_sem] theorem self_ne (n k : Nat) : (n = n + (k + 1)) = False := by simp
@[go_sem] theorem self_ne' (n k : Nat) : (n + (k + 1) = n) = False := by simp
@[go_sem] theorem putTok_self (H : AH) (x y : ATok) (t : Nat) (h : (t == H.m) = true) : (H.pushTok x).putTok t y = H.pushTok y := by have h := eq_of_beq h; subst h; simp [AH.putTok, AH.pushTok, aset]
theorem WF_pushTok {H : AH} (h : H.WF) (a : ATok) : (H.pushTok a).WF := by
  refine ⟨h.obj, fun t ht => ?_, fun i cs t ho => fitL_mono (Nat.le_refl _) (Nat.le_succ _) cs (h.fit i cs t ho), fun i es ho e he => ?_⟩
  · simp only [pushTok_m] at ht
    rw [tok_pushTok, if_neg (by omega)]; exact h.tok t (by omega)
  · have := h.fitM i es ho e he
    exact ⟨fit_mono (Nat.le_refl _) (Nat.le_succ _) _ this.1, fit_mono (Nat.le_refl _) (Nat.le_succ _) _ this.2⟩
@[go_sem] theorem fitL_append (n m : Nat) (a b : List AV) : AV.fitL n m (a ++ b) = (AV.fitL n m a && AV.fitL n m b) := by
  induction a with
  | nil => simp [AV.fitL]
  | cons x a ih => simp [AV.fitL, ih, Bool.and_assoc]
attribute [go_sem] beq_self_eq_true
@[go_sem] theorem btt : (true == true) = true := rfl
@[go_sem] theorem btf : (true == false) = false := rfl
@[go_sem] theorem bft : (false == true) = false := rfl
@[go_sem] theorem bff : (false == false) = true := rfl
theorem AV.Ok.int {k : IntKind} {n : Int} (h : (AV.int k n).Ok) : k.wrap n = n := by obtain ⟨G, v, h⟩ := h; cases h; assumption
theorem AV.Ok.i64 {n : Int} (h : (AV.int .i64 n).Ok) : -9223372036854775808 ≤ n ∧ n ≤ 9223372036854775807 := wrap_i64.1 h.int
theorem AV.Ok.str {s : ByteArray} (h : (AV.str s).Ok) : s.size ≤ 281474976710656 := by obtain ⟨G, v, h⟩ := h; cases h; assumption
theorem Rep.slice_len {G : Gh} {l : List AV} {v : Value} (h : Rep G (.slice l) v) : l.length ≤ 281474976710656 := by
  cases h with
  | slice l n b off cap sz ws hn hc hb hu hk hr => omega
  | sliceNil => simp
  | sliceE a cap => simp
theorem AV.Ok.slice {l : List AV} (h : (AV.slice l).Ok) : l.length ≤ 281474976710656 := by obtain ⟨G, v, h⟩ := h; exact h.slice_len
theorem AV.Ok.own {l : List AV} {t : Nat} (h : (AV.own l t).Ok) : l.length ≤ 281474976710656 := by
  obtain ⟨G, v, h⟩ := h
  cases h with
  | own l t v tok ht hle hv hsz h => exact h.slice_len
theorem AV.Ok.lit {l : List AV} (h : (AV.lit l).Ok) : l.length ≤ 281474976710656 := by
  obtain ⟨G, v, h⟩ := h
  cases h with
  | lit l a h => exact h.slice_len
theorem AV.Ok.agg {cs : List AV} (h : (AV.agg cs).Ok) {c : AV} (hc : c ∈ cs) : c.Ok := by
  obtain ⟨G, v, h⟩ := h
  cases h with
  | agg cs vs hl hr =>
    obtain ⟨j, hj, rfl⟩ := List.getElem_of_mem hc
    exact ⟨G, vs[j]'(by omega), hr j _ _ (List.getElem?_eq_getElem hj) (List.getElem?_eq_getElem (by omega))⟩
theorem AV.Ok.tup {cs : List AV} (h : (AV.tup cs).Ok) {c : AV} (hc : c ∈ cs) : c.Ok := by
  obtain ⟨G, v, h⟩ := h
  cases h with
  | tup cs vs hl hr =>
    obtain ⟨j, hj, rfl⟩ := List.getElem_of_mem hc
    exact ⟨G, vs[j]'(by omega), hr j _ _ (List.getElem?_eq_getElem hj) (List.getElem?_eq_getElem (by omega))⟩
theorem flat_mid (pre post : List AV) (y : AV) (o : Nat) (ho : o < y.cells.length) : (flat (pre ++ y :: post))[(flat pre).length + o]? = y.cells[o]? := by
  simp only [flat, List.flatMap_append, List.flatMap_cons]
  rw [List.getElem?_append_right (by omega), Nat.add_sub_cancel_left, List.getElem?_append_left ho]
theorem AV.Ok.elem_agg {l : List AV} {cs : List AV} (h : (AV.slice l).Ok) (hm : AV.agg cs ∈ l) : (AV.agg cs).Ok := by
  obtain ⟨G, v, h⟩ := h
  obtain ⟨pre, post, hl⟩ := List.append_of_mem hm
  cases h with
  | slice l n b off cap sz ws hn hc hb hu hk hr =>
    subst hl
    refine ⟨G, .agg ((List.range cs.length).map fun o => ws ((flat pre).length + o)).toArray, .agg cs _ (by simp) fun j c v h1 h2 => ?_⟩
    have hj : j < cs.length := (List.getElem?_eq_some_iff.1 h1).1
    simp [hj] at h2
    subst h2
    exact hr _ c (by rw [flat_mid pre post (.agg cs) j hj]; exact h1)
  | sliceNil => simp at hl
  | sliceE a cap => simp at hl
theorem AV.Ok.elem_cell {l : List AV} {c : AV} (h : (AV.slice l).Ok) (hm : c ∈ l) (hc : c.cells = [c]) : c.Ok := by
  obtain ⟨G, v, h⟩ := h
  obtain ⟨pre, post, hl⟩ := List.append_of_mem hm
  cases h with
  | slice l n b off cap sz ws hn hcp hb hu hk hr =>
    subst hl
    exact ⟨G, _, hr ((flat pre).length + 0) c (by rw [flat_mid pre post c 0 (by simp [hc]), hc]; rfl)⟩
  | sliceNil => simp at hl
  | sliceE a cap => simp at hl
theorem at_of {α : Type} {pre post l : List α} {k : α} (h : pre ++ k :: post = l) (e : α → AV) : (l.map e)[((pre.length : Int)).toNat]? = some (e k) := by subst h; simp
theorem lt_of {α : Type} {pre post l : List α} {k : α} (h : pre ++ k :: post = l) (e : α → AV) : decide ((pre.length : Int) < ((l.map e).length : Int)) = true := by subst h; simp; omega
theorem ge_of {α : Type} {pre l : List α} (h : pre ++ [] = l) (e : α → AV) : decide ((pre.length : Int) < ((l.map e).length : Int)) = false := by subst h; simp
theorem mem_of {α : Type} {pre post l : List α} {k : α} (h : pre ++ k :: post = l) : k ∈ l := by subst h; simp
theorem snoc_of {α : Type} {pre post l : List α} {k : α} (h : pre ++ k :: post = l) : (pre ++ [k]) ++ post = l := by subst h; simp
theorem len_of {α : Type} {pre post l : List α} {k : α} (h : pre ++ k :: post = l) : pre.length < l.length := by subst h; simp
theorem len_snoc {α : Type} (pre : List α) (k : α) : (((pre ++ [k]).length : Nat) : Int) = (pre.length : Int) + 1 := by simp
theorem at_mid {α : Type} (e : α → AV) (pre post : List α) (k : α) : ((pre ++ k :: post).map e)[((pre.length : Int)).toNat]? = some (e k) := by simp
attribute [go_sem] List.mem_singleton forall_eq List.not_mem_nil false_imp_iff implies_true Int.reduceToNat Int.reduceLT decide_true decide_false Nat.reduceEqDiff Nat.reduceAdd Int.reduceLE Int.reduceNeg Nat.reduceLeDiff Nat.reduceLT
attribute [go_sem ↓] reduceIte
attribute [go_sem] Int.reduceEq List.map_nil List.length_nil List.map_cons List.length_cons
end Go.Ai
