/- A part of the proof: no statement of the seat is proved in this text. -/
import Derived.Test.YtdmhbplibcolbaaGreatAi12e
set_option linter.unusedVariables false
set_option linter.unusedSimpArgs false
namespace Go.Ai
open Go Go.RowKit
def tlook (j : Nat) : List (Nat × Touch) → Touch
  | [] => .none
  | (i, t) :: r => if j = i then t else tlook j r
def dclear (T : List (Nat × Touch)) : List (Nat × Nat) → Prop
  | [] => True
  | (j, i) :: r => (tlook j T).indep (tlook i T) ∧ dclear T r
def dcheck (l : List XOp) (af : List (List Nat)) : Bool :=
  (List.range l.length).all fun i => (af.getD i []).all (· < i) && (List.range i).all fun j => (af.getD i []).contains j || XOp.apart (l.getD j default) (l.getD i default)
def dpairs (l : List XOp) (af : List (List Nat)) : List (Nat × Nat) :=
  (List.range l.length).flatMap fun i => ((List.range i).filter fun j => !(af.getD i []).contains j && kclash (l.getD j default).xo.kind (l.getD i default).xo.kind).map fun j => (j, i)
def dclos (af : List (List Nat)) : List (List Nat) := af.foldl (fun acc l => acc ++ [l ++ l.flatMap fun j => acc.getD j []]) []
def dpairs2 (l : List XOp) (af : List (List Nat)) : List (Nat × Nat) :=
  (List.range l.length).flatMap fun i => ((List.range i).filter fun j => kclash (l.getD j default).xo.kind (l.getD i default).xo.kind && !((dclos af).getD i []).contains j).map fun j => (j, i)
def touchRd (i : Nat) (a : AV) (T : List (Nat × Touch)) : List (Nat × Touch) := match a with | .ptr id _ => (i, .rd id) :: T | _ => T
def touchWr (i : Nat) (a : AV) (T : List (Nat × Touch)) : List (Nat × Touch) := match a with | .ptr id _ => (i, .wr id) :: T | _ => T
def touchAp (i : Nat) (a : AV) (m : Nat) (T : List (Nat × Touch)) : List (Nat × Touch) := match a with | .own _ t => (i, .tw t) :: T | .nilS => (i, .ta m) :: T | _ => T
section
variable (P : Program) (w0 : World) (tt : TT)
def PCalls (f : FuncId) (args : List AV) (K : AV → Prop) : Prop := ∃ r, (∀ H, ACalls P w0 f args H fun r' H' => r' = r ∧ H' = H) ∧ K r
abbrev KT := List (Nat × Touch) → Env → AH → Prop
def dexec (i : Nat) (T : List (Nat × Touch)) (xo : XO) (d : Option Nat) (env : Env) (H : AH) (K : KT) : Prop :=
  match xo with
  | .call f args => PCalls P w0 f (args.map (aev env)) fun r => K T (eput d r env) H
  | .callv x args => withFn (aev env x) fun f caps => PCalls P w0 f (args.map (aev env) ++ caps) fun r => K T (eput d r env) H
  | .raw _ _ => False
  | .range _ _ => False
  | .next _ => False
  | .load t a => astepK tt env H (.load t a) fun v H' => K (touchRd i (aev env a) T) (eput d v env) H'
  | .store t a x => astepK tt env H (.store t a x) fun v H' => K (touchWr i (aev env a) T) (eput d v env) H'
  | .alloc e => astepK tt env H (.alloc e) fun v H' => K ((i, .al H.n) :: T) (eput d v env) H'
  | .box e x => astepK tt env H (.box e x) fun v H' => K ((i, .al H.n) :: T) (eput d v env) H'
  | .empty t => astepK tt env H (.empty t) fun v H' => K ((i, .ta H.m) :: T) (eput d v env) H'
  | .append t x y => astepK tt env H (.append t x y) fun v H' => K (touchAp i (aev env x) H.m T) (eput d v env) H'
  | xo => astepK tt env H xo fun v H' => K T (eput d v env) H'
def drun : Nat → List XOp → List (Nat × Touch) → Env → AH → KT → Prop
  | _, [], T, env, H, K => K T env H
  | i, o :: l, T, env, H, K => match o.guard with
    | none => dexec P w0 tt i T o.xo o.dst env H fun T' env' H' => drun (i + 1) l T' env' H' K
    | some (some k, b) => withGuard (look k env) (fun c => aguard c b (dexec P w0 tt i T o.xo o.dst ((k, .bool b) :: env) H fun T' env' H' => drun (i + 1) l T' env' H' K) (drun (i + 1) l T (eput o.dst (.tup []) ((k, .bool (!b)) :: env)) H K)) (drun (i + 1) l T (eput o.dst (.tup []) env) H K)
    | some (none, _) => False
end
section
variable {P : Program} {w0 : World} {tt : TT}
theorem astep_pure {env : Env} {H H' : AH} {xo : XO} {v : AV} (hk : xo.kind = 0) (h : astep tt env H xo v H') : H = H' ∧ ∀ H'', astep tt env H'' xo v H'' := by
  cases xo with
  | move x => obtain ⟨rfl, rfl⟩ := h; exact ⟨rfl, fun _ => ⟨rfl, rfl⟩⟩
  | pick c a b => obtain ⟨t, h1, rfl, rfl⟩ := h; exact ⟨rfl, fun _ => ⟨t, h1, rfl, rfl⟩⟩
  | bin op t x y => obtain ⟨h, rfl⟩ := h; exact ⟨rfl, fun _ => ⟨h, rfl⟩⟩
  | un op x => obtain ⟨h, rfl⟩ := h; exact ⟨rfl, fun _ => ⟨h, rfl⟩⟩
  | conv s t x =>
    obtain ⟨i, j, k, h1, h2, h3, h⟩ := h
    refine ⟨?_, fun H'' => ⟨i, j, k, h1, h2, h3, ?_⟩⟩ <;> split at h <;> first | exact h.2 | exact ⟨h.1, rfl⟩ | cases h
  | fieldAddr s x f =>
    obtain ⟨i, o, z, g, h1, h2, h⟩ := h
    refine ⟨?_, fun H'' => ⟨i, o, z, g, h1, h2, ?_⟩⟩ <;> split at h <;> first | exact h.2 | exact ⟨h.1, rfl⟩ | cases h
  | field s x f => obtain ⟨i, o, z, g, h1, h2, cs, h3, h4, rfl, rfl⟩ := h; exact ⟨rfl, fun _ => ⟨i, o, z, g, h1, h2, cs, h3, h4, rfl, rfl⟩⟩
  | indexAddr t x ix =>
    obtain ⟨i, k, n, h1, h2, h3, h⟩ := h
    refine ⟨?_, fun H'' => ⟨i, k, n, h1, h2, h3, ?_⟩⟩
    · split at h
      · obtain ⟨j, l, y, h4, h5, h6, h7, rfl, rfl⟩ := h; rfl
      · obtain ⟨j, h4, h5, h⟩ := h
        split at h
        · exact h.2
        · cases h
      · cases h
    · split at h
      · obtain ⟨j, l, y, h4, h5, h6, h7, rfl, rfl⟩ := h; exact ⟨j, l, y, h4, h5, h6, h7, rfl, rfl⟩
      · obtain ⟨j, h4, h5, h⟩ := h
        refine ⟨j, h4, h5, ?_⟩
        split at h
        · exact ⟨h.1, rfl⟩
        · cases h
      · cases h
  | index t x ix =>
    obtain ⟨i, k, n, h1, h2, h3, h⟩ := h
    refine ⟨?_, fun H'' => ⟨i, k, n, h1, h2, h3, ?_⟩⟩
    · split at h
      · obtain ⟨s, h4, h5, rfl, rfl⟩ := h; rfl
      · obtain ⟨j, cs, h4, h5, h6, h7, h8, rfl, rfl⟩ := h; rfl
      · cases h
    · split at h
      · obtain ⟨s, h4, h5, rfl, rfl⟩ := h; exact ⟨s, h4, h5, rfl, rfl⟩
      · obtain ⟨j, cs, h4, h5, h6, h7, h8, rfl, rfl⟩ := h; exact ⟨j, cs, h4, h5, h6, h7, h8, rfl, rfl⟩
      · cases h
  | slice t x lo hi =>
    obtain ⟨i, h1, h⟩ := h
    refine ⟨?_, fun H'' => ⟨i, h1, ?_⟩⟩
    · split at h
      · obtain ⟨j, l, a, b, h2, h3, h4, h5, h6, h7, h8, h9, rfl, rfl⟩ := h; rfl
      · obtain ⟨s, a, b, h2, h3, h4, h5, h6, h7, rfl, rfl⟩ := h; rfl
      · cases h
    · split at h
      · obtain ⟨j, l, a, b, h2, h3, h4, h5, h6, h7, h8, h9, rfl, rfl⟩ := h; exact ⟨j, l, a, b, h2, h3, h4, h5, h6, h7, h8, h9, rfl, rfl⟩
      · obtain ⟨s, a, b, h2, h3, h4, h5, h6, h7, rfl, rfl⟩ := h; exact ⟨s, a, b, h2, h3, h4, h5, h6, h7, rfl, rfl⟩
      · cases h
  | extract x n => obtain ⟨vs, h1, h2, rfl⟩ := h; exact ⟨rfl, fun _ => ⟨vs, h1, h2, rfl⟩⟩
  | mkfn f caps => obtain ⟨rfl, rfl⟩ := h; exact ⟨rfl, fun _ => ⟨rfl, rfl⟩⟩
  | buildSlice t n ps =>
    obtain ⟨i, h1, h⟩ := h
    refine ⟨?_, fun H'' => ⟨i, h1, ?_⟩⟩
    · split at h
      · obtain ⟨j, h2, h3, h4, h5, h6, rfl, rfl⟩ := h; rfl
      · cases h
    · split at h
      · obtain ⟨j, h2, h3, h4, h5, h6, rfl, rfl⟩ := h; exact ⟨j, h2, h3, h4, h5, h6, rfl, rfl⟩
      · cases h
  | build t ps => obtain ⟨i, ds, h1, h2, rfl, rfl⟩ := h; exact ⟨rfl, fun _ => ⟨i, ds, h1, h2, rfl, rfl⟩⟩
  | len t x =>
    obtain ⟨i, h1, h⟩ := h
    refine ⟨?_, fun H'' => ⟨i, h1, ?_⟩⟩
    · split at h
      · obtain ⟨l, h2, rfl, rfl⟩ := h; rfl
      · obtain ⟨l, h2, rfl, rfl⟩ := h; rfl
      · cases h
    · split at h
      · obtain ⟨l, h2, rfl, rfl⟩ := h; exact ⟨l, h2, rfl, rfl⟩
      · obtain ⟨l, h2, rfl, rfl⟩ := h; exact ⟨l, h2, rfl, rfl⟩
      · cases h
  | max x y => obtain ⟨k, n, m, h1, h2, rfl, rfl⟩ := h; exact ⟨rfl, fun _ => ⟨k, n, m, h1, h2, rfl, rfl⟩⟩
  | range t x => cases hk
  | next x => cases hk
  | alloc e => cases hk
  | box e x => cases hk
  | load t a => cases hk
  | store t a x => cases hk
  | empty t => cases hk
  | append t x y => cases hk
  | call f args => cases h
  | callv x args => cases h
  | raw op ty => cases h
theorem dexec_rel {i : Nat} {T : List (Nat × Touch)} {xo : XO} {d : Option Nat} {env : Env} {H : AH} {K : KT} (h : dexec P w0 tt i T xo d env H K) :
    ∃ v E, dstep P w0 tt env xo v E ∧ (E.touch = .none ∨ E.touch.kind = xo.kind) ∧ E.agree H ∧ K (if E.touch = .none then T else (i, E.touch) :: T) (eput d v env) (E.ap H) := by
  have pure0 : xo.kind = 0 → (∀ v H', astep tt env H xo v H' → ∀ H'', XStep P w0 tt env H'' xo v H'' ↔ astep tt env H'' xo v H'') → (astepK tt env H xo fun v H' => K T (eput d v env) H') →
      ∃ v E, dstep P w0 tt env xo v E ∧ (E.touch = .none ∨ E.touch.kind = xo.kind) ∧ E.agree H ∧ K (if E.touch = .none then T else (i, E.touch) :: T) (eput d v env) (E.ap H) := by
    intro hk hx h
    obtain ⟨v, H', h1, h2⟩ := astepK_rel h
    obtain ⟨rfl, h3⟩ := astep_pure hk h1
    exact ⟨v, .none, fun H'' _ => (hx v H h1 H'').2 (h3 H''), .inl rfl, trivial, by simpa [DE.touch, DE.ap] using h2⟩
  cases xo with
  | call f args => obtain ⟨r, h1, h2⟩ := h; exact ⟨r, .none, fun H' _ => h1 H', .inl rfl, trivial, by simpa [DE.touch, DE.ap] using h2⟩
  | callv x args =>
    obtain ⟨f, caps, h0, r, h1, h2⟩ := withFn_iff h
    exact ⟨r, .none, fun H' _ => ⟨f, caps, h0, h1 H'⟩, .inl rfl, trivial, by simpa [DE.touch, DE.ap] using h2⟩
  | raw op ty => cases h
  | range t x => cases h
  | next x => cases h
  | load t a =>
    simp only [dexec] at h
    obtain ⟨v, H', h1, h2⟩ := astepK_rel h
    obtain ⟨j, h3, h4, h1⟩ := h1
    split at h1
    · rename_i id off hx
      obtain ⟨cs, e, h5, h6, rfl, rfl⟩ := h1
      refine ⟨_, .ld id (H.obj id), fun H'' hag => ⟨j, h3, h4, ?_⟩, .inr rfl, rfl, by simpa [DE.touch, DE.ap, touchRd, hx] using h2⟩
      rw [hx]; exact ⟨cs, e, by rw [← h5]; exact hag, h6, rfl, rfl⟩
    · rename_i cs hx
      obtain ⟨h5, rfl, rfl⟩ := h1
      refine ⟨_, .none, fun H'' _ => ⟨j, h3, h4, ?_⟩, .inl rfl, trivial, by simpa [DE.touch, DE.ap, touchRd, hx] using h2⟩
      rw [hx]; exact ⟨h5, rfl, rfl⟩
    · cases h1
  | store t a x =>
    simp only [dexec] at h
    obtain ⟨v, H', h1, h2⟩ := astepK_rel h
    obtain ⟨j, h3, h1⟩ := h1
    split at h1
    · rename_i id off hx
      obtain ⟨cs, e, h4, h5, h6, h7, rfl, rfl⟩ := h1
      refine ⟨_, .put id (H.obj id) (.cells (cs.take off ++ (aev env x).cells ++ cs.drop (off + j.size)) e), fun H'' hag => ⟨j, h3, ?_⟩, .inr rfl, rfl, by simpa [DE.touch, DE.ap, touchWr, hx] using h2⟩
      rw [hx]; exact ⟨cs, e, by rw [← h4]; exact hag, h5, h6, h7, rfl, rfl⟩
    · cases h1
  | alloc e =>
    simp only [dexec] at h
    obtain ⟨v, H', h1, h2⟩ := astepK_rel h
    obtain ⟨j, h3, rfl, rfl⟩ := h1
    exact ⟨_, .push H.n _, fun H'' hag => ⟨j, h3, by rw [show H''.n = H.n from hag], rfl⟩, .inr rfl, rfl, by simpa [DE.touch, DE.ap] using h2⟩
  | box e x =>
    simp only [dexec] at h
    obtain ⟨v, H', h1, h2⟩ := astepK_rel h
    obtain ⟨h3, rfl, rfl⟩ := h1
    exact ⟨_, .push H.n _, fun H'' hag => ⟨h3, by rw [show H''.n = H.n from hag], rfl⟩, .inr rfl, rfl, by simpa [DE.touch, DE.ap] using h2⟩
  | empty t =>
    simp only [dexec] at h
    obtain ⟨v, H', h1, h2⟩ := astepK_rel h
    obtain ⟨q, h3, h1⟩ := h1
    split at h1
    · rename_i e hu
      obtain ⟨j, h4, h5, rfl, rfl⟩ := h1
      refine ⟨_, .pushTok H.m _, fun H'' hag => ⟨q, h3, ?_⟩, .inr rfl, rfl, by simpa [DE.touch, DE.ap] using h2⟩
      rw [hu]; exact ⟨j, h4, h5, by rw [show H''.m = H.m from hag], rfl⟩
    · cases h1
  | append t x y =>
    simp only [dexec] at h
    obtain ⟨v, H', h1, h2⟩ := astepK_rel h
    obtain ⟨q, h3, h1⟩ := h1
    split at h1
    · rename_i e hu
      obtain ⟨j, ys, h4, h5, h6, h7, h1⟩ := h1
      split at h1
      · rename_i l tk hx
        obtain ⟨h8, h9, h10, rfl, rfl⟩ := h1
        refine ⟨_, .putTok tk (H.tok tk) ⟨(l ++ ys).length, e, j.size⟩, fun H'' hag => ⟨q, h3, ?_⟩, .inr rfl, rfl, by simpa [DE.touch, DE.ap, touchAp, hx] using h2⟩
        rw [hu]; refine ⟨j, ys, h4, h5, h6, h7, ?_⟩
        rw [hx]; exact ⟨by rw [← h8]; exact hag, h9, h10, rfl, rfl⟩
      · rename_i hx
        obtain ⟨h8, h9, rfl, rfl⟩ := h1
        refine ⟨_, .pushTok H.m _, fun H'' hag => ⟨q, h3, ?_⟩, .inr rfl, rfl, by simpa [DE.touch, DE.ap, touchAp, hx] using h2⟩
        rw [hu]; refine ⟨j, ys, h4, h5, h6, h7, ?_⟩
        rw [hx]; exact ⟨h8, h9, by rw [show H''.m = H.m from hag], rfl⟩
      · rename_i l hx
        obtain ⟨h8, h9, h10, rfl, rfl⟩ := h1
        refine ⟨_, .none, fun H'' _ => ⟨q, h3, ?_⟩, .inl rfl, trivial, by simpa [DE.touch, DE.ap, touchAp, hx] using h2⟩
        rw [hu]; refine ⟨j, ys, h4, h5, h6, h7, ?_⟩
        rw [hx]; exact ⟨h8, h9, h10, rfl, rfl⟩
      · cases h1
    · cases h1
  | _ => exact pure0 rfl (fun _ _ _ _ => Iff.rfl) h
theorem EnvEq.know {env : Env} {k : Nat} {v : AV} (h : look k env = v) : EnvEq ((k, v) :: env) env := by
  intro j
  simp only [look]
  split
  · rename_i e; subst e; exact h.symm
  · rfl
theorem drun_rel : ∀ (l : List XOp) (i : Nat) (T : List (Nat × Touch)) (env : Env) (H : AH) (K : KT) (ol : Nat → XOp), (∀ k o, l[k]? = some o → ol (i + k) = o) → (∀ j, i ≤ j → tlook j T = .none) → drun P w0 tt i l T env H K →
    ∃ pl env' H' T', pl.map (·.1) = List.range' i l.length ∧ DRun P w0 tt ol pl env H env' H' ∧ (∀ p ∈ pl, p.2.touch = .none ∨ p.2.touch.kind = (ol p.1).xo.kind) ∧ (∀ j < i, tlook j T' = tlook j T) ∧ (∀ p ∈ pl, tlook p.1 T' = p.2.touch) ∧ K T' env' H'
  | [], i, T, env, H, K, ol, _, _, h => ⟨[], env, H, T, rfl, .nil fun _ => rfl, by simp, fun _ _ => rfl, by simp, h⟩
  | o :: l, i, T, env, H, K, ol, hol, hT, h => by
    have ho : ol i = o := hol 0 o rfl
    have hol' : ∀ k o, l[k]? = some o → ol (i + 1 + k) = o := fun k o' hk => by rw [show i + 1 + k = i + (k + 1) by omega]; exact hol (k + 1) o' hk
    -- from one step and the rest
    have glue : ∀ (env0 : Env) (v : AV) (E : DE), EnvEq env0 env → dop P w0 tt o env0 v E → E.agree H → drun P w0 tt (i + 1) l (if E.touch = .none then T else (i, E.touch) :: T) (eput o.dst v env0) (E.ap H) K →
        ∃ pl env' H' T', pl.map (·.1) = List.range' i (o :: l).length ∧ DRun P w0 tt ol pl env H env' H' ∧ (∀ p ∈ pl, p.2.touch = .none ∨ p.2.touch.kind = (ol p.1).xo.kind) ∧ (∀ j < i, tlook j T' = tlook j T) ∧ (∀ p ∈ pl, tlook p.1 T' = p.2.touch) ∧ K T' env' H' := by
      intro env0 v E he h1 h2 h3
      have hT' : ∀ j, i + 1 ≤ j → tlook j (if E.touch = .none then T else (i, E.touch) :: T) = .none := by
        intro j hj
        split
        · exact hT j (by omega)
        · simp only [tlook]; rw [if_neg (by omega)]; exact hT j (by omega)
      obtain ⟨pl, env', H', T', g1, g2, g3, g4, g5, g6⟩ := drun_rel l (i + 1) _ _ _ K ol hol' hT' h3
      have hi : tlook i T' = E.touch := by
        rw [g4 i (by omega)]
        split
        · rename_i hn; rw [hT i (Nat.le_refl _), hn]
        · simp [tlook]
      refine ⟨(i, E) :: pl, env', H', T', ?_, .cons (v := v) ?_ h2 ?_, ?_, ?_, ?_, g6⟩
      · simp [g1, List.range'_succ]
      · rw [ho]; exact h1.congr fun k _ => he k
      · rw [ho]; exact g2.congr (he.put _ _)
      · intro p hp
        rcases List.mem_cons.1 hp with rfl | hp
        · simp only [ho]; exact h1.1
        · exact g3 p hp
      · intro j hj
        rw [g4 j (by omega)]
        split
        · rfl
        · simp only [tlook]; rw [if_neg (by omega)]
      · intro p hp
        rcases List.mem_cons.1 hp with rfl | hp
        · exact hi
        · exact g5 p hp
    unfold drun at h
    cases hg : o.guard with
    | none =>
      rw [hg] at h
      obtain ⟨v, E, h1, h2, h3, h4⟩ := dexec_rel h
      exact glue env v E (fun _ => rfl) ⟨h2, by rw [hg]; exact h1⟩ h3 h4
    | some p =>
      obtain ⟨k, b⟩ := p
      cases k with
      | none => rw [hg] at h; cases h
      | some k =>
        rw [hg] at h
        rcases withGuard_iff h with ⟨c, hc, h⟩ | ⟨hc, h⟩
        · by_cases hcb : c = b
          · subst hcb
            obtain ⟨v, E, h1, h2, h3, h4⟩ := dexec_rel (h.1 rfl)
            exact glue _ v E (EnvEq.know hc) ⟨h2, by rw [hg]; exact .inl ⟨by simp [look], h1⟩⟩ h3 h4
          · have hcn : c = !b := by cases c <;> cases b <;> simp_all
            subst hcn
            exact glue _ (.tup []) .none (EnvEq.know hc) ⟨.inl rfl, by rw [hg]; exact .inr ⟨.inl (by simp [look]), rfl, rfl⟩⟩ trivial (by simpa [DE.touch, DE.ap] using h.2 rfl)
        · exact glue env (.tup []) .none (fun _ => rfl) ⟨.inl rfl, by rw [hg]; exact .inr ⟨.inr hc, rfl, rfl⟩⟩ trivial (by simpa [DE.touch, DE.ap] using h)
theorem dclear_spec {T : List (Nat × Touch)} : ∀ {ps : List (Nat × Nat)}, dclear T ps → ∀ p ∈ ps, (tlook p.1 T).indep (tlook p.2 T)
  | [], _, p, hp => by cases hp
  | (j, i) :: r, h, p, hp => by
    rcases List.mem_cons.1 hp with rfl | hp
    · exact h.1
    · exact dclear_spec h.2 p hp
theorem dclos_aux {ops : Array Oper} : ∀ (af acc : List (List Nat)), (∀ i o, ops[acc.length + i]? = some o → i < af.length → af.getD i [] = afters o) → (∀ i j, j ∈ acc.getD i [] → Waits ops j i) → acc.length + af.length ≤ ops.size →
    ∀ i j, j ∈ (af.foldl (fun acc l => acc ++ [l ++ l.flatMap fun j => acc.getD j []]) acc).getD i [] → Waits ops j i
  | [], acc, _, h, _, i, j, hj => h i j hj
  | l :: af, acc, h0, h, hs, i, j, hj => by
    simp only [List.length_cons] at hs
    refine dclos_aux af _ (fun i o ho hi => ?_) (fun i j hj => ?_) (by simp; omega) i j hj
    · have := h0 (i + 1) o (by rw [← ho]; congr 1; simp; omega) (by simp; omega)
      simpa using this
    · rcases Nat.lt_trichotomy i acc.length with hi | hi | hi
      · rw [List.getD_eq_getElem?_getD, List.getElem?_append_left hi, ← List.getD_eq_getElem?_getD] at hj
        exact h i j hj
      · subst hi
        have ho : ops[acc.length]? = some ops[acc.length] := Array.getElem?_eq_getElem (by omega)
        have hl : l = afters ops[acc.length] := by simpa using h0 0 _ ho (by simp)
        rw [List.getD_eq_getElem?_getD, List.getElem?_append_right (Nat.le_refl _), ← List.getD_eq_getElem?_getD] at hj
        simp only [Nat.sub_self, List.getD_cons_zero, List.mem_append, List.mem_flatMap] at hj
        rcases hj with hj | ⟨k, hk, hj⟩
        · exact .one ho (by rw [← hl]; exact hj)
        · exact .more (h k j hj) ho (by rw [← hl]; exact hk)
      · rw [List.getD_eq_getElem?_getD, List.getElem?_eq_none (by simp; omega)] at hj; cases hj
variable {N : Nat}
theorem wp_draw (htt : TtOk P tt) (hm : P.follows .mixedOrders = true) {id : Nat} {ops : Array Oper} {Q : Exit → Act → World → Prop} {env : Env} {H : AH} {K : Env → AH → Prop} (hd : dstOk N (.region id ops true) = true)
    (hck : dcheck (ops.toList.map (xop ops)) (ops.toList.map afters) = true)
    (h : drun P w0 tt 0 (ops.toList.map (xop ops)) [] env H fun T env' H' => dclear T (dpairs2 (ops.toList.map (xop ops)) (ops.toList.map afters)) ∧ K env' H')
    {G : Gh} {a : Act} {w : World} (hS : Sim w0 G H w) (hE : EnvRep G N env a.tmps) (had : a.defers = [])
    (hk : ∀ (G' : Gh) (a' : Act) (w' : World) (env' : Env) (H' : AH), G.le G' → Sim w0 G' H' w' → EnvRep G' N env' a'.tmps → a'.defers = [] → K env' H' → Q .normal a' w') : (Code.region id ops true).wp P Q a w := by
  have hol : ∀ i o, ops[i]? = some o → ((ops.toList.map (xop ops)).getD i default) = xop ops o := by
    intro i o ho
    rw [List.getD_eq_getElem?_getD, List.getElem?_map, Array.getElem?_toList, ho]; rfl
  have haf : ∀ i o, ops[i]? = some o → ((ops.toList.map afters).getD i []) = afters o := by
    intro i o ho
    rw [List.getD_eq_getElem?_getD, List.getElem?_map, Array.getElem?_toList, ho]; rfl
  obtain ⟨pl, env', H', T', g1, g2, g3, g4, g5, g6, g7⟩ := drun_rel (ops.toList.map (xop ops)) 0 [] env H _ (fun i => (ops.toList.map (xop ops)).getD i default) (fun k o hk => by simp [List.getD_eq_getElem?_getD, hk]) (fun _ _ => rfl) h
  simp only [dcheck, List.all_eq_true, List.mem_range, List.length_map, Array.length_toList, Bool.and_eq_true, decide_eq_true_eq, Bool.or_eq_true] at hck
  refine wp_region_any hm (draw_sound (N := N) htt (fun o ho d hdo => ?_) hol (fun i o ho j hj => ?_) ops.size _ pl env H env' H' G a _ (by simp) (fun i o ho hl => ?_) (fun j => ?_) ?_ ?_ ?_ g2 (Sim.drew hS) hE had fun G' a' w' k1 k2 k3 k4 => hk G' a' w' env' H' k1 k2 k3 k4 g7)
  · simp only [dstOk, List.all_eq_true] at hd
    have := hd o (Array.mem_def.1 ho)
    rw [hdo] at this
    simpa using this
  · have := (hck i (Array.getElem?_eq_some_iff.1 ho).1).1 j (by rw [haf i o ho]; exact hj)
    exact this
  · have hi := (Array.getElem?_eq_some_iff.1 ho).1
    simp [Array.getD_eq_getD_getElem?, Array.getElem?_replicate, hi] at hl
  · rw [g1, List.mem_range']
    simp only [List.length_map, Array.length_toList, Array.getD_eq_getD_getElem?]
    constructor
    · rintro ⟨k, hk, rfl⟩
      have : 0 + 1 * k = k := by omega
      rw [this]
      exact ⟨hk, by simp [Array.getElem?_replicate, hk]⟩
    · intro hj
      exact ⟨j, hj.1, by omega⟩
  · rw [g1]; exact List.pairwise_lt_range'
  · refine List.pairwise_iff_getElem.2 fun x y hx hy hxy => ?_
    have hlen : pl.length = ops.size := by have := congrArg List.length g1; simpa using this
    have hfst : ∀ x (hx : x < pl.length), pl[x].1 = x := by
      intro x hx
      have : (pl.map (·.1))[x]'(by simpa using hx) = (List.range' 0 (ops.toList.map (xop ops)).length)[x]'(by simp; omega) := by simp only [g1]
      simpa using this
    have hpx := g5 pl[x] (List.getElem_mem hx)
    have hpy := g5 pl[y] (List.getElem_mem hy)
    rw [hfst x hx] at hpx ⊢
    rw [hfst y hy] at hpy ⊢
    have hyo : ops[y]? = some ops[y] := Array.getElem?_eq_getElem (by omega)
    have hcl : ∀ i j, j ∈ (dclos (ops.toList.map afters)).getD i [] → Waits ops j i := dclos_aux (ops := ops) (ops.toList.map afters) [] (fun i o ho _ => haf i o (by simpa using ho)) (fun i j hj => by simp at hj) (by simp)
    by_cases hin' : x ∈ afters ops[y]
    · exact .inl (.one hyo hin')
    by_cases hin : x ∈ (dclos (ops.toList.map afters)).getD y []
    · exact .inl (hcl y x hin)
    · refine .inr ⟨?_, ?_⟩
      · rcases (hck y (by omega)).2 x hxy with h1 | h1
        · rw [haf y _ hyo] at h1
          exact absurd (by simpa using h1) hin'
        · exact h1
      · by_cases hc : kclash pl[x].2.touch.kind pl[y].2.touch.kind = true
        · rw [← hpx, ← hpy]
          refine dclear_spec g6 (x, y) ?_
          simp only [dpairs2, List.mem_flatMap, List.mem_range, List.mem_map, List.mem_filter, List.length_map, Array.length_toList]
          have hkx := g3 pl[x] (List.getElem_mem hx)
          have hky := g3 pl[y] (List.getElem_mem hy)
          rw [hfst x hx] at hkx
          rw [hfst y hy] at hky
          refine ⟨y, by omega, x, ⟨hxy, ?_⟩, rfl⟩
          simp only [Bool.and_eq_true, Bool.not_eq_true', List.contains_eq_mem, decide_eq_false_iff_not]
          refine ⟨?_, hin⟩
          rcases hkx with h1 | h1
          · rw [h1] at hc; simp [Touch.kind, kclash] at hc
          · rcases hky with h2 | h2
            · rw [h2] at hc
              revert hc; generalize Touch.kind _ = q; intro hc
              simp only [Touch.kind] at hc
              unfold kclash at hc; split at hc <;> simp_all
            · rw [← h1, ← h2]; exact hc
        · exact Touch.indep_of (by simpa using hc)
  · have := congrArg List.length g1; simp at this; omega
end
end Go.Ai
