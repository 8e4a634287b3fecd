/- A part of the proof: no statement of the seat is proved in this text. -/
import Derived.Test.YtcphpaeebaacgaaAi11
set_option linter.unusedVariables false
set_option linter.unusedSimpArgs false
namespace Go.Ai
open Go Go.RowKit

/-! ### Calls -/
def FnOk (P : Program) (f : FuncId) : Prop := ∃ fn, P.funcs[f]? = some fn ∧ fn.name ≠ "runtime.NumGoroutine" ∧ fn.body.isSome = true

structure ACalls (P : Program) (w0 : World) (f : FuncId) (args : List AV) (H : AH) (Q : AV → AH → Prop) : Prop where
  fn : FnOk P f
  run : ∀ (G : Gh) (w : World) (vs : List Value), Sim w0 G H w → RepL G args vs →
    Calls P f vs.toArray w fun e w' => ∃ v r G' H', e = .returned v ∧ G.le G' ∧ Sim w0 G' H' w' ∧ Rep G' r v ∧ Q r H'

/-- It stands for some value. -/
def AV.Ok (a : AV) : Prop := ∃ G v, Rep G a v

theorem ACalls.mono_ok {P : Program} {w0 : World} {f : FuncId} {args : List AV} {H : AH} {Q Q' : AV → AH → Prop} (h : ACalls P w0 f args H Q) (hq : ∀ r H', r.Ok → Q r H' → Q' r H') : ACalls P w0 f args H Q' :=
  ⟨h.fn, fun G w vs hS hr => (h.run G w vs hS hr).mono fun e w' ⟨v, r, G', H', h1, h2, h3, h4, h5⟩ => ⟨v, r, G', H', h1, h2, h3, h4, hq r H' ⟨G', v, h4⟩ h5⟩⟩
theorem ACalls.mono {P : Program} {w0 : World} {f : FuncId} {args : List AV} {H : AH} {Q Q' : AV → AH → Prop} (h : ACalls P w0 f args H Q) (hq : ∀ r H', Q r H' → Q' r H') : ACalls P w0 f args H Q' :=
  h.mono_ok fun r H' _ => hq r H'

/-! ### A region -/
/-- Two ways, by a guard. -/
def aguard (c b : Bool) (A B : Prop) : Prop := (c = b → A) ∧ (c = !b → B)
theorem aguard_tt (A B : Prop) : aguard true true A B = A := by simp [aguard]
theorem aguard_ff (A B : Prop) : aguard false false A B = A := by simp [aguard]
theorem aguard_tf (A B : Prop) : aguard true false A B = B := by simp [aguard]
theorem aguard_ft (A B : Prop) : aguard false true A B = B := by simp [aguard]

section
variable (P : Program) (w0 : World) (tt : TT) (N : Nat)

def ARun (l : List XOp) (env : Env) (H : AH) (K : Env → AH → Prop) : Prop :=
  ∀ (ops : Array Oper) (os : List Oper) (Q : Exit → Act → World → Prop) (G : Gh) (a : Act) (w : World), os.map (xop ops) = l → (∀ o ∈ os, ∀ d, o.dst = some d → d < N) → Sim w0 G H w → EnvRep G N env a.tmps → a.defers = [] →
    (∀ (G' : Gh) (a' : Act) (w' : World) (env' : Env) (H' : AH), G.le G' → Sim w0 G' H' w' → EnvRep G' N env' a'.tmps → a'.defers = [] → K env' H' → Q .normal a' w') → wpList P ops Q os a w

def aexec (xo : XO) (dst : Option Nat) (env : Env) (H : AH) (K : Env → AH → Prop) : Prop :=
  match xo with
  | .call f args => ACalls P w0 f (args.map (aev env)) H fun r H' => K (eput dst r env) H'
  | .callv x args => withFn (aev env x) fun f caps => ACalls P w0 f (args.map (aev env) ++ caps) H fun r H' => K (eput dst r env) H'
  | .raw op ty => ∃ v H', OpOk P w0 env H op ty v H' ∧ K (eput dst v env) H'
  | .buildSlice t n ps => withT (tt t) fun i => withDesc i.u
      (fun e => withT (tt e) fun j => (ps.map (·.1) = List.range' 0 n ∧ (∀ x, x ∈ ps.map (fun p => aev env p.2) → x.cells.length = j.size ∧ x.cells.all AV.scal = true) ∧ n * j.size ≤ 16777216 ∧ 0 < j.size) ∧
        K (eput dst (.own (ps.map fun p => aev env p.2) H.m) env) (H.pushTok ⟨(ps.map fun p => aev env p.2).length, e, j.size⟩))
      (fun _ _ => False) False False (fun _ => False)
  | xo => astepK tt env H xo fun v H' => K (eput dst v env) H'

def arun : List XOp → Env → AH → (Env → AH → Prop) → Prop
  | [], env, H, K => K env H
  | o :: l, env, H, K => match o.guard with
    | none => aexec P w0 tt o.xo o.dst env H fun env' H' => arun l env' H' K
    | some (some k, b) => withGuard (look k env) (fun c => aguard c b (aexec P w0 tt o.xo o.dst ((k, .bool b) :: env) H fun env' H' => arun l env' H' K) (arun l (eput o.dst (.tup []) ((k, .bool (!b)) :: env)) H K)) (arun l (eput o.dst (.tup []) env) H K)
    | some (none, _) => False
end

section
variable {P : Program} {w0 : World} {tt : TT} {N : Nat}

theorem put_defers (a : Act) (d : Option Nat) (v : Value) : (a.put d v).defers = a.defers := by cases d <;> rfl

theorem XO.of_call {op : Op} {ty : TypeId} {f : FuncId} {args : List Operand} (h : XO.of op ty = .call f args) : ∃ c, op = .call c ∧ c.callee = .value (.func f) ∧ c.args.toList = args := by
  unfold XO.of at h
  split at h <;> try cases h
  · split at h <;> cases h
  · split at h
    · cases h
    · split at h <;> cases h
    · cases h
    · cases h; exact ⟨_, rfl, by assumption, rfl⟩
    · cases h
    · cases h
theorem XO.of_callv {op : Op} {ty : TypeId} {x : Operand} {args : List Operand} (h : XO.of op ty = .callv x args) : ∃ c, op = .call c ∧ c.callee = .value x ∧ c.args.toList = args := by
  unfold XO.of at h
  split at h <;> try cases h
  · split at h <;> cases h
  · split at h
    · cases h
    · split at h <;> cases h
    · cases h
    · cases h
    · cases h; exact ⟨_, rfl, by assumption, rfl⟩
    · cases h
theorem XO.of_buildSlice {op : Op} {ty t : TypeId} {n : Nat} {ps : List (Nat × Operand)} (h : XO.of op ty = .buildSlice t n ps) : ∃ parts, op = .buildSlice t n parts ∧ parts.toList = ps := by
  unfold XO.of at h
  repeat' split at h
  all_goals first | (cases h; done) | (cases h; exact ⟨_, rfl, rfl⟩)
theorem XO.of_raw {op op' : Op} {ty ty' : TypeId} (h : XO.of op ty = .raw op' ty') : op' = op ∧ ty' = ty := by
  unfold XO.of at h
  repeat' split at h
  all_goals first | (cases h; done) | (cases h; exact ⟨rfl, rfl⟩)

theorem run_callFunc {f : FuncId} (hf : FnOk P f) (args : Array Value) (w : World) : (callFunc f args).run P w = .ok (.enter f args) w := by
  obtain ⟨fn, h1, h2, h3⟩ := hf
  have hb : fn.body.isNone = false := by cases hb : fn.body <;> simp_all
  unfold callFunc
  show Sem.run P (match P.funcs[f]? with | none => _ | some fn => _) w = _
  rw [h1]
  simp [h2, hb]

theorem exec_call {f : FuncId} (hf : FnOk P f) {c : Call} {a : Act} {w : World} {o : Oper} {x : Operand} {vs : List Value} (ho : o.op = .call c) (hc : c.callee = .value x) (hx : a.eval x = .func (.func f) #[] vs.toArray) :
    (execOp a.eval o).run P w = .ok (.enter f ((c.args.toList.map a.eval) ++ vs).toArray) w := by
  simp [execOp, ho, resolve, hc, hx, Deferred.ofValue, invoke, run_callFunc hf]

theorem EnvRep.know {G : Gh} {N : Nat} {env : Env} {tmps : Array Value} (h : EnvRep G N env tmps) (k : Nat) {u v : AV} (hu : look k env = u) (hv : u = v) : EnvRep G N ((k, v) :: env) tmps :=
  ⟨h.size, fun j => by
    simp only [look]
    split
    · rename_i e; subst e; rw [← hv, ← hu]; exact h.rep j
    · exact h.rep j⟩

theorem call_ok {o : Oper} {env : Env} {H : AH} {G : Gh} {a : Act} {w : World} (hd : ∀ d, o.dst = some d → d < N) (hS : Sim w0 G H w) (hE : EnvRep G N env a.tmps) (had : a.defers = [])
    {next : Act → World → Prop} {Q : Exit → Act → World → Prop} {K : AV → AH → Prop} {f : FuncId} {c : Call} {x : Operand} {caps : List AV} (ho : o.op = .call c) (hc : c.callee = .value x) (hx : aev env x = .fn f caps)
    (hcall : ACalls P w0 f (c.args.toList.map (aev env) ++ caps) H K)
    (hk : ∀ (G' : Gh) (a' : Act) (w' : World) (r : AV) (H' : AH), G.le G' → Sim w0 G' H' w' → EnvRep G' N (eput o.dst r env) a'.tmps → a'.defers = [] → K r H' → next a' w') : o.wp P a w next Q := by
  have hv := hE.eval x
  rw [hx] at hv
  obtain ⟨v, hveq⟩ : ∃ v, v = a.eval x := ⟨_, rfl⟩
  rw [← hveq] at hv
  cases hv with
  | fn _ _ vs hl hr =>
    have hrun := exec_call (w := w) hcall.fn ho hc hveq.symm
    unfold Oper.wp
    rw [hrun]
    simp only [Oper.upon]
    refine (hcall.run G w ((c.args.toList.map a.eval) ++ vs) hS ((RepL.evals hE _).append ⟨hl, hr⟩)).mono fun e w' hq => ?_
    obtain ⟨v, r, G', H', rfl, h2, h3, h4, h5⟩ := hq
    exact hk G' _ w' r H' h2 h3 ((hE.mono h2).put o.dst hd h4) (by rw [put_defers]; exact had) h5

theorem plain_ok {o : Oper} {env : Env} {H H' : AH} {v : AV} {G : Gh} {a : Act} {w : World} (hd : ∀ d, o.dst = some d → d < N) (hS : Sim w0 G H w) (hE : EnvRep G N env a.tmps) (had : a.defers = [])
    {next : Act → World → Prop} {Q : Exit → Act → World → Prop} (hop : OpOk P w0 env H o.op o.type v H')
    (hk : ∀ (G' : Gh) (a' : Act) (w' : World), G.le G' → Sim w0 G' H' w' → EnvRep G' N (eput o.dst v env) a'.tmps → a'.defers = [] → next a' w') : o.wp P a w next Q := by
  obtain ⟨nx, x, w', G', h1, h2, h3, h4, h5⟩ := hop G N a w o hS hE rfl rfl
  unfold Oper.wp
  rw [h1]
  have hput := (hE.mono h3).put o.dst hd h5
  cases nx <;> simp [Next.val] at h2 <;> subst h2
  · exact hk G' _ w' h3 h4 hput (by rw [put_defers]; exact had)
  · exact hk G' _ w' h3 h4 hput (by rw [put_defers]; exact had)

theorem aexec_ok (htt : TtOk P tt) {o : Oper} {env : Env} {H : AH} {K : Env → AH → Prop} (hd : ∀ d, o.dst = some d → d < N) (h : aexec P w0 tt (XO.of o.op o.type) o.dst env H K)
    {G : Gh} {a : Act} {w : World} (hS : Sim w0 G H w) (hE : EnvRep G N env a.tmps) (had : a.defers = []) {next : Act → World → Prop} {Q : Exit → Act → World → Prop}
    (hk : ∀ (G' : Gh) (a' : Act) (w' : World) (env' : Env) (H' : AH), G.le G' → Sim w0 G' H' w' → EnvRep G' N env' a'.tmps → a'.defers = [] → K env' H' → next a' w') : o.wp P a w next Q := by
  have call : ∀ (f : FuncId) (c : Call) (x : Operand) (caps : List AV), o.op = .call c → c.callee = .value x → aev env x = .fn f caps →
      ACalls P w0 f (c.args.toList.map (aev env) ++ caps) H (fun r H' => K (eput o.dst r env) H') → o.wp P a w next Q :=
    fun f c x caps ho hc hx hcall => call_ok hd hS hE had ho hc hx hcall fun G' a' w' r H' h1 h2 h3 h4 h5 => hk G' a' w' _ H' h1 h2 h3 h4 h5
  have plain : ∀ v H', OpOk P w0 env H o.op o.type v H' → K (eput o.dst v env) H' → o.wp P a w next Q :=
    fun v H' hop hK => plain_ok hd hS hE had hop fun G' a' w' h1 h2 h3 h4 => hk G' a' w' _ H' h1 h2 h3 h4 hK
  cases hxo : XO.of o.op o.type with
  | call f args =>
    rw [hxo] at h
    obtain ⟨c, h1, h2, rfl⟩ := XO.of_call hxo
    exact call f c (.func f) [] h1 h2 rfl (by rw [List.append_nil]; exact h)
  | callv x args =>
    rw [hxo] at h
    obtain ⟨c, h1, h2, rfl⟩ := XO.of_callv hxo
    simp only [aexec] at h
    obtain ⟨f, caps, h3, h⟩ := withFn_iff h
    exact call f c x caps h1 h2 h3 h
  | raw op ty =>
    rw [hxo] at h
    obtain ⟨rfl, rfl⟩ := XO.of_raw hxo
    obtain ⟨v, H', h1, h2⟩ := h
    exact plain v H' h1 h2
  | buildSlice t n ps =>
    rw [hxo] at h
    obtain ⟨parts, h0, rfl⟩ := XO.of_buildSlice hxo
    obtain ⟨i, h1, h⟩ := withT_iff h
    rcases withDesc_iff h with ⟨e, hu, h⟩ | ⟨m, e, hu, h⟩ | ⟨hu, h⟩ | ⟨_, hu, h⟩ | ⟨k, h3, h⟩ <;> (try cases h; done)
    obtain ⟨j, h2, h⟩ := withT_iff h
    exact plain _ _ (by rw [h0]; exact ok_buildSlice_own htt t i h1 e j h2 hu n parts h.1.1 h.1.2.1 h.1.2.2.1 h.1.2.2.2) h.2
  | _ =>
    have h' := h
    rw [hxo] at h'
    have h'' : astepK tt env H (XO.of o.op o.type) (fun v H' => K (eput o.dst v env) H') := by rw [hxo]; exact h'
    obtain ⟨v, H', h1, h2⟩ := astepK_rel h''
    exact plain v H' (astep_ok htt h1) h2

theorem arun_sound (htt : TtOk P tt) : ∀ (l : List XOp) (env : Env) (H : AH) (K : Env → AH → Prop), arun P w0 tt l env H K → ARun P w0 N l env H K
  | [], env, H, K, h => by
    intro ops os Q G a w hm hd hS hE had hk
    have : os = [] := by cases os <;> simp at hm ⊢
    subst this
    exact hk G a w env H (.refl G) hS hE had h
  | x :: l, env, H, K, h => by
    intro ops os Q G a w hm hd hS hE had hk0
    cases os with
    | nil => simp at hm
    | cons o os =>
      simp only [List.map_cons, List.cons.injEq] at hm
      obtain ⟨rfl, hm⟩ := hm
      have hdo := hd o (List.mem_cons_self ..)
      have hds : ∀ o' ∈ os, ∀ d, o'.dst = some d → d < N := fun o' ho' => hd o' (List.mem_cons_of_mem _ ho')
      have exec : ∀ env, EnvRep G N env a.tmps → aexec P w0 tt (XO.of o.op o.type) o.dst env H (fun env' H' => arun P w0 tt l env' H' K) → Region.wanted o (yielded ops a.tmps) = true → wpList P ops Q (o :: os) a w := by
        intro env hE hx hw
        unfold wpList
        rw [if_pos hw]
        left
        refine aexec_ok htt hdo hx hS hE had fun G' a' w' env' H' h1 h2 h3 h4 h5 => ?_
        exact arun_sound htt l env' H' K h5 ops os Q G' a' w' hm hds h2 h3 h4 fun G'' a'' w'' env'' H'' k1 k2 k3 k4 k5 => hk0 G'' a'' w'' env'' H'' (h1.trans k1) k2 k3 k4 k5
      unfold arun at h
      cases hg : o.guard with
      | none =>
        simp only [xop, hg, Option.map_none] at h
        exact exec env hE h (by simp [Region.wanted, hg])
      | some jb =>
        obtain ⟨j, b⟩ := jb
        simp only [xop, hg, Option.map_some] at h
        cases hk : (ops[j]?).bind (·.dst) with
        | none => rw [hk] at h; cases h
        | some k =>
          rw [hk] at h
          rcases withGuard_iff h with ⟨c, h2, h⟩ | ⟨h2, h⟩
          · have h3 := h.1
            have h4 := h.2
            have hr := hE.rep k
            rw [h2] at hr
            have hv := hr.bool_inv
            have hy : yielded ops a.tmps j = some c := by
              unfold yielded
              rw [hk]
              simp only [Option.bind_some]
              rw [Array.getD_eq_getD_getElem?] at hv
              cases hq : a.tmps[k]? with
              | none => rw [hq] at hv; simp [undef] at hv
              | some u => rw [hq] at hv; simp at hv; subst hv; rfl
            by_cases hcb : c = b
            · exact exec _ (hE.know k h2 (by rw [hcb])) (h3 hcb) (by simp [Region.wanted, hg, hy, hcb])
            · unfold wpList
              have hw : Region.wanted o (yielded ops a.tmps) = false := by simp [Region.wanted, hg, hy, hcb]
              rw [if_neg (by rw [hw]; simp)]
              have hcn : c = !b := by cases c <;> cases b <;> simp_all
              exact arun_sound htt l _ H K (h4 hcn) ops os Q G (a.put o.dst undef) w hm hds hS ((hE.know k h2 (by rw [hcn])).put o.dst hdo .undef) (by rw [put_defers]; exact had) hk0
          · have hr := hE.rep k
            rw [h2] at hr
            have hv := hr.undef_inv
            have hy : yielded ops a.tmps j = none := by
              unfold yielded
              rw [hk]
              simp only [Option.bind_some]
              rw [Array.getD_eq_getD_getElem?] at hv
              cases hq : a.tmps[k]? with
              | none => rfl
              | some u => rw [hq] at hv; simp at hv; subst hv; rfl
            unfold wpList
            have hw : Region.wanted o (yielded ops a.tmps) = false := by simp [Region.wanted, hg, hy]
            rw [if_neg (by rw [hw]; simp)]
            exact arun_sound htt l _ H K h ops os Q G (a.put o.dst undef) w hm hds hS (hE.put o.dst hdo .undef) (by rw [put_defers]; exact had) hk0
end

/-- An empty row: nil or not. -/
theorem ACalls.split0 {P : Program} {w0 : World} {f : FuncId} {H : AH} {Q : AV → AH → Prop} (h1 : ACalls P w0 f [.nilS] H Q) (h2 : ∀ a cap, ACalls P w0 f [.raw (.slice (some a) 0 cap)] H Q) : ACalls P w0 f [.slice []] H Q := by
  refine ⟨h1.fn, fun G w vs hS hr => ?_⟩
  obtain ⟨v, vs', rfl, h3, h4⟩ := hr.form
  have := h4.form_nil
  subst this
  rcases h3.slice_inv with ⟨rfl, _⟩ | ⟨b, off, cap, sz, rfl, _⟩ | ⟨a, cap, rfl, _⟩
  · exact h1.run G w _ hS (.cons .nilS (.nil _))
  · exact (h2 _ cap).run G w _ hS (.cons (.raw _) (.nil _))
  · exact (h2 a cap).run G w _ hS (.cons (.raw _) (.nil _))
end Go.Ai
