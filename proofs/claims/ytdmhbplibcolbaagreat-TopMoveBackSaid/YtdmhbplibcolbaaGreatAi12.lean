/- A part of the proof: no statement of the seat is proved in this text. -/
import Derived.Test.YtdmhbplibcolbaaGreatAi11
set_option linter.unusedVariables false
set_option linter.unusedSimpArgs false
namespace Go.Ai
open Go Go.RowKit
def FnOk (P : Program) (f : FuncId) : Prop := ∃ fn, P.funcs[f]? = some fn ∧ fn.name ≠ "runtime.NumGoroutine" ∧ fn.body.isSome = true
structure ACalls (P : Program) (w0 : World) (f : FuncId) (args : List AV) (H : AH) (Q : AV → AH → Prop) : Prop where
  fn : FnOk P f
  run : ∀ (G : Gh) (w : World) (vs : List Value), Sim w0 G H w → RepL G args vs →
    Calls P f vs.toArray w fun e w' => ∃ v r G' H', e = .returned v ∧ G.le G' ∧ Sim w0 G' H' w' ∧ Rep G' r v ∧ Q r H'
def AV.Ok (a : AV) : Prop := ∃ G v, Rep G a v
theorem ACalls.mono_ok {P : Program} {w0 : World} {f : FuncId} {args : List AV} {H : AH} {Q Q' : AV → AH → Prop} (h : ACalls P w0 f args H Q) (hq : ∀ r H', r.Ok → Q r H' → Q' r H') : ACalls P w0 f args H Q' :=
  ⟨h.fn, fun G w vs hS hr => (h.run G w vs hS hr).mono fun e w' ⟨v, r, G', H', h1, h2, h3, h4, h5⟩ => ⟨v, r, G', H', h1, h2, h3, h4, hq r H' ⟨G', v, h4⟩ h5⟩⟩
theorem ACalls.mono {P : Program} {w0 : World} {f : FuncId} {args : List AV} {H : AH} {Q Q' : AV → AH → Prop} (h : ACalls P w0 f args H Q) (hq : ∀ r H', Q r H' → Q' r H') : ACalls P w0 f args H Q' :=
  h.mono_ok fun r H' _ => hq r H'
def aguard (c b : Bool) (A B : Prop) : Prop := (c = b → A) ∧ (c = !b → B)
theorem aguard_tt (A B : Prop) : aguard true true A B = A := by simp [aguard]
theorem aguard_ff (A B : Prop) : aguard false false A B = A := by simp [aguard]
theorem aguard_tf (A B : Prop) : aguard true false A B = B := by simp [aguard]
theorem aguard_ft (A B : Prop) : aguard false true A B = B := by simp [aguard]
section
variable (P : Program) (w0 : World) (tt : TT) (N : Nat)
def ARun (l : List XOp) (env : Env) (H : AH) (K : Env → AH → Prop) : Prop :=
  ∀ (ops : Array Oper) (os : List Oper) (Q : Exit → Act → World → Prop) (G : Gh) (a : Act) (w : World), os.map (xop ops) = l → (∀ o ∈ os, ∀ d, o.dst = some d → d < N) → Sim w0 G H w → EnvRep G N env a.tmps → a.defers = [] →
    (∀ (G' : Gh) (a' : Act) (w' : World) (env' : Env) (H' : AH), G.le G' → Sim w0 G' H' w' → EnvRep G' N env' a'.tmps → a'.defers = [] → K env' H' → Q .normal a' w') → wpList P ops Q os a w
def aexec (xo : XO) (dst : Option Nat) (env : Env) (H : AH) (K : Env → AH → Prop) : Prop :=
  match xo with
  | .call f args => ACalls P w0 f (args.map (aev env)) H fun r H' => K (eput dst r env) H'
  | .callv x args => withFn (aev env x) fun f caps => ACalls P w0 f (args.map (aev env) ++ caps) H fun r H' => K (eput dst r env) H'
  | .raw op ty => ∃ v H', OpOk P w0 env H op ty v H' ∧ K (eput dst v env) H'
  | .buildSlice t n ps => withT (tt t) fun i => withDesc i.u
      (fun e => withT (tt e) fun j => (ps.map (·.1) = List.range' 0 n ∧ (∀ x, x ∈ ps.map (fun p => aev env p.2) → x.cells.length = j.size ∧ x.cells.all AV.scal = true) ∧ n * j.size ≤ 16777216 ∧ 0 < j.size) ∧
        K (eput dst (.own (ps.map fun p => aev env p.2) H.m) env) (H.pushTok ⟨(ps.map fun p => aev env p.2).length, e, j.size⟩))
      (fun _ _ => False) False False (fun _ => False)
  | xo => astepK tt env H xo fun v H' => K (eput dst v env) H'
def arun : List XOp → Env → AH → (Env → AH → Prop) → Prop
  | [], env, H, K => K env H
  | o :: l, env, H, K => match o.guard with
    | none => aexec P w0 tt o.xo o.dst env H fun env' H' => arun l env' H' K
    | some (some k, b) => withGuard (look k env) (fun c => aguard c b (aexec P w0 tt o.xo o.dst ((k, .bool b) :: env) H fun env' H' => arun l env' H' K) (arun l (eput o.dst (.tup []) ((k, .bool (!b)) :: env)) H K)) (arun l (eput o.dst (.tup []) env) H K)
    | some (none, _) => False
end
section
variable {P : Program} {w0 : World} {tt : TT} {N : Nat}
theorem put_defers (a : Act) (d : Option Nat) (v : Value) : (a.put d v).defers = a.defers := by cases d <;> rfl
theorem XO.of_call {op : Op} {ty : TypeId} {f : FuncId} {args : List Operand} (h : XO.of op ty = .call f args) : ∃ c, op = .call c ∧ c.callee = .value (.func f) ∧ c.args.toList = args := by
  unfold XO.of at h
  split at h <;> try cases h
  · split at h <;> cases h
  · split at h <;> cases h
  · split at h
    · cases h
    · split at h <;> cases h
    · cases h
    · cases h; exact ⟨_, rfl, by assumption, rfl⟩
    · cases h
    · cases h
theorem XO.of_callv {op : Op} {ty : TypeId} {x : Operand} {args : List Operand} (h : XO.of op ty = .callv x args) : ∃ c, op = .call c ∧ c.callee = .value x ∧ c.args.toList = args := by
  unfold XO.of at h
  split at h <;> try cases h
  · split at h <;> cases h
  · split at h <;> cases h
  · split at h
    · cases h
    · split at h <;> cases h
    · cases h
    · cases h
    · cases h; exact ⟨_, rfl, by assumption, rfl⟩
    · cases h
theorem XO.of_buildSlice {op : Op} {ty t : TypeId} {n : Nat} {ps : List (Nat × Operand)} (h : XO.of op ty = .buildSlice t n ps) : ∃ parts, op = .buildSlice t n parts ∧ parts.toList = ps := by
  unfold XO.of at h
  repeat' split at h
  all_goals first | (cases h; done) | (cases h; exact ⟨_, rfl, rfl⟩)
theorem XO.of_raw {op op' : Op} {ty ty' : TypeId} (h : XO.of op ty = .raw op' ty') : op' = op ∧ ty' = ty := by
  unfold XO.of at h
  repeat' split at h
  all_goals first | (cases h; done) | (cases h; exact ⟨rfl, rfl⟩)
theorem run_callFunc {f : FuncId} (hf : FnOk P f) (args : Array Value) (w : World) : (callFunc f args).run P w = .ok (.enter f args) w := by
  obtain ⟨fn, h1, h2, h3⟩ := hf
  have hb : fn.body.isNone = false := by cases hb : fn.body <;> simp_all
  unfold callFunc
  show Sem.run P (match P.funcs[f]? with | none => _ | some fn => _) w = _
  rw [h1]
  simp [h2, hb]
theorem exec_call {f : FuncId} (hf : FnOk P f) {c : Call} {a : Act} {w : World} {o : Oper} {x : Operand} {vs : List Value} (ho : o.op = .call c) (hc : c.callee = .value x) (hx : a.eval x = .func (.func f) #[] vs.toArray) :
    (execOp a.eval o).run P w = .ok (.enter f ((c.args.toList.map a.eval) ++ vs).toArray) w := by
  simp [execOp, ho, resolve, hc, hx, Deferred.ofValue, invoke, run_callFunc hf]
theorem EnvRep.know {G : Gh} {N : Nat} {env : Env} {tmps : Array Value} (h : EnvRep G N env tmps) (k : Nat) {u v : AV} (hu : look k env = u) (hv : u = v) : EnvRep G N ((k, v) :: env) tmps :=
  ⟨h.size, fun j => by
    simp only [look]
    split
    · rename_i e; subst e; rw [← hv, ← hu]; exact h.rep j
    · exact h.rep j⟩
theorem call_ok {o : Oper} {env : Env} {H : AH} {G : Gh} {a : Act} {w : World} (hd : ∀ d, o.dst = some d → d < N) (hS : Sim w0 G H w) (hE : EnvRep G N env a.tmps) (had : a.defers = [])
    {next : Act → World → Prop} {Q : Exit → Act → World → Prop} {K : AV → AH → Prop} {f : FuncId} {c : Call} {x : Operand} {caps : List AV} (ho : o.op = .call c) (hc : c.callee = .value x) (hx : aev env x = .fn f caps)
    (hcall : ACalls P w0 f (c.args.toList.map (aev env) ++ caps) H K)
    (hk : ∀ (G' : Gh) (a' : Act) (w' : World) (r : AV) (H' : AH), G.le G' → Sim w0 G' H' w' → EnvRep G' N (eput o.dst r env) a'.tmps → a'.defers = [] → K r H' → next a' w') : o.wp P a w next Q := by
  have hv := hE.eval x
  rw [hx] at hv
  obtain ⟨v, hveq⟩ : ∃ v, v = a.eval x := ⟨_, rfl⟩
  rw [← hveq] at hv
  cases hv with
  | fn _ _ vs hl hr =>
    have hrun := exec_call (w := w) hcall.fn ho hc hveq.symm
    unfold Oper.wp
    rw [hrun]
    simp only [Oper.upon]
    refine (hcall.run G w ((c.args.toList.map a.eval) ++ vs) hS ((RepL.evals hE _).append ⟨hl, hr⟩)).mono fun e w' hq => ?_
    obtain ⟨v, r, G', H', rfl, h2, h3, h4, h5⟩ := hq
    exact hk G' _ w' r H' h2 h3 ((hE.mono h2).put o.dst hd h4) (by rw [put_defers]; exact had) h5
theorem plain_ok {o : Oper} {env : Env} {H H' : AH} {v : AV} {G : Gh} {a : Act} {w : World} (hd : ∀ d, o.dst = some d → d < N) (hS : Sim w0 G H w) (hE : EnvRep G N env a.tmps) (had : a.defers = [])
    {next : Act → World → Prop} {Q : Exit → Act → World → Prop} (hop : OpOk P w0 env H o.op o.type v H')
    (hk : ∀ (G' : Gh) (a' : Act) (w' : World), G.le G' → Sim w0 G' H' w' → EnvRep G' N (eput o.dst v env) a'.tmps → a'.defers = [] → next a' w') : o.wp P a w next Q := by
  obtain ⟨nx, x, w', G', h1, h2, h3, h4, h5⟩ := hop G N a w o hS hE rfl rfl
  unfold Oper.wp
  rw [h1]
  have hput := (hE.mono h3).put o.dst hd h5
  cases nx <;> simp [Next.val] at h2 <;> subst h2
  · exact hk G' _ w' h3 h4 hput (by rw [put_defers]; exact had)
  · exact hk G' _ w' h3 h4 hput (by rw [put_defers]; exact had)
theorem aexec_ok (htt : TtOk P tt) {o : Oper} {env : Env} {H : AH} {K : Env → AH → Prop} (hd : ∀ d, o.dst = some d → d < N) (h : aexec P w0 tt (XO.of o.op o.type) o.dst env H K)
    {G : Gh} {a : Act} {w : World} (hS : Sim w0 G H w) (hE : EnvRep G N env a.tmps) (had : a.defers = []) {next : Act → World → Prop} {Q : Exit → Act → World → Prop}
    (hk : ∀ (G' : Gh) (a' : Act) (w' : World) (env' : Env) (H' : AH), G.le G' → Sim w0 G' H' w' → EnvRep G' N env' a'.tmps → a'.defers = [] → K env' H' → next a' w') : o.wp P a w next Q := by
  have call : ∀ (f : FuncId) (c : Call) (x : Operand) (caps : List AV), o.op = .call c → c.callee = .value x → aev env x = .fn f caps →
      ACalls P w0 f (c.args.toList.map (aev env) ++ caps) H (fun r H' => K (eput o.dst r env) H') → o.wp P a w next Q :=
    fun f c x caps ho hc hx hcall => call_ok hd hS hE had ho hc hx hcall fun G' a' w' r H' h1 h2 h3 h4 h5 => hk G' a' w' _ H' h1 h2 h3 h4 h5
  have plain : ∀ v H', OpOk P w0 env H o.op o.type v H' → K (eput o.dst v env) H' → o.wp P a w next Q :=
    fun v H' hop hK => plain_ok hd hS hE had hop fun G' a' w' h1 h2 h3 h4 => hk G' a' w' _ H' h1 h2 h3 h4 hK
  cases hxo : XO.of o.op o.type with
  | call f args =>
    rw [hxo] at h
    obtain ⟨c, h1, h2, rfl⟩ := XO.of_call hxo
    exact call f c (.func f) [] h1 h2 rfl (by rw [List.append_nil]; exact h)
  | callv x args =>
    rw [hxo] at h
    obtain ⟨c, h1, h2, rfl⟩ := XO.of_callv hxo
    simp only [aexec] at h
    obtain ⟨f, caps, h3, h⟩ := withFn_iff h
    exact call f c x caps h1 h2 h3 h
  | raw op ty =>
    rw [hxo] at h
    obtain ⟨rfl, rfl⟩ := XO.of_raw hxo
    obtain ⟨v, H', h1, h2⟩ := h
    exact plain v H' h1 h2
  | buildSlice t n ps =>
    rw [hxo] at h
    obtain ⟨parts, h0, rfl⟩ := XO.of_buildSlice hxo
    obtain ⟨i, h1, h⟩ := withT_iff h
    rcases withDesc_iff h with ⟨e, hu, h⟩ | ⟨m, e, hu, h⟩ | ⟨hu, h⟩ | ⟨_, hu, h⟩ | ⟨k, h3, h⟩ <;> (try cases h; done)
    obtain ⟨j, h2, h⟩ := withT_iff h
    exact plain _ _ (by rw [h0]; exact ok_buildSlice_own htt t i h1 e j h2 hu n parts h.1.1 h.1.2.1 h.1.2.2.1 h.1.2.2.2) h.2
  | _ =>
    have h' := h
    rw [hxo] at h'
    have h'' : astepK tt env H (XO.of o.op o.type) (fun v H' => K (eput o.dst v env) H') := by rw [hxo]; exact h'
    obtain ⟨v, H', h1, h2⟩ := astepK_rel h''
    exact plain v H' (astep_ok htt h1) h2
theorem arun_sound (htt : TtOk P tt) : ∀ (l : List XOp) (env : Env) (H : AH) (K : Env → AH → Prop), arun P w0 tt l env H K → ARun P w0 N l env H K
  | [], env, H, K, h => by
    intro ops os Q G a w hm hd hS hE had hk
    have : os = [] := by cases os <;> simp at hm ⊢
    subst this
    exact hk G a w env H (.refl G) hS hE had h
  | x :: l, env, H, K, h => by
    intro ops os Q G a w hm hd hS hE had hk0
    cases os with
    | nil => simp at hm
    | cons o os =>
      simp only [List.map_cons, List.cons.injEq] at hm
      obtain ⟨rfl, hm⟩ := hm
      have hdo := hd o (List.mem_cons_self ..)
      have hds : ∀ o' ∈ os, ∀ d, o'.dst = some d → d < N := fun o' ho' => hd o' (List.mem_cons_of_mem _ ho')
      have exec : ∀ env, EnvRep G N env a.tmps → aexec P w0 tt (XO.of o.op o.type) o.dst env H (fun env' H' => arun P w0 tt l env' H' K) → Region.wanted o (yielded ops a.tmps) = true → wpList P ops Q (o :: os) a w := by
        intro env hE hx hw
        unfold wpList
        rw [if_pos hw]
        left
        refine aexec_ok htt hdo hx hS hE had fun G' a' w' env' H' h1 h2 h3 h4 h5 => ?_
        exact arun_sound htt l env' H' K h5 ops os Q G' a' w' hm hds h2 h3 h4 fun G'' a'' w'' env'' H'' k1 k2 k3 k4 k5 => hk0 G'' a'' w'' env'' H'' (h1.trans k1) k2 k3 k4 k5
      unfold arun at h
      cases hg : o.guard with
      | none =>
        simp only [xop, hg, Option.map_none] at h
        exact exec env hE h (by simp [Region.wanted, hg])
      | some jb =>
        obtain ⟨j, b⟩ := jb
        simp only [xop, hg, Option.map_some] at h
        cases hk : (ops[j]?).bind (·.dst) with
        | none => rw [hk] at h; cases h
        | some k =>
          rw [hk] at h
          rcases withGuard_iff h with ⟨c, h2, h⟩ | ⟨h2, h⟩
          · have h3 := h.1
            have h4 := h.2
            have hr := hE.rep k
            rw [h2] at hr
            have hv := hr.bool_inv
            have hy : yielded ops a.tmps j = some c := by
              unfold yielded
              rw [hk]
              simp only [Option.bind_some]
              rw [Array.getD_eq_getD_getElem?] at hv
              cases hq : a.tmps[k]? with
              | none => rw [hq] at hv; simp [undef] at hv
              | some u => rw [hq] at hv; simp at hv; subst hv; rfl
            by_cases hcb : c = b
            · exact exec _ (hE.know k h2 (by rw [hcb])) (h3 hcb) (by simp [Region.wanted, hg, hy, hcb])
            · unfold wpList
              have hw : Region.wanted o (yielded ops a.tmps) = false := by simp [Region.wanted, hg, hy, hcb]
              rw [if_neg (by rw [hw]; simp)]
              have hcn : c = !b := by cases c <;> cases b <;> simp_all
              exact arun_sound htt l _ H K (h4 hcn) ops os Q G (a.put o.dst undef) w hm hds hS ((hE.know k h2 (by rw [hcn])).put o.dst hdo .undef) (by rw [put_defers]; exact had) hk0
          · have hr := hE.rep k
            rw [h2] at hr
            have hv := hr.undef_inv
            have hy : yielded ops a.tmps j = none := by
              unfold yielded
              rw [hk]
              simp only [Option.bind_some]
              rw [Array.getD_eq_getD_getElem?] at hv
              cases hq : a.tmps[k]? with
              | none => rfl
              | some u => rw [hq] at hv; simp at hv; subst hv; rfl
            unfold wpList
            have hw : Region.wanted o (yielded ops a.tmps) = false := by simp [Region.wanted, hg, hy]
            rw [if_neg (by rw [hw]; simp)]
            exact arun_sound htt l _ H K h ops os Q G (a.put o.dst undef) w hm hds hS (hE.put o.dst hdo .undef) (by rw [put_defers]; exact had) hk0
end
theorem ACalls.split0 {P : Program} {w0 : World} {f : FuncId} {H : AH} {Q : AV → AH → Prop} (h1 : ACalls P w0 f [.nilS] H Q) (h2 : ∀ a cap, ACalls P w0 f [.raw (.slice (some a) 0 cap)] H Q) : ACalls P w0 f [.slice []] H Q := by
  refine ⟨h1.fn, fun G w vs hS hr => ?_⟩
  obtain ⟨v, vs', rfl, h3, h4⟩ := hr.form
  have := h4.form_nil
  subst this
  rcases h3.slice_inv with ⟨rfl, _⟩ | ⟨b, off, cap, sz, rfl, _⟩ | ⟨a, cap, rfl, _⟩
  · exact h1.run G w _ hS (.cons .nilS (.nil _))
  · exact (h2 _ cap).run G w _ hS (.cons (.raw _) (.nil _))
  · exact (h2 a cap).run G w _ hS (.cons (.raw _) (.nil _))
end Go.Ai

set_option linter.unusedVariables false
set_option linter.unusedSimpArgs false
namespace Go.Ai
open Go Go.RowKit
def opSlot : Operand → List Nat
  | .tmp t => [t]
  | _ => []
def XO.args : XO → List Operand
  | .move x => [x]
  | .pick c a b => [c, a, b]
  | .alloc _ => []
  | .box _ x => [x]
  | .load _ a => [a]
  | .store _ a x => [a, x]
  | .bin _ _ x y => [x, y]
  | .un _ x => [x]
  | .conv _ _ x => [x]
  | .fieldAddr _ x _ => [x]
  | .field _ x _ => [x]
  | .indexAddr _ x i => [x, i]
  | .index _ x i => [x, i]
  | .slice _ x lo hi => x :: (lo.toList ++ hi.toList)
  | .extract x _ => [x]
  | .mkfn _ caps => caps
  | .buildSlice _ _ ps => ps.map (·.2)
  | .empty _ => []
  | .build _ ps => ps.map (·.2)
  | .len _ x => [x]
  | .append _ x y => [x, y]
  | .range _ x => [x]
  | .next x => [x]
  | .max x y => [x, y]
  | .call _ args => args
  | .callv x args => x :: args
  | .raw _ _ => []
section
variable (P : Program) (w0 : World) (tt : TT)
def XStep (env : Env) (H : AH) (xo : XO) (v : AV) (H' : AH) : Prop :=
  match xo with
  | .call f args => ACalls P w0 f (args.map (aev env)) H fun r H'' => r = v ∧ H'' = H'
  | .callv x args => ∃ f caps, aev env x = .fn f caps ∧ ACalls P w0 f (args.map (aev env) ++ caps) H fun r H'' => r = v ∧ H'' = H'
  | .raw _ _ => False
  | xo => astep tt env H xo v H'
end
theorem abound_congr {e e' : Env} {d : Int} {o : Option Operand} (h : ∀ x ∈ o.toList, aev e x = aev e' x) : abound e d o = abound e' d o := by
  cases o with
  | none => rfl
  | some x => simp only [abound]; rw [h x (by simp)]
section
variable {P : Program} {w0 : World} {tt : TT}
theorem map_aev_congr {e e' : Env} {l : List Operand} (h : ∀ x ∈ l, aev e x = aev e' x) : l.map (aev e) = l.map (aev e') := List.map_congr_left h
theorem map_aev2_congr {e e' : Env} {l : List (Nat × Operand)} (h : ∀ x ∈ l.map (·.2), aev e x = aev e' x) : (l.map fun p => aev e p.2) = l.map fun p => aev e' p.2 :=
  List.map_congr_left fun p hp => h p.2 (List.mem_map_of_mem hp)
theorem map_aev3_congr {e e' : Env} {l : List (Nat × Operand)} (h : ∀ x ∈ l.map (·.2), aev e x = aev e' x) : (l.map fun p => (p.1, aev e p.2)) = l.map fun p => (p.1, aev e' p.2) :=
  List.map_congr_left fun p hp => by rw [h p.2 (List.mem_map_of_mem hp)]
theorem XStep.congr {e e' : Env} {H H' : AH} {xo : XO} {v : AV} (h : ∀ x ∈ xo.args, aev e x = aev e' x) (hs : XStep P w0 tt e H xo v H') : XStep P w0 tt e' H xo v H' := by
  cases xo
  case slice t x lo hi =>
    have h1 : aev e x = aev e' x := h x (by simp [XO.args])
    have h2 := fun d => abound_congr (d := d) (o := lo) fun y hy => h y (List.mem_cons_of_mem _ (List.mem_append_left _ hy))
    have h3 := fun d => abound_congr (d := d) (o := hi) fun y hy => h y (List.mem_cons_of_mem _ (List.mem_append_right _ hy))
    simp only [XStep, astep] at hs ⊢
    simp only [h1, h2, h3] at hs
    exact hs
  case mkfn f caps => simp only [XStep, astep] at hs ⊢; rw [← map_aev_congr (l := caps) h]; exact hs
  case buildSlice t n ps =>
    simp only [XStep, astep] at hs ⊢
    rw [← map_aev2_congr (l := ps) h]; exact hs
  case build t ps =>
    simp only [XStep, astep] at hs ⊢
    rw [← map_aev3_congr (l := ps) h]; exact hs
  case call f args => simp only [XStep] at hs ⊢; rw [← map_aev_congr (l := args) h]; exact hs
  case callv x args =>
    simp only [XStep] at hs ⊢
    rw [← map_aev_congr (l := args) fun y hy => h y (List.mem_cons_of_mem _ hy), ← h x (List.mem_cons_self ..)]; exact hs
  all_goals
    try simp only [XO.args, List.mem_cons, List.not_mem_nil, or_false, forall_eq_or_imp, forall_eq] at h
    simp only [XStep, astep] at hs ⊢
    try simp only [h] at hs
    try exact hs
end
inductive DE where
  | none
  | ld (i : Nat) (o : Option AObj)
  | put (i : Nat) (o : Option AObj) (x : AObj)
  | push (n : Nat) (x : AObj)
  | pushTok (m : Nat) (t : ATok)
  | putTok (i : Nat) (o : Option ATok) (t : ATok)
def DE.agree : DE → AH → Prop
  | .none, _ => True
  | .ld i o, H => H.obj i = o
  | .put i o _, H => H.obj i = o
  | .push n _, H => H.n = n
  | .pushTok m _, H => H.m = m
  | .putTok i o _, H => H.tok i = o
def DE.ap : DE → AH → AH
  | .none, H => H
  | .ld _ _, H => H
  | .put i _ x, H => H.put i x
  | .push _ x, H => H.push x
  | .pushTok _ t, H => H.pushTok t
  | .putTok i _ t, H => H.putTok i t
inductive Touch where
  | none
  | rd (i : Nat)
  | wr (i : Nat)
  | al (i : Nat)
  | tw (i : Nat)
  | ta (i : Nat)
  deriving DecidableEq
def DE.touch : DE → Touch
  | .none => .none
  | .ld i _ => .rd i
  | .put i _ _ => .wr i
  | .push n _ => .al n
  | .pushTok m _ => .ta m
  | .putTok i _ _ => .tw i
def Touch.indep : Touch → Touch → Prop
  | .rd a, .wr b => a ≠ b
  | .wr a, .rd b => a ≠ b
  | .wr a, .wr b => a ≠ b
  | .rd a, .al b => a ≠ b
  | .al a, .rd b => a ≠ b
  | .wr a, .al b => a ≠ b
  | .al a, .wr b => a ≠ b
  | .al _, .al _ => False
  | .tw a, .tw b => a ≠ b
  | .tw a, .ta b => a ≠ b
  | .ta a, .tw b => a ≠ b
  | .ta _, .ta _ => False
  | _, _ => True
def Touch.kind : Touch → Nat
  | .none => 0
  | .rd _ => 1
  | .wr _ => 2
  | .al _ => 3
  | .tw _ | .ta _ => 4
def kclash : Nat → Nat → Bool
  | 1, 2 | 2, 1 | 2, 2 | 1, 3 | 3, 1 | 2, 3 | 3, 2 | 3, 3 | 4, 4 => true
  | _, _ => false
theorem Touch.indep_of {a b : Touch} (h : kclash a.kind b.kind = false) : a.indep b := by
  cases a <;> cases b <;> simp [Touch.kind, kclash] at h <;> simp [Touch.indep]
theorem aset_comm {α : Type} {i j : Nat} (hij : i ≠ j) (x y : α) (l : List (Nat × α)) : aset i x (aset j y l) = aset j y (aset i x l) := by
  induction l with
  | nil => rfl
  | cons p e ih =>
    obtain ⟨k, v⟩ := p
    by_cases h1 : j = k
    · subst h1
      simp [aset, hij]
    · by_cases h2 : i = k
      · subst h2
        simp [aset, h1]
      · simp [aset, h1, h2, ih]
theorem AH.put_comm {H : AH} {i j : Nat} (hij : i ≠ j) (x y : AObj) : (H.put i x).put j y = (H.put j y).put i x := by
  simp only [AH.put]; rw [aset_comm (fun h => hij h.symm)]
theorem AH.putTok_comm {H : AH} {i j : Nat} (hij : i ≠ j) (x y : ATok) : (H.putTok i x).putTok j y = (H.putTok j y).putTok i x := by
  simp only [AH.putTok]; rw [aset_comm (fun h => hij h.symm)]
theorem AH.put_push {H : AH} {i : Nat} (hi : i ≠ H.n) (x y : AObj) : (H.push y).put i x = (H.put i x).push y := by
  simp [AH.put, AH.push, aset, hi]
theorem AH.putTok_pushTok {H : AH} {i : Nat} (hi : i ≠ H.m) (x y : ATok) : (H.pushTok y).putTok i x = (H.putTok i x).pushTok y := by
  simp [AH.putTok, AH.pushTok, aset, hi]
theorem DE.swap {E F : DE} {H : AH} (hi : E.touch.indep F.touch) (h1 : E.agree H) (h2 : F.agree (E.ap H)) : F.agree H ∧ E.agree (F.ap H) ∧ F.ap (E.ap H) = E.ap (F.ap H) := by
  cases E <;> cases F <;> simp only [DE.touch, Touch.indep] at hi <;> simp only [DE.agree, DE.ap] at h1 h2 ⊢ <;> (try exact ⟨by first | exact h2 | trivial, by first | exact h1 | trivial, by trivial⟩)
  case ld.put i o j p x => exact ⟨h2, by rw [obj_put, if_neg hi]; exact h1, by trivial⟩
  case ld.push i o n x => exact ⟨h2, by rw [obj_push, if_neg (by rw [h2]; exact hi)]; exact h1, by trivial⟩
  case put.ld i o x j p => exact ⟨by rw [obj_put, if_neg (Ne.symm hi)] at h2; exact h2, h1, by trivial⟩
  case put.put i o x j p y => exact ⟨by rw [obj_put, if_neg (Ne.symm hi)] at h2; exact h2, by rw [obj_put, if_neg hi]; exact h1, AH.put_comm hi _ _⟩
  case put.push i o x n y =>
    have hn : i ≠ H.n := by rw [show H.n = n from h2]; exact hi
    exact ⟨h2, by rw [obj_push, if_neg hn]; exact h1, (AH.put_push hn _ _).symm⟩
  case push.ld n x i o => exact ⟨by rw [obj_push, if_neg (by rw [h1]; exact Ne.symm hi)] at h2; exact h2, h1, by trivial⟩
  case push.put n x i o y =>
    have hn : i ≠ H.n := by rw [h1]; exact Ne.symm hi
    exact ⟨by rw [obj_push, if_neg hn] at h2; exact h2, h1, AH.put_push hn _ _⟩
  case pushTok.putTok m t i o u =>
    have hn : i ≠ H.m := by rw [h1]; exact Ne.symm hi
    exact ⟨by rw [tok_pushTok, if_neg hn] at h2; exact h2, h1, AH.putTok_pushTok hn _ _⟩
  case putTok.pushTok i o u m t =>
    have hn : i ≠ H.m := by rw [show H.m = m from h2]; exact hi
    exact ⟨h2, by rw [tok_pushTok, if_neg hn]; exact h1, (AH.putTok_pushTok hn _ _).symm⟩
  case putTok.putTok i o x j p y => exact ⟨by rw [tok_putTok, if_neg (Ne.symm hi)] at h2; exact h2, by rw [tok_putTok, if_neg hi]; exact h1, AH.putTok_comm hi _ _⟩
end Go.Ai
