/- A part of the proof: no statement of the seat is proved in this text. -/
import Derived.Test.YtdmhbplibcolbaaGreatAi14
import Derived.Laws.StructEq
set_option linter.unusedVariables false
set_option linter.unusedSimpArgs false
namespace Go.Ai
open Go Go.RowKit
def ares1 (tt : TT) (r : ResultVar) (env : Env) (H : AH) (v : AV) : Prop :=
  match r with
  | .tmp t => look t env = v
  | .cell a t => astep tt env H (.load t (.tmp a)) v H
def aresL (tt : TT) (env : Env) (H : AH) : List ResultVar → List AV → Prop
  | [], vs => vs = []
  | r :: rs, vs => ∃ v us, ares1 tt r env H v ∧ aresL tt env H rs us ∧ vs = v :: us
def ares (tt : TT) (env : Env) (H : AH) (rs : List ResultVar) (v : AV) : Prop :=
  match rs with
  | [r] => ares1 tt r env H v
  | rs => ∃ vs, aresL tt env H rs vs ∧ v = .tup vs
def Leave (H0 : AH) (r : AV) (H : AH) (Q : AV → AH → Prop) : Prop :=
  (∃ (r' : AV) (H' : AH), r.Weak r' ∧ r'.fit H0.n H0.m = true ∧ H'.Sub H ∧ H'.n = H0.n ∧ H'.m = H0.m ∧ Q r' H') ∨
  (∃ (l : List AV) (t : Nat) (a : ATok) (H' : AH), r = .own l t ∧ H.tok t = some a ∧ a.n = l.length ∧ H0.m ≤ t ∧ AV.fitL H0.n H0.m l = true ∧ H'.Sub H ∧ H'.n = H0.n ∧ H'.m = H0.m ∧ Q (.own l H0.m) (H'.pushTok a))
def resOne (tmps : Array Value) (r : ResultVar) : Sem Value :=
  match r with
  | .tmp t => Pure.pure (tmps.getD t undef)
  | .cell ad t => do loadVar t (← asAddr (tmps.getD ad undef))
theorem results_eq (fn : Func) (tmps : Array Value) : results fn tmps = (do let vs ← fn.results.mapM (resOne tmps); Pure.pure (if h : vs.size = 1 then vs[0] else .tuple vs)) := by
  unfold results
  congr 1
section
variable {P : Program} {w0 : World} {tt : TT} {N : Nat}
theorem Leave.same {H0 H : AH} {r : AV} {Q : AV → AH → Prop} (hs : H0.Sub H) (hf : r.fit H0.n H0.m = true) (hq : Q r H0) : Leave H0 r H Q := .inl ⟨r, H0, .refl r, hf, hs, rfl, rfl, hq⟩
theorem Leave.forget {H0 H : AH} {r : AV} {Q : AV → AH → Prop} (hs : H0.Sub H) (hf : r.forget.fit H0.n H0.m = true) (hq : Q r.forget H0) : Leave H0 r H Q := .inl ⟨r.forget, H0, .forget r, hf, hs, rfl, rfl, hq⟩
theorem Leave.own {H0 H : AH} {l : List AV} {t : Nat} {Q : AV → AH → Prop} (a : ATok) (ha : H.tok t = some a) (hn : a.n = l.length) (ht : H0.m ≤ t) (hs : H0.Sub H) (hf : AV.fitL H0.n H0.m l = true) (hq : Q (.own l H0.m) (H0.pushTok a)) : Leave H0 (.own l t) H Q :=
  .inr ⟨l, t, a, H0, rfl, ha, hn, ht, hf, hs, rfl, rfl, hq⟩
theorem ares1_run (htt : TtOk P tt) {r : ResultVar} {env : Env} {H : AH} {v : AV} (h : ares1 tt r env H v) {G : Gh} {a : Act} {w : World} (hS : Sim w0 G H w) (hE : EnvRep G N env a.tmps) :
    ∃ x, (resOne a.tmps r).run P w = .ok x w ∧ Rep G v x := by
  cases r with
  | tmp t => exact ⟨a.tmps.getD t undef, rfl, by rw [← h]; exact hE.rep t⟩
  | cell ad t =>
    obtain ⟨i, h1, h2, h⟩ := h
    have hp := hE.rep ad
    simp only [aev] at h
    split at h
    · rename_i id off hx
      obtain ⟨cs, e, h3, h4, rfl, _⟩ := h
      rw [hx] at hp
      obtain ⟨b, hv, hb⟩ := ptr_inv hp
      obtain ⟨vs, k3, k4, k5⟩ := hS.cellsAt h3 hb
      have hr := (k4.drop off).take i.size
      refine ⟨mkV i.agg ((vs.drop off).take i.size), ?_, mk_rep hr _⟩
      have hrun := run_loadAt_cells (htt t i h1) (w := w) (b := b) (off := off) (vs := (vs.drop off).take i.size) (by have := k4.1; simp; omega) h2 (fun j u hu => by
        rw [add_off]
        simp only [World.cell?, k3]
        rw [List.getElem?_take] at hu
        split at hu
        · simpa using hu
        · cases hu)
      simp only [Instr.loadAt, Instr.sureAddr, Sem.run_bind, Sem.run_pure, Result.andThen_ok] at hrun
      show Sem.run P (asAddr (a.tmps.getD ad undef) >>= fun x => loadVar t x) w = _
      rw [hv]
      simp only [asAddr, Sem.run_bind, Sem.run_pure, Result.andThen_ok]
      exact hrun
    · rename_i cs hx
      obtain ⟨h3, rfl, _⟩ := h
      rw [hx] at hp
      obtain ⟨b, off, hv, hb⟩ := hp.rptr_inv
      obtain ⟨vs, k3, k4, k5⟩ := (hb.takeL i.size).cells hS
      refine ⟨mkV i.agg vs, ?_, mk_rep k3 _⟩
      have hrun := run_loadAt_cells (htt t i h1) (w := w) (vs := vs) (by rw [← k3.1]; simp; omega) h2 k4
      simp only [Instr.loadAt, Instr.sureAddr, Sem.run_bind, Sem.run_pure, Result.andThen_ok] at hrun
      show Sem.run P (asAddr (a.tmps.getD ad undef) >>= fun x => loadVar t x) w = _
      rw [hv]
      simp only [asAddr, Sem.run_bind, Sem.run_pure, Result.andThen_ok]
      exact hrun
    · cases h
theorem aresL_run (htt : TtOk P tt) {env : Env} {H : AH} {G : Gh} {a : Act} {w : World} (hS : Sim w0 G H w) (hE : EnvRep G N env a.tmps) : ∀ {rs : List ResultVar} {vs : List AV}, aresL tt env H rs vs →
    ∃ xs : List Value, (rs.mapM (resOne a.tmps)).run P w = .ok xs w ∧ RepL G vs xs
  | [], vs, h => by
    simp only [aresL] at h; subst h
    exact ⟨[], by simp, .nil _⟩
  | r :: rs, vs, h => by
    obtain ⟨v, us, h1, h2, rfl⟩ := h
    obtain ⟨x, k1, k2⟩ := ares1_run htt h1 hS hE
    obtain ⟨xs, k3, k4⟩ := aresL_run htt hS hE h2
    refine ⟨x :: xs, ?_, .cons k2 k4⟩
    rw [List.mapM_cons]
    simp only [Sem.run_bind, k1, k3, Result.andThen_ok, Sem.run_pure]
theorem ares_run (htt : TtOk P tt) {fn : Func} {rs : List ResultVar} (hrs : fn.results.toList = rs) {env : Env} {H : AH} {v : AV} (h : ares tt env H rs v) {G : Gh} {a : Act} {w : World} (hS : Sim w0 G H w) (hE : EnvRep G N env a.tmps) :
    ∃ x, (results fn a.tmps).run P w = .ok x w ∧ Rep G v x := by
  have key : ∀ vs, aresL tt env H rs vs → ∃ xs : List Value, (results fn a.tmps).run P w = .ok (if h : xs.toArray.size = 1 then xs.toArray[0] else .tuple xs.toArray) w ∧ RepL G vs xs := by
    intro vs hvs
    obtain ⟨xs, k1, k2⟩ := aresL_run htt hS hE hvs
    refine ⟨xs, ?_, k2⟩
    rw [results_eq]
    have k3 : (fn.results.mapM (resOne a.tmps)).run P w = .ok xs.toArray w := by
      simp [Array.mapM_eq_mapM_toList, hrs, k1]
    simp only [Sem.run_bind, k3, Result.andThen_ok, Sem.run_pure]
  unfold ares at h
  split at h
  · rename_i r
    obtain ⟨xs, k1, k2⟩ := key [v] ⟨v, [], h, rfl, rfl⟩
    obtain ⟨x, xs', rfl, k3, k4⟩ := k2.form
    have : xs' = [] := k4.form_nil
    subst this
    exact ⟨x, by simpa using k1, k3⟩
  · rename_i hne
    obtain ⟨vs, h1, rfl⟩ := h
    obtain ⟨xs, k1, k2⟩ := key vs h1
    have hlen : ∀ (rs : List ResultVar) (vs : List AV), aresL tt env H rs vs → vs.length = rs.length := by
      intro rs
      induction rs with
      | nil => intro vs h; simp only [aresL] at h; subst h; rfl
      | cons r rs ih => intro vs h; obtain ⟨v, us, _, h2, rfl⟩ := h; simp [ih us h2]
    have h1' : xs.toArray.size ≠ 1 := by
      have := hlen _ _ h1
      have h2 := k2.1
      intro e
      simp at e
      have : rs.length = 1 := by omega
      obtain ⟨r, rfl⟩ := List.length_eq_one_iff.1 this
      exact hne r rfl
    rw [dif_neg h1'] at k1
    exact ⟨_, k1, .tup _ _ k2.1 k2.2⟩
theorem look_enum : ∀ (l : List AV) (j k : Nat), look k (enumF j l) = if j ≤ k then (l[k - j]?).getD .any else .any
  | [], j, k => by simp [enumF, look]
  | x :: xs, j, k => by
    simp only [enumF, look, look_enum xs (j + 1) k]
    by_cases h : k = j
    · subst h; simp
    · rw [if_neg h]
      by_cases h2 : j ≤ k
      · rw [if_pos h2, if_pos (by omega)]
        have : k - j = (k - (j + 1)) + 1 := by omega
        rw [this, List.getElem?_cons_succ]
      · rw [if_neg h2, if_neg (by omega)]
theorem EnvRep.enter {G : Gh} {args : List AV} {vs : List Value} (h : RepL G args vs) {N : Nat} (hn : args.length ≤ N) : EnvRep G N (enumF 0 args) (vs.toArray ++ Array.replicate (N - vs.toArray.size) undef) := by
  have hl := h.1
  refine ⟨by simp; omega, fun k => ?_⟩
  rw [look_enum, if_pos (Nat.zero_le _), Nat.sub_zero]
  cases hk : args[k]? with
  | none => exact .any _
  | some c =>
    obtain ⟨v, h1, h2⟩ := h.index hk
    have hlt : k < vs.length := (List.getElem?_eq_some_iff.1 h1).1
    rw [Array.getD_eq_getD_getElem?, Array.getElem?_append_left (by simpa using hlt)]
    simp [h1]
    exact h2
theorem ACalls.enter (htt : TtOk P tt) {f : FuncId} {fn : Func} {c : Code} {x : XCode} {rs : List ResultVar} (hf : P.funcs[f]? = some fn) (hname0 : (fn.name == "runtime.NumGoroutine") = false) (hb : fn.body = some c) (hx : xc c = x)
    (hd : dstOk fn.ntmps c = true) (hrs : fn.results.toList = rs) {args : List AV} (hn : args.length ≤ fn.ntmps) {H : AH} {Q : AV → AH → Prop}
    (h : H.WF → (∀ a ∈ args, a.Ok) → awp P w0 tt fn.ntmps x (enumF 0 args) H fun e env' H' => (e = .normal ∨ e = .ret) ∧ ∃ r, ares tt env' H' rs r ∧ Leave H r H' Q) : ACalls P w0 f args H Q := by
  have hname : fn.name ≠ "runtime.NumGoroutine" := by simpa using hname0
  refine ⟨⟨fn, hf, hname, by rw [hb]; rfl⟩, fun G w vs hS hr => ?_⟩
  refine calls_of_wp hf hb ?_
  have hok : ∀ a ∈ args, a.Ok := fun a ha => by
    obtain ⟨j, hj, rfl⟩ := List.getElem_of_mem ha
    obtain ⟨v, _, h2⟩ := hr.index (List.getElem?_eq_getElem hj)
    exact ⟨G, v, h2⟩
  have hw := awp_sound (N := fn.ntmps) htt _ _ _ _ (h hS.wf hok) c hx hd G { tmps := vs.toArray ++ Array.replicate (fn.ntmps - vs.toArray.size) undef, defers := [] } w hS (.enter hr hn) rfl
  refine wp_mono hw fun e a' w' ⟨G', env', H', h1, h2, h3, h4, h5, r, h6, h7⟩ => ?_
  obtain ⟨y, k1, k2⟩ := ares_run htt hrs h6 h2 h3
  have hend : ∃ v r G' H', Ending.returned y = .returned v ∧ G.le G' ∧ Sim w0 G' H' w' ∧ Rep G' r v ∧ Q r H' := by
    rcases h7 with ⟨r', H'', q1, q2, q3, q4, q5, q6⟩ | ⟨l, t, at', H'', q0, q1, q2, q3, q4, q5, q6, q7, q8⟩
    · refine ⟨y, r', G'.cut H''.n H''.m, H'', rfl, Gh.le_cut h1 hS (by omega) (by omega), h2.sub q3, ?_, q6⟩
      rw [q4, q5]
      exact (q1 G' y k2).cut q2
    · subst q0
      cases k2 with
      | own _ _ _ tok ht hl hv hsz hrep =>
        obtain ⟨x, j1, j2, j3, j4⟩ := h2.tks t at' q1
        rw [ht] at j1; simp at j1; subst j1
        have hxn : tok.n = l.length := by rw [← j2] at q2; exact q2
        have hxv := hv hxn
        have hcut := h2.sub q5
        have hle0 : G.le (G'.cut H''.n H''.m) := Gh.le_cut h1 hS (by omega) (by omega)
        have hob : ∀ b, tok.v.ownBlock = some b → ∀ i, H''.obj i ≠ none → (G'.cut H''.n H''.m).ob i ≠ some b := by
          intro b hb i hi
          have hi' : i < H''.n := by
            rcases Nat.lt_or_ge i H''.n with h | h
            · exact h
            · exact absurd (q5.wf.obj i h) hi
          simp only [Gh.cut, hi', if_true]
          exact (j4 b hb).2.1 i ((q5.obj i hi').ne hi)
        have htk : ∀ b, tok.v.ownBlock = some b → ∀ t' x', H''.tok t' ≠ none → (G'.cut H''.n H''.m).tk t' = some x' → x'.v.ownBlock ≠ some b := by
          intro b hb t' x' ht' hx'
          have ht2 : t' < H''.m := by
            rcases Nat.lt_or_ge t' H''.m with h | h
            · exact h
            · exact absurd (q5.wf.tok t' h) ht'
          simp only [Gh.cut, ht2, if_true] at hx'
          exact (j4 b hb).2.2 t' x' (by omega) (TLe.ne (q5.tok t' ht2) ht') hx'
        obtain ⟨g1, g2⟩ := hcut.addTok (x := tok) j3 (fun b hb => ⟨(j4 b hb).1, hob b hb, htk b hb⟩)
        refine ⟨y, .own l H.m, _, _, rfl, hle0.trans g2, ?_, ?_, q8⟩
        · rw [← j2]; exact g1
        · rw [← q7]
          refine .own l H''.m y tok (by simp [Gh.addTk]) hl hv hsz ?_
          exact Rep.mono g2 (Rep.cut hrep (by rw [q6, q7]; exact q4))
  rcases h5 with rfl | rfl
  · exact ⟨h4, y, k1, hend⟩
  · exact ⟨h4, y, k1, hend⟩
theorem ACalls.enterK (htt : TtOk P tt) {f : FuncId} {fn : Func} {c : Code} {x : XCode} {rs : List ResultVar} (hf : P.funcs[f]? = some fn) (hname0 : (fn.name == "runtime.NumGoroutine") = false) (hb : fn.body = some c) (hx : xc c = x)
    (hd : dstOk fn.ntmps c = true) (hrs : fn.results.toList = rs) {args : List AV} (hn : args.length ≤ fn.ntmps) {H : AH} {Q : AV → AH → Prop}
    (h : H.WF → (∀ a ∈ args, a.Ok) → ∀ (R : APost), (∀ env' H' r, ares tt env' H' rs r → Leave H r H' Q → R .ret env' H') → (∀ env' H', R .ret env' H' → R .normal env' H') → awp P w0 tt fn.ntmps x (enumF 0 args) H R) : ACalls P w0 f args H Q :=
  ACalls.enter htt hf hname0 hb hx hd hrs hn fun hwf hok => h hwf hok _ (fun env' H' r h1 h2 => ⟨.inr rfl, r, h1, h2⟩) (fun env' H' ⟨_, r, h1, h2⟩ => ⟨.inl rfl, r, h1, h2⟩)
end
end Go.Ai

set_option linter.unusedVariables false
set_option linter.unusedSimpArgs false
namespace Go.Ai
open Go Go.RowKit
def EqAt (P : Program) (d : Nat) (t : TypeId) (g : Bool) (ks : List KC) : Prop :=
  ∀ (k : Nat), d ≤ k → ∀ (G : Gh) (cs ds : List AV) (vs us : List Value) (b : Bool) (w : World), aeqs cs ds = some b → cs.map AV.kc = ks → RepL G cs vs → RepL G ds us →
    (Op.equalIn k t (mkV g vs) (mkV g us)).run P w = .ok b w
theorem aeqs_len : ∀ {cs ds : List AV} {b : Bool}, aeqs cs ds = some b → cs.length = ds.length
  | [], [], _, _ => rfl
  | [], _ :: _, _, h => by simp [aeqs] at h
  | _ :: _, [], _, h => by simp [aeqs] at h
  | x :: xs, y :: ys, b, h => by
    simp only [aeqs] at h
    split at h
    · rename_i h2; simp [aeqs_len h2]
    · cases h
theorem aeqs_append : ∀ (cs1 ds1 cs2 ds2 : List AV) (b : Bool), cs1.length = ds1.length → aeqs (cs1 ++ cs2) (ds1 ++ ds2) = some b → ∃ b1 b2, aeqs cs1 ds1 = some b1 ∧ aeqs cs2 ds2 = some b2 ∧ b = (b1 && b2)
  | [], [], cs2, ds2, b, _, h => ⟨true, b, rfl, h, rfl⟩
  | [], _ :: _, _, _, _, hl, _ => by simp at hl
  | _ :: _, [], _, _, _, hl, _ => by simp at hl
  | x :: xs, y :: ys, cs2, ds2, b, hl, h => by
    simp only [List.cons_append, aeqs] at h
    split at h
    · rename_i a b' h1 h2
      simp at h; subst h
      obtain ⟨b1, b2, k1, k2, rfl⟩ := aeqs_append xs ys cs2 ds2 b' (by simpa using hl) h2
      exact ⟨a && b1, b2, by simp [aeqs, h1, k1], k2, by rw [Bool.and_assoc]⟩
    · cases h
section
variable {P : Program}
theorem eqAt_one {t : TypeId} {kc : KC} (h : ∀ (k : Nat) (x y : AV) (b : Bool) (G : Gh) (u v : Value) (w : World), aeq1 x y = some b → x.kc = kc → Rep G x u → Rep G y v → (Op.equalIn (k + 1) t u v).run P w = .ok b w) : EqAt P 1 t false [kc] := by
  intro k hk G cs ds vs us b w ha hl hr hs
  match cs, hl, ds, ha with
  | [x], hl, [y], ha =>
    obtain ⟨u, vs', rfl, h1, h2⟩ := hr.form
    obtain ⟨v, us', rfl, h3, h4⟩ := hs.form
    obtain ⟨k', rfl⟩ : ∃ k', k = k' + 1 := ⟨k - 1, by omega⟩
    simp only [aeqs] at ha
    split at ha
    · rename_i a c e1 e2
      simp at e2; subst e2
      simp at ha; subst ha
      exact h k' x y _ G u v w e1 (by simpa using hl) h1 h3
    · cases ha
  | [_], _, [], ha => simp [aeqs] at ha
  | [_], _, _ :: _ :: _, ha => simp [aeqs] at ha
theorem eqAt_int {t : TypeId} {k : IntKind} (ht : P.underlying t = some (.int k)) : EqAt P 1 t false [.int k] := eqAt_one fun d x y b G u v w ha hk hx hy => by
  rcases aeq1_scal ha with ⟨k', m, n, rfl, rfl, rfl⟩ | ⟨m, n, rfl, rfl, rfl⟩ | ⟨m, n, rfl, rfl, rfl⟩
  · rw [hx.int_inv.1, hy.int_inv.1]
    simp [Op.equalIn, run_underlying ht]
    rfl
  · cases hk
  · cases hk
theorem eqAt_bool {t : TypeId} (ht : P.underlying t = some .bool) : EqAt P 1 t false [.bool] := eqAt_one fun d x y b G u v w ha hk hx hy => by
  rcases aeq1_scal ha with ⟨k', m, n, rfl, rfl, rfl⟩ | ⟨m, n, rfl, rfl, rfl⟩ | ⟨m, n, rfl, rfl, rfl⟩
  · cases hk
  · rw [hx.bool_inv, hy.bool_inv]
    simp [Op.equalIn, run_underlying ht]
  · cases hk
theorem eqAt_str {t : TypeId} (ht : P.underlying t = some .string) : EqAt P 1 t false [.str] := eqAt_one fun d x y b G u v w ha hk hx hy => by
  rcases aeq1_scal ha with ⟨k', m, n, rfl, rfl, rfl⟩ | ⟨m, n, rfl, rfl, rfl⟩ | ⟨m, n, rfl, rfl, rfl⟩
  · cases hk
  · cases hk
  · rw [hx.str_inv.1, hy.str_inv.1]
    simp only [Op.equalIn, Sem.run_bind, run_underlying ht, Result.andThen_ok, beq_toListBytes, toList_inj]
    rfl
inductive FlatF (P : Program) (d : Nat) : Nat → List Field → Nat → List KC → Prop
  | nil (off : Nat) : FlatF P d off [] off []
  | cons (f : Field) (fl : List Field) (off e : Nat) (g : Bool) (x : TypeInfo) (dsc : TypeDesc) (ks ks' : List KC) (hn : (f.name == "_") = false) (ho : f.offset = off) (hi : P.info? f.type = some x) (hs : x.size = ks.length) (h0 : 0 < ks.length)
      (hg : (match dsc with | .struct _ | .array _ _ => true | _ => false) = g) (hd : P.underlying f.type = some dsc) (he : EqAt P d f.type g ks) (hr : FlatF P d (off + ks.length) fl e ks') : FlatF P d off (f :: fl) e (ks ++ ks')
theorem FlatF.len {d off e : Nat} {fl : List Field} {ks : List KC} (h : FlatF P d off fl e ks) : e = off + ks.length := by
  induction h with
  | nil off => simp
  | cons f fl off e g x dsc ks ks' hn ho hi hs h0 hg hd he hr ih => rw [ih, List.length_append]; omega
theorem FlatF.run {d off e : Nat} {fl : List Field} {ks : List KC} (h : FlatF P d off fl e ks) {k : Nat} (hk : d ≤ k) {G : Gh} {cs ds : List AV} {vs us : List Value} {b : Bool} {w : World}
    (hr : RepL G cs vs) (hs : RepL G ds us) (hlc : cs.length = e) (hld : ds.length = e) (ha : aeqs (cs.drop off) (ds.drop off) = some b) (hc : (cs.drop off).map AV.kc = ks) :
    (Op.eqFields k vs.toArray us.toArray fl).run P w = .ok b w := by
  induction h generalizing b with
  | nil off =>
    have h1 : cs.drop off = [] := List.drop_eq_nil_of_le (by omega)
    have h2 : ds.drop off = [] := List.drop_eq_nil_of_le (by omega)
    rw [h1, h2] at ha
    simp [aeqs] at ha
    subst ha
    simp [Op.eqFields]
  | cons f fl off e g x dsc ks ks' hn ho hi hs' h0 hg hd he hrest ih =>
    have hee := hrest.len
    have hcd : cs.drop off = (cs.drop off).take ks.length ++ cs.drop (off + ks.length) := by rw [← List.drop_drop]; exact (List.take_append_drop _ _).symm
    have hdd : ds.drop off = (ds.drop off).take ks.length ++ ds.drop (off + ks.length) := by rw [← List.drop_drop]; exact (List.take_append_drop _ _).symm
    rw [hcd, hdd] at ha
    obtain ⟨b1, b2, h1, h2, rfl⟩ := aeqs_append _ _ _ _ _ (by simp; omega) ha
    rw [hcd, List.map_append] at hc
    obtain ⟨hc1, hc2⟩ := List.append_inj hc (by simp; omega)
    have hr1 := (hr.drop off).take ks.length
    have hs1 := (hs.drop off).take ks.length
    have p1 := part_run (P := P) hg hd hi hs' h0 (vs := vs) (off := off) (by rw [← hr.1]; omega) w
    have p2 := part_run (P := P) hg hd hi hs' h0 (vs := us) (off := off) (by rw [← hs.1]; omega) w
    have e1 := he k hk G _ _ _ _ b1 w h1 hc1 hr1 hs1
    have e2 := ih hlc hld h2 hc2
    have hn' : f.name ≠ "_" := by simpa using hn
    rw [← ho] at p1 p2 e1
    rw [Op.eqFields]
    simp only [if_pos hn', Sem.run_bind, p1, p2, e1, Result.andThen_ok]
    cases b1
    · simp
    · simpa using e2
theorem eqAt_struct {t : TypeId} {fs : Array Field} {d e : Nat} {ks : List KC} (ht : P.underlying t = some (.struct fs)) (hp : P.stoodInHeld t = false) (hf : FlatF P d 0 fs.toList e ks) : EqAt P (d + 1) t true ks := by
  intro k hk G cs ds vs us b w ha hc hr hs
  obtain ⟨k', rfl⟩ : ∃ k', k = k' + 1 := ⟨k - 1, by omega⟩
  have hfo : P.fieldsOf t = fs := by simp [Program.fieldsOf, ht]
  have hlen := hf.len
  have hlc : cs.length = e := by rw [hlen, ← hc]; simp
  have hld : ds.length = e := by rw [← aeqs_len ha, hlc]
  show (Op.equalIn (k' + 1) t (.agg vs.toArray) (.agg us.toArray)).run P w = _
  rw [run_equalIn_struct (P := P) w k' t _ _ (by rw [hfo]; exact ht) hp, hfo]
  exact hf.run (by omega) hr hs hlc hld (by simpa using ha) (by simpa using hc)
theorem EqAt.eq {d : Nat} {t : TypeId} {g : Bool} {ks : List KC} (h : EqAt P d t g ks) (hd : d ≤ 10000) (G : Gh) (cs ds : List AV) (vs us : List Value) (b : Bool) (w : World) (h1 : aeqs cs ds = some b) (h2 : cs.map AV.kc = ks) (h3 : RepL G cs vs) (h4 : RepL G ds us) :
    (Op.equal t (mkV g vs) (mkV g us)).run P w = .ok b w := h 10000 hd G cs ds vs us b w h1 h2 h3 h4
theorem EqAt.mono {d d' : Nat} {t : TypeId} {g : Bool} {ks : List KC} (h : EqAt P d t g ks) (hd : d ≤ d') : EqAt P d' t g ks := fun k hk => h k (by omega)
end
end Go.Ai
