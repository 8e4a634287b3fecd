/- A part of the proof: no statement of the seat is proved in this text. -/
import Derived.Test.YtcphpaeebaacgaaAi14
set_option linter.unusedVariables false
set_option linter.unusedSimpArgs false
namespace Go.Ai
open Go Go.RowKit

/-! ### A function -/
def ares1 (tt : TT) (r : ResultVar) (env : Env) (H : AH) (v : AV) : Prop :=
  match r with
  | .tmp t => look t env = v
  | .cell a t => astep tt env H (.load t (.tmp a)) v H
def aresL (tt : TT) (env : Env) (H : AH) : List ResultVar → List AV → Prop
  | [], vs => vs = []
  | r :: rs, vs => ∃ v us, ares1 tt r env H v ∧ aresL tt env H rs us ∧ vs = v :: us
def ares (tt : TT) (env : Env) (H : AH) (rs : List ResultVar) (v : AV) : Prop :=
  match rs with
  | [r] => ares1 tt r env H v
  | rs => ∃ vs, aresL tt env H rs vs ∧ v = .tup vs

/-- How a call leaves: the heap as it was, but for what it changed there; the right to grow goes along with a row that is handed out. -/
def Leave (H0 : AH) (r : AV) (H : AH) (Q : AV → AH → Prop) : Prop :=
  (∃ (r' : AV) (H' : AH), r.Weak r' ∧ r'.fit H0.n H0.m = true ∧ H'.Sub H ∧ H'.n = H0.n ∧ H'.m = H0.m ∧ Q r' H') ∨
  (∃ (l : List AV) (t : Nat) (a : ATok) (H' : AH), r = .own l t ∧ H.tok t = some a ∧ a.n = l.length ∧ H0.m ≤ t ∧ AV.fitL H0.n H0.m l = true ∧ H'.Sub H ∧ H'.n = H0.n ∧ H'.m = H0.m ∧ Q (.own l H0.m) (H'.pushTok a))

def resOne (tmps : Array Value) (r : ResultVar) : Sem Value :=
  match r with
  | .tmp t => Pure.pure (tmps.getD t undef)
  | .cell ad t => do loadVar t (← asAddr (tmps.getD ad undef))
theorem results_eq (fn : Func) (tmps : Array Value) : results fn tmps = (do let vs ← fn.results.mapM (resOne tmps); Pure.pure (if h : vs.size = 1 then vs[0] else .tuple vs)) := by
  unfold results
  congr 1

section
variable {P : Program} {w0 : World} {tt : TT} {N : Nat}

theorem Leave.same {H0 H : AH} {r : AV} {Q : AV → AH → Prop} (hs : H0.Sub H) (hf : r.fit H0.n H0.m = true) (hq : Q r H0) : Leave H0 r H Q := .inl ⟨r, H0, .refl r, hf, hs, rfl, rfl, hq⟩
theorem Leave.forget {H0 H : AH} {r : AV} {Q : AV → AH → Prop} (hs : H0.Sub H) (hf : r.forget.fit H0.n H0.m = true) (hq : Q r.forget H0) : Leave H0 r H Q := .inl ⟨r.forget, H0, .forget r, hf, hs, rfl, rfl, hq⟩
theorem Leave.own {H0 H : AH} {l : List AV} {t : Nat} {Q : AV → AH → Prop} (a : ATok) (ha : H.tok t = some a) (hn : a.n = l.length) (ht : H0.m ≤ t) (hs : H0.Sub H) (hf : AV.fitL H0.n H0.m l = true) (hq : Q (.own l H0.m) (H0.pushTok a)) : Leave H0 (.own l t) H Q :=
  .inr ⟨l, t, a, H0, rfl, ha, hn, ht, hf, hs, rfl, rfl, hq⟩

theorem ares1_run (htt : TtOk P tt) {r : ResultVar} {env : Env} {H : AH} {v : AV} (h : ares1 tt r env H v) {G : Gh} {a : Act} {w : World} (hS : Sim w0 G H w) (hE : EnvRep G N env a.tmps) :
    ∃ x, (resOne a.tmps r).run P w = .ok x w ∧ Rep G v x := by
  cases r with
  | tmp t => exact ⟨a.tmps.getD t undef, rfl, by rw [← h]; exact hE.rep t⟩
  | cell ad t =>
    obtain ⟨i, h1, h2, h⟩ := h
    have hp := hE.rep ad
    simp only [aev] at h
    split at h
    · rename_i id off hx
      obtain ⟨cs, e, h3, h4, rfl, _⟩ := h
      rw [hx] at hp
      obtain ⟨b, hv, hb⟩ := ptr_inv hp
      obtain ⟨vs, k3, k4, k5⟩ := hS.cellsAt h3 hb
      have hr := (k4.drop off).take i.size
      refine ⟨mkV i.agg ((vs.drop off).take i.size), ?_, mk_rep hr _⟩
      have hrun := run_loadAt_cells (htt t i h1) (w := w) (b := b) (off := off) (vs := (vs.drop off).take i.size) (by have := k4.1; simp; omega) h2 (fun j u hu => by
        rw [add_off]
        simp only [World.cell?, k3]
        rw [List.getElem?_take] at hu
        split at hu
        · simpa using hu
        · cases hu)
      simp only [Instr.loadAt, Instr.sureAddr, Sem.run_bind, Sem.run_pure, Result.andThen_ok] at hrun
      show Sem.run P (asAddr (a.tmps.getD ad undef) >>= fun x => loadVar t x) w = _
      rw [hv]
      simp only [asAddr, Sem.run_bind, Sem.run_pure, Result.andThen_ok]
      exact hrun
    · rename_i cs hx
      obtain ⟨h3, rfl, _⟩ := h
      rw [hx] at hp
      obtain ⟨b, off, hv, hb⟩ := hp.rptr_inv
      obtain ⟨vs, k3, k4, k5⟩ := (hb.takeL i.size).cells hS
      refine ⟨mkV i.agg vs, ?_, mk_rep k3 _⟩
      have hrun := run_loadAt_cells (htt t i h1) (w := w) (vs := vs) (by rw [← k3.1]; simp; omega) h2 k4
      simp only [Instr.loadAt, Instr.sureAddr, Sem.run_bind, Sem.run_pure, Result.andThen_ok] at hrun
      show Sem.run P (asAddr (a.tmps.getD ad undef) >>= fun x => loadVar t x) w = _
      rw [hv]
      simp only [asAddr, Sem.run_bind, Sem.run_pure, Result.andThen_ok]
      exact hrun
    · cases h

theorem aresL_run (htt : TtOk P tt) {env : Env} {H : AH} {G : Gh} {a : Act} {w : World} (hS : Sim w0 G H w) (hE : EnvRep G N env a.tmps) : ∀ {rs : List ResultVar} {vs : List AV}, aresL tt env H rs vs →
    ∃ xs : List Value, (rs.mapM (resOne a.tmps)).run P w = .ok xs w ∧ RepL G vs xs
  | [], vs, h => by
    simp only [aresL] at h; subst h
    exact ⟨[], by simp, .nil _⟩
  | r :: rs, vs, h => by
    obtain ⟨v, us, h1, h2, rfl⟩ := h
    obtain ⟨x, k1, k2⟩ := ares1_run htt h1 hS hE
    obtain ⟨xs, k3, k4⟩ := aresL_run htt hS hE h2
    refine ⟨x :: xs, ?_, .cons k2 k4⟩
    rw [List.mapM_cons]
    simp only [Sem.run_bind, k1, k3, Result.andThen_ok, Sem.run_pure]

theorem ares_run (htt : TtOk P tt) {fn : Func} {rs : List ResultVar} (hrs : fn.results.toList = rs) {env : Env} {H : AH} {v : AV} (h : ares tt env H rs v) {G : Gh} {a : Act} {w : World} (hS : Sim w0 G H w) (hE : EnvRep G N env a.tmps) :
    ∃ x, (results fn a.tmps).run P w = .ok x w ∧ Rep G v x := by
  have key : ∀ vs, aresL tt env H rs vs → ∃ xs : List Value, (results fn a.tmps).run P w = .ok (if h : xs.toArray.size = 1 then xs.toArray[0] else .tuple xs.toArray) w ∧ RepL G vs xs := by
    intro vs hvs
    obtain ⟨xs, k1, k2⟩ := aresL_run htt hS hE hvs
    refine ⟨xs, ?_, k2⟩
    rw [results_eq]
    have k3 : (fn.results.mapM (resOne a.tmps)).run P w = .ok xs.toArray w := by
      simp [Array.mapM_eq_mapM_toList, hrs, k1]
    simp only [Sem.run_bind, k3, Result.andThen_ok, Sem.run_pure]
  unfold ares at h
  split at h
  · rename_i r
    obtain ⟨xs, k1, k2⟩ := key [v] ⟨v, [], h, rfl, rfl⟩
    obtain ⟨x, xs', rfl, k3, k4⟩ := k2.form
    have : xs' = [] := k4.form_nil
    subst this
    exact ⟨x, by simpa using k1, k3⟩
  · rename_i hne
    obtain ⟨vs, h1, rfl⟩ := h
    obtain ⟨xs, k1, k2⟩ := key vs h1
    have hlen : ∀ (rs : List ResultVar) (vs : List AV), aresL tt env H rs vs → vs.length = rs.length := by
      intro rs
      induction rs with
      | nil => intro vs h; simp only [aresL] at h; subst h; rfl
      | cons r rs ih => intro vs h; obtain ⟨v, us, _, h2, rfl⟩ := h; simp [ih us h2]
    have h1' : xs.toArray.size ≠ 1 := by
      have := hlen _ _ h1
      have h2 := k2.1
      intro e
      simp at e
      have : rs.length = 1 := by omega
      obtain ⟨r, rfl⟩ := List.length_eq_one_iff.1 this
      exact hne r rfl
    rw [dif_neg h1'] at k1
    exact ⟨_, k1, .tup _ _ k2.1 k2.2⟩

theorem look_enum : ∀ (l : List AV) (j k : Nat), look k (enumF j l) = if j ≤ k then (l[k - j]?).getD .any else .any
  | [], j, k => by simp [enumF, look]
  | x :: xs, j, k => by
    simp only [enumF, look, look_enum xs (j + 1) k]
    by_cases h : k = j
    · subst h; simp
    · rw [if_neg h]
      by_cases h2 : j ≤ k
      · rw [if_pos h2, if_pos (by omega)]
        have : k - j = (k - (j + 1)) + 1 := by omega
        rw [this, List.getElem?_cons_succ]
      · rw [if_neg h2, if_neg (by omega)]

theorem EnvRep.enter {G : Gh} {args : List AV} {vs : List Value} (h : RepL G args vs) {N : Nat} (hn : args.length ≤ N) : EnvRep G N (enumF 0 args) (vs.toArray ++ Array.replicate (N - vs.toArray.size) undef) := by
  have hl := h.1
  refine ⟨by simp; omega, fun k => ?_⟩
  rw [look_enum, if_pos (Nat.zero_le _), Nat.sub_zero]
  cases hk : args[k]? with
  | none => exact .any _
  | some c =>
    obtain ⟨v, h1, h2⟩ := h.index hk
    have hlt : k < vs.length := (List.getElem?_eq_some_iff.1 h1).1
    rw [Array.getD_eq_getD_getElem?, Array.getElem?_append_left (by simpa using hlt)]
    simp [h1]
    exact h2

theorem ACalls.enter (htt : TtOk P tt) {f : FuncId} {fn : Func} {c : Code} {x : XCode} {rs : List ResultVar} (hf : P.funcs[f]? = some fn) (hname0 : (fn.name == "runtime.NumGoroutine") = false) (hb : fn.body = some c) (hx : xc c = x)
    (hd : dstOk fn.ntmps c = true) (hrs : fn.results.toList = rs) {args : List AV} (hn : args.length ≤ fn.ntmps) {H : AH} {Q : AV → AH → Prop}
    (h : H.WF → (∀ a ∈ args, a.Ok) → awp P w0 tt fn.ntmps x (enumF 0 args) H fun e env' H' => (e = .normal ∨ e = .ret) ∧ ∃ r, ares tt env' H' rs r ∧ Leave H r H' Q) : ACalls P w0 f args H Q := by
  have hname : fn.name ≠ "runtime.NumGoroutine" := by simpa using hname0
  refine ⟨⟨fn, hf, hname, by rw [hb]; rfl⟩, fun G w vs hS hr => ?_⟩
  refine calls_of_wp hf hb ?_
  have hok : ∀ a ∈ args, a.Ok := fun a ha => by
    obtain ⟨j, hj, rfl⟩ := List.getElem_of_mem ha
    obtain ⟨v, _, h2⟩ := hr.index (List.getElem?_eq_getElem hj)
    exact ⟨G, v, h2⟩
  have hw := awp_sound (N := fn.ntmps) htt _ _ _ _ (h hS.wf hok) c hx hd G { tmps := vs.toArray ++ Array.replicate (fn.ntmps - vs.toArray.size) undef, defers := [] } w hS (.enter hr hn) rfl
  refine wp_mono hw fun e a' w' ⟨G', env', H', h1, h2, h3, h4, h5, r, h6, h7⟩ => ?_
  obtain ⟨y, k1, k2⟩ := ares_run htt hrs h6 h2 h3
  have hend : ∃ v r G' H', Ending.returned y = .returned v ∧ G.le G' ∧ Sim w0 G' H' w' ∧ Rep G' r v ∧ Q r H' := by
    rcases h7 with ⟨r', H'', q1, q2, q3, q4, q5, q6⟩ | ⟨l, t, at', H'', q0, q1, q2, q3, q4, q5, q6, q7, q8⟩
    · refine ⟨y, r', G'.cut H''.n H''.m, H'', rfl, Gh.le_cut h1 hS (by omega) (by omega), h2.sub q3, ?_, q6⟩
      rw [q4, q5]
      exact (q1 G' y k2).cut q2
    · subst q0
      cases k2 with
      | own _ _ _ tok ht hl hv hsz hrep =>
        obtain ⟨x, j1, j2, j3, j4⟩ := h2.tks t at' q1
        rw [ht] at j1; simp at j1; subst j1
        have hxn : tok.n = l.length := by rw [← j2] at q2; exact q2
        have hxv := hv hxn
        have hcut := h2.sub q5
        have hle0 : G.le (G'.cut H''.n H''.m) := Gh.le_cut h1 hS (by omega) (by omega)
        have hob : ∀ b, tok.v.ownBlock = some b → ∀ i, H''.obj i ≠ none → (G'.cut H''.n H''.m).ob i ≠ some b := by
          intro b hb i hi
          have hi' : i < H''.n := by
            rcases Nat.lt_or_ge i H''.n with h | h
            · exact h
            · exact absurd (q5.wf.obj i h) hi
          simp only [Gh.cut, hi', if_true]
          exact (j4 b hb).2.1 i ((q5.obj i hi').ne hi)
        have htk : ∀ b, tok.v.ownBlock = some b → ∀ t' x', H''.tok t' ≠ none → (G'.cut H''.n H''.m).tk t' = some x' → x'.v.ownBlock ≠ some b := by
          intro b hb t' x' ht' hx'
          have ht2 : t' < H''.m := by
            rcases Nat.lt_or_ge t' H''.m with h | h
            · exact h
            · exact absurd (q5.wf.tok t' h) ht'
          simp only [Gh.cut, ht2, if_true] at hx'
          exact (j4 b hb).2.2 t' x' (by omega) (TLe.ne (q5.tok t' ht2) ht') hx'
        obtain ⟨g1, g2⟩ := hcut.addTok (x := tok) j3 (fun b hb => ⟨(j4 b hb).1, hob b hb, htk b hb⟩)
        refine ⟨y, .own l H.m, _, _, rfl, hle0.trans g2, ?_, ?_, q8⟩
        · rw [← j2]; exact g1
        · rw [← q7]
          refine .own l H''.m y tok (by simp [Gh.addTk]) hl hv hsz ?_
          exact Rep.mono g2 (Rep.cut hrep (by rw [q6, q7]; exact q4))
  rcases h5 with rfl | rfl
  · exact ⟨h4, y, k1, hend⟩
  · exact ⟨h4, y, k1, hend⟩

theorem ACalls.enterK (htt : TtOk P tt) {f : FuncId} {fn : Func} {c : Code} {x : XCode} {rs : List ResultVar} (hf : P.funcs[f]? = some fn) (hname0 : (fn.name == "runtime.NumGoroutine") = false) (hb : fn.body = some c) (hx : xc c = x)
    (hd : dstOk fn.ntmps c = true) (hrs : fn.results.toList = rs) {args : List AV} (hn : args.length ≤ fn.ntmps) {H : AH} {Q : AV → AH → Prop}
    (h : H.WF → (∀ a ∈ args, a.Ok) → ∀ (R : APost), (∀ env' H' r, ares tt env' H' rs r → Leave H r H' Q → R .ret env' H') → (∀ env' H', R .ret env' H' → R .normal env' H') → awp P w0 tt fn.ntmps x (enumF 0 args) H R) : ACalls P w0 f args H Q :=
  ACalls.enter htt hf hname0 hb hx hd hrs hn fun hwf hok => h hwf hok _ (fun env' H' r h1 h2 => ⟨.inr rfl, r, h1, h2⟩) (fun env' H' ⟨_, r, h1, h2⟩ => ⟨.inl rfl, r, h1, h2⟩)
end
end Go.Ai
