/- A part of the proof: no statement of the seat is proved in this text. -/
import Derived.Test.YtdmhbplibcolbaaGreatAi12
set_option linter.unusedVariables false
set_option linter.unusedSimpArgs false
namespace Go.Ai
open Go Go.RowKit
def XO.kind : XO → Nat
  | .load _ _ => 1
  | .store _ _ _ => 2
  | .alloc _ | .box _ _ => 3
  | .append _ _ _ | .empty _ => 4
  | .range _ _ | .next _ => 5
  | _ => 0
def XOp.looks (o : XOp) : List Nat := o.xo.args.flatMap opSlot ++ (match o.guard with | some (some k, _) => [k] | _ => [])
def XOp.apart (x y : XOp) : Bool :=
  (match x.dst with | some d => !(y.looks.contains d) && y.dst != some d | none => true) && (match y.dst with | some d => !(x.looks.contains d) | none => true)
def EnvEq (e e' : Env) : Prop := ∀ k, look k e = look k e'
section
variable (P : Program) (w0 : World) (tt : TT)
def dstep (env : Env) (xo : XO) (v : AV) (E : DE) : Prop := ∀ H, E.agree H → XStep P w0 tt env H xo v (E.ap H)
def dop (o : XOp) (env : Env) (v : AV) (E : DE) : Prop :=
  (E.touch = .none ∨ E.touch.kind = o.xo.kind) ∧ match o.guard with
  | none => dstep P w0 tt env o.xo v E
  | some (some k, b) => (look k env = .bool b ∧ dstep P w0 tt env o.xo v E) ∨ ((look k env = .bool (!b) ∨ look k env = .tup []) ∧ v = .tup [] ∧ E = .none)
  | some (none, _) => False
inductive DRun (ol : Nat → XOp) : List (Nat × DE) → Env → AH → Env → AH → Prop
  | nil {e e' : Env} {H : AH} (h : EnvEq e e') : DRun ol [] e H e' H
  | cons {i : Nat} {E : DE} {r : List (Nat × DE)} {e e' : Env} {H H' : AH} {v : AV} (h1 : dop P w0 tt (ol i) e v E) (h2 : E.agree H) (h3 : DRun ol r (eput (ol i).dst v e) (E.ap H) e' H') : DRun ol ((i, E) :: r) e H e' H'
end
section
variable {P : Program} {w0 : World} {tt : TT}
theorem aev_of {e e' : Env} {xo : XO} (h : ∀ k ∈ xo.args.flatMap opSlot, look k e = look k e') : ∀ x ∈ xo.args, aev e x = aev e' x := by
  intro x hx
  cases x with
  | tmp t => exact h t (List.mem_flatMap.2 ⟨_, hx, by simp [opSlot]⟩)
  | const v => rfl
  | global g => rfl
  | func f => rfl
theorem dop.congr {o : XOp} {e e' : Env} {v : AV} {E : DE} (h : ∀ k ∈ o.looks, look k e = look k e') (hd : dop P w0 tt o e v E) : dop P w0 tt o e' v E := by
  refine ⟨hd.1, ?_⟩
  have hs : ∀ {v E}, dstep P w0 tt e o.xo v E → dstep P w0 tt e' o.xo v E := fun hs H ha => (hs H ha).congr (aev_of fun k hk => h k (List.mem_append_left _ hk))
  have hd2 := hd.2
  cases hg : o.guard with
  | none => simp only [hg] at hd2 ⊢; exact hs hd2
  | some p =>
    obtain ⟨k, b⟩ := p
    cases k with
    | none => simp only [hg] at hd2
    | some k =>
      simp only [hg] at hd2 ⊢
      rw [← h k (by simp [XOp.looks, hg])]
      exact hd2.imp (fun x => ⟨x.1, hs x.2⟩) id
theorem EnvEq.put {e e' : Env} (h : EnvEq e e') (d : Option Nat) (v : AV) : EnvEq (eput d v e) (eput d v e') := by
  cases d with
  | none => exact h
  | some d =>
    intro k
    simp only [eput, look]
    split
    · rfl
    · exact h k
theorem EnvEq.trans {e e' e'' : Env} (h : EnvEq e e') (h' : EnvEq e' e'') : EnvEq e e'' := fun k => (h k).trans (h' k)
theorem EnvEq.symm {e e' : Env} (h : EnvEq e e') : EnvEq e' e := fun k => (h k).symm
theorem EnvEq.swap (e : Env) {d d' : Option Nat} (h : ∀ x, d = some x → d' ≠ some x) (v v' : AV) : EnvEq (eput d v (eput d' v' e)) (eput d' v' (eput d v e)) := by
  cases d with
  | none => exact fun k => rfl
  | some x =>
    cases d' with
    | none => exact fun k => rfl
    | some y =>
      have hne : x ≠ y := fun e => h x rfl (by rw [e])
      intro k
      simp only [eput, look]
      by_cases h1 : k = x
      · subst h1; simp [hne]
      · simp [h1]
theorem look_eput_ne {k : Nat} {d : Option Nat} (h : d ≠ some k) (v : AV) (e : Env) : look k (eput d v e) = look k e := by
  cases d with
  | none => rfl
  | some x =>
    simp only [eput, look]
    rw [if_neg (fun e => h (by rw [e]))]
theorem DRun.congr {ol : Nat → XOp} {r : List (Nat × DE)} {e e' : Env} {H H' : AH} (h : DRun P w0 tt ol r e H e' H') : ∀ {e0 : Env}, EnvEq e e0 → DRun P w0 tt ol r e0 H e' H' := by
  induction h with
  | nil h => exact fun h0 => .nil (h0.symm.trans h)
  | cons h1 h2 h3 ih => exact fun h0 => .cons (h1.congr fun k _ => h0 k) h2 (ih (h0.put _ _))
theorem XOp.apart_spec {x y : XOp} (h : x.apart y = true) : (∀ d, x.dst = some d → d ∉ y.looks) ∧ (∀ d, x.dst = some d → y.dst ≠ some d) ∧ (∀ d, y.dst = some d → d ∉ x.looks) := by
  refine ⟨fun d hd => ?_, fun d hd => ?_, fun d hd => ?_⟩ <;> simp [XOp.apart, hd] at h
  · exact h.1.1
  · exact h.1.2
  · exact h.2
theorem DRun.swap {ol : Nat → XOp} {i j : Nat} {E F : DE} {r : List (Nat × DE)} {e e' : Env} {H H' : AH} (ha : (ol j).apart (ol i) = true) (hi : E.touch.indep F.touch)
    (h : DRun P w0 tt ol ((j, E) :: (i, F) :: r) e H e' H') : DRun P w0 tt ol ((i, F) :: (j, E) :: r) e H e' H' := by
  obtain ⟨a1, a2, a3⟩ := XOp.apart_spec ha
  cases h with
  | cons h1 h2 h3 =>
    rename_i v
    cases h3 with
    | cons k1 k2 k3 =>
      rename_i u
      obtain ⟨s1, s2, s3⟩ := DE.swap hi h2 k2
      refine .cons (k1.congr fun k hk => look_eput_ne (fun e => a1 k e hk) _ _) s1 (.cons (h1.congr fun k hk => (look_eput_ne (fun e => a3 k e hk) _ _).symm) s2 ?_)
      rw [← s3]
      exact k3.congr (EnvEq.swap e (fun x hx hy => a2 x hy hx) _ _)
theorem DRun.bubble {ol : Nat → XOp} {i : Nat} {F : DE} {r : List (Nat × DE)} : ∀ {u : List (Nat × DE)} {e e' : Env} {H H' : AH}, (∀ p ∈ u, (ol p.1).apart (ol i) = true ∧ p.2.touch.indep F.touch) →
    DRun P w0 tt ol (u ++ (i, F) :: r) e H e' H' → DRun P w0 tt ol ((i, F) :: (u ++ r)) e H e' H'
  | [], e, e', H, H', _, h => h
  | (j, E) :: u, e, e', H, H', hp, h => by
    cases h with
    | cons h1 h2 h3 =>
      have := DRun.bubble (fun p hm => hp p (List.mem_cons_of_mem _ hm)) h3
      exact DRun.swap (hp _ (List.mem_cons_self ..)).1 (hp _ (List.mem_cons_self ..)).2 (.cons h1 h2 this)
variable {N : Nat}
theorem xstep_ok (htt : TtOk P tt) {o : Oper} {env : Env} {H H' : AH} {v : AV} (hd : ∀ d, o.dst = some d → d < N) (h : XStep P w0 tt env H (XO.of o.op o.type) v H')
    {G : Gh} {a : Act} {w : World} (hS : Sim w0 G H w) (hE : EnvRep G N env a.tmps) (had : a.defers = []) {next : Act → World → Prop} {Q : Exit → Act → World → Prop}
    (hk : ∀ (G' : Gh) (a' : Act) (w' : World), G.le G' → Sim w0 G' H' w' → EnvRep G' N (eput o.dst v env) a'.tmps → a'.defers = [] → next a' w') : o.wp P a w next Q := by
  cases hxo : XO.of o.op o.type with
  | call f args =>
    rw [hxo] at h
    obtain ⟨c, h1, h2, rfl⟩ := XO.of_call hxo
    exact call_ok (caps := []) hd hS hE had h1 h2 (rfl : aev env (.func f) = _) (by rw [List.append_nil]; exact h) fun G' a' w' r H'' k1 k2 k3 k4 k5 => by
      obtain ⟨rfl, rfl⟩ := k5; exact hk G' a' w' k1 k2 k3 k4
  | callv x args =>
    rw [hxo] at h
    obtain ⟨c, h1, h2, rfl⟩ := XO.of_callv hxo
    obtain ⟨f, caps, h3, h⟩ := h
    exact call_ok hd hS hE had h1 h2 h3 h fun G' a' w' r H'' k1 k2 k3 k4 k5 => by
      obtain ⟨rfl, rfl⟩ := k5; exact hk G' a' w' k1 k2 k3 k4
  | raw op ty => rw [hxo] at h; cases h
  | _ =>
    have h' := h
    rw [hxo] at h'
    have h'' : astep tt env H (XO.of o.op o.type) v H' := by rw [hxo]; exact h'
    exact plain_ok hd hS hE had (astep_ok htt h'') hk
theorem dop_ok (htt : TtOk P tt) {ops : Array Oper} {o : Oper} {i : Nat} (ho : ops[i]? = some o) {env : Env} {H : AH} {v : AV} {E : DE} (hd : ∀ d, o.dst = some d → d < N) (h : dop P w0 tt (xop ops o) env v E) (hag : E.agree H)
    {G : Gh} {a : Act} {w : World} (hS : Sim w0 G H w) (hE : EnvRep G N env a.tmps) (had : a.defers = []) {next : Act → World → Prop} {Q : Exit → Act → World → Prop}
    (hk : ∀ (G' : Gh) (a' : Act) (w' : World), G.le G' → Sim w0 G' (E.ap H) w' → EnvRep G' N (eput o.dst v env) a'.tmps → a'.defers = [] → next a' w') : wpOp P ops Q i next a w := by
  have h2 := h.2
  unfold wpOp
  simp only [ho]
  cases hg : o.guard with
  | none =>
    simp only [xop, hg, Option.map_none] at h2
    rw [if_pos (by simp [Region.wanted, hg])]
    exact .inl (xstep_ok htt hd (h2 H hag) hS hE had hk)
  | some jb =>
    obtain ⟨j, b⟩ := jb
    simp only [xop, hg, Option.map_some] at h2
    cases hj : (ops[j]?).bind (·.dst) with
    | none => rw [hj] at h2; cases h2
    | some k =>
      rw [hj] at h2
      simp only at h2
      have hy : ∀ c, look k env = .bool c → yielded ops a.tmps j = some c := by
        intro c hc
        have hr := hE.rep k
        rw [hc] at hr
        have hv := hr.bool_inv
        unfold yielded
        rw [hj]
        simp only [Option.bind_some]
        rw [Array.getD_eq_getD_getElem?] at hv
        cases hq : a.tmps[k]? with
        | none => rw [hq] at hv; simp [undef] at hv
        | some u => rw [hq] at hv; simp at hv; subst hv; rfl
      rcases h2 with ⟨h3, h4⟩ | ⟨h3, rfl, rfl⟩
      · rw [if_pos (by simp [Region.wanted, hg, hy _ h3])]
        exact .inl (xstep_ok htt hd (h4 H hag) hS hE had hk)
      · have hw : Region.wanted o (yielded ops a.tmps) = false := by
          rcases h3 with h3 | h3
          · simp [Region.wanted, hg, hy _ h3]
          · have hr := hE.rep k
            rw [h3] at hr
            have hv := hr.undef_inv
            have hy0 : yielded ops a.tmps j = none := by
              unfold yielded
              rw [hj]
              simp only [Option.bind_some]
              rw [Array.getD_eq_getD_getElem?] at hv
              cases hq : a.tmps[k]? with
              | none => rfl
              | some u => rw [hq] at hv; simp at hv; subst hv; rfl
            simp [Region.wanted, hg, hy0]
        rw [if_neg (by rw [hw]; simp)]
        exact hk G _ w (.refl G) hS (hE.put o.dst hd .undef) (by rw [put_defers]; exact had)
theorem EnvRep.eq {G : Gh} {e e' : Env} {t : Array Value} (h : EnvRep G N e t) (he : EnvEq e e') : EnvRep G N e' t := ⟨h.size, fun k => by rw [← he k]; exact h.rep k⟩
theorem mem_afters {o : Oper} {j : Nat} : j ∈ afters o ↔ ∃ e ∈ o.after, Region.binds .any e = true ∧ e.on = j := by
  simp [afters, List.mem_map, List.mem_filter, and_assoc]
inductive Waits (ops : Array Oper) : Nat → Nat → Prop
  | one {j i : Nat} {o : Oper} (h : ops[i]? = some o) (hj : j ∈ afters o) : Waits ops j i
  | more {j k i : Nat} {o : Oper} (h1 : Waits ops j k) (h : ops[i]? = some o) (hk : k ∈ afters o) : Waits ops j i
theorem Waits.listed {ops : Array Oper} {L : Nat → Prop} (hdown : ∀ i o, ops[i]? = some o → L i → ∀ j ∈ afters o, L j) {j i : Nat} (h : Waits ops j i) : (∀ o, ops[i]? = some o → ∀ k ∈ afters o, L k) → L j := by
  induction h with
  | one h hj => exact fun hl => hl _ h _ hj
  | more h1 h hk ih => exact fun hl => ih fun o ho k' hk' => hdown _ o ho (hl _ h _ hk) k' hk'
theorem draw_sound (htt : TtOk P tt) {ops : Array Oper} {Q : Exit → Act → World → Prop} (hd : ∀ o ∈ ops, ∀ d, o.dst = some d → d < N) {ol : Nat → XOp} (hol : ∀ i o, ops[i]? = some o → ol i = xop ops o)
    (hback : ∀ i o, ops[i]? = some o → ∀ j ∈ afters o, j < i) : ∀ (fuel : Nat) (listed : Array Bool) (pl : List (Nat × DE)) (env : Env) (H : AH) (env' : Env) (H' : AH) (G : Gh) (a : Act) (w : World),
    listed.size = ops.size → (∀ i o, ops[i]? = some o → listed.getD i false = true → ∀ j ∈ afters o, listed.getD j false = true) → (∀ j, j ∈ pl.map (·.1) ↔ j < ops.size ∧ listed.getD j true = false) → (pl.map (·.1)).Pairwise (· < ·) →
    (pl.Pairwise fun p q => Waits ops p.1 q.1 ∨ ((ol p.1).apart (ol q.1) = true ∧ p.2.touch.indep q.2.touch)) → fuel = pl.length →
    DRun P w0 tt ol pl env H env' H' → Sim w0 G H w → EnvRep G N env a.tmps → a.defers = [] →
    (∀ (G' : Gh) (a' : Act) (w' : World), G.le G' → Sim w0 G' H' w' → EnvRep G' N env' a'.tmps → a'.defers = [] → Q .normal a' w') → wpAny P .any ops Q fuel listed a w := by
  intro fuel
  induction fuel with
  | zero =>
    intro listed pl env H env' H' G a w hsz hdown hmem hlt hpw hf hrun hS hE had hk
    have : pl = [] := by cases pl <;> simp at hf ⊢
    subst this
    refine ⟨?_, ?_⟩
    · refine List.eq_nil_iff_forall_not_mem.2 fun i hi => ?_
      obtain ⟨h1, o, h2, _⟩ := mem_ready.1 hi
      have := (hmem i).2 ⟨(Array.getElem?_eq_some_iff.1 h2).1, h1⟩
      simp at this
    · cases hrun with
      | nil he => exact hk G a w (.refl G) hS (hE.eq he) had
  | succ fuel ih =>
    intro listed pl env H env' H' G a w hsz hdown hmem hlt hpw hf hrun hS hE had hk
    refine ⟨fun hnil => ?_, fun i hi => ?_⟩
    · exfalso
      cases pl with
      | nil => simp at hf
      | cons p r =>
        have hp := (hmem p.1).1 (by simp)
        have hr : p.1 ∈ Region.ready .any ops listed := by
          refine mem_ready.2 ⟨hp.2, ops[p.1], Array.getElem?_eq_getElem hp.1, fun e he hb => ?_⟩
          have h1 := hback p.1 _ (Array.getElem?_eq_getElem hp.1) e.on (mem_afters.2 ⟨e, he, hb, rfl⟩)
          cases hl : listed.getD e.on false with
          | true => rfl
          | false =>
            have hl' : listed.getD e.on true = false := by
              have hlt' : e.on < listed.size := by omega
              simp [hlt'] at hl ⊢
              exact hl
            have := (hmem e.on).2 ⟨by omega, hl'⟩
            simp only [List.map_cons, List.mem_cons] at this
            rcases this with h2 | h2
            · omega
            · have := (List.pairwise_cons.1 (by simpa using hlt)).1 _ h2
              omega
        rw [hnil] at hr; cases hr
    · obtain ⟨hun, o, ho, hall⟩ := mem_ready.1 hi
      have hlt_i := (Array.getElem?_eq_some_iff.1 ho).1
      obtain ⟨⟨i', F⟩, hFm, hFe⟩ := List.mem_map.1 ((hmem i).2 ⟨hlt_i, hun⟩)
      simp only at hFe
      subst hFe
      obtain ⟨u, r, rfl⟩ := List.append_of_mem hFm
      have hap : ∀ p ∈ u, (ol p.1).apart (ol i') = true ∧ p.2.touch.indep F.touch := by
        intro p hp
        rcases (List.pairwise_append.1 hpw).2.2 p hp (i', F) (List.mem_cons_self ..) with hj | h
        · exfalso
          have h1 : listed.getD p.1 false = true := hj.listed (L := fun k => listed.getD k false = true) hdown fun o' ho' k hk => by
            simp only at ho'
            rw [ho] at ho'; cases ho'
            obtain ⟨e, he, hb, rfl⟩ := mem_afters.1 hk
            exact hall e he hb
          have h2 := ((hmem p.1).1 (by simp; exact .inl ⟨_, hp⟩)).2
          have hlt' : p.1 < listed.size := by
            rcases Nat.lt_or_ge p.1 listed.size with h' | h'
            · exact h'
            · simp [Array.getElem?_eq_none h'] at h1
          simp [hlt'] at h1 h2
          rw [h1] at h2; cases h2
        · exact h
      cases DRun.bubble hap hrun with
      | cons h1 h2 h3 =>
        rename_i v
        have hoi := hol i' o ho
        rw [hoi] at h1 h3
        refine dop_ok htt ho (hd o (Array.mem_of_getElem? ho)) h1 h2 hS hE had fun G' a' w' k1 k2 k3 k4 => ?_
        have hnd := hlt
        rw [List.map_append, List.map_cons, List.pairwise_append] at hnd
        refine ih _ (u ++ r) _ _ env' H' G' a' w' (by simp [hsz]) (fun i2 o2 ho2 hl2 j hj => ?_) (fun j => ?_) ?_ ?_ (by simp at hf ⊢; omega) h3 k2 k3 k4 fun G'' a'' w'' j1 j2 j3 j4 => hk G'' a'' w'' (k1.trans j1) j2 j3 j4
        · have hkeep : ∀ k, listed.getD k false = true → (listed.setIfInBounds i' true).getD k false = true := fun k hk => by
            by_cases hki : i' = k
            · subst hki; simp [show i' < listed.size by omega]
            · rw [getD_set_ne false hki]; exact hk
          by_cases hii : i' = i2
          · subst hii
            rw [ho] at ho2; cases ho2
            obtain ⟨e, he, hb, rfl⟩ := mem_afters.1 hj
            exact hkeep _ (hall e he hb)
          · rw [getD_set_ne false hii] at hl2
            exact hkeep _ (hdown i2 o2 ho2 hl2 j hj)
        · have hm := hmem j
          simp only [List.map_append, List.map_cons, List.mem_append, List.mem_cons] at hm ⊢
          by_cases hji : i' = j
          · subst hji
            have h5 : (listed.setIfInBounds i' true).getD i' true = true := by simp [show i' < listed.size by omega]
            rw [h5]
            simp only [Bool.true_eq_false, and_false, iff_false, not_or]
            refine ⟨fun h => ?_, fun h => ?_⟩
            · have := hnd.2.2 _ h i' (List.mem_cons_self ..); omega
            · have := (List.pairwise_cons.1 hnd.2.1).1 _ h; omega
          · rw [getD_set_ne true hji]
            rw [← hm]
            simp [Ne.symm hji]
        · rw [List.map_append, List.pairwise_append]
          exact ⟨hnd.1, (List.pairwise_cons.1 hnd.2.1).2, fun x hx y hy => hnd.2.2 x hx y (List.mem_cons_of_mem _ hy)⟩
        · have := List.pairwise_append.1 hpw
          exact List.pairwise_append.2 ⟨this.1, (List.pairwise_cons.1 this.2.1).2, fun x hx y hy => this.2.2 x hx y (List.mem_cons_of_mem _ hy)⟩
end
end Go.Ai
