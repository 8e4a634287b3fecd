/- A part of the proof: no statement of the seat is proved in this text. -/
import Derived.Test.YtcphpaeebaacgaaAi12
set_option linter.unusedVariables false
set_option linter.unusedSimpArgs false
namespace Go.Ai
open Go Go.RowKit

/-! ### A region whose order is drawn -/
def opSlot : Operand → List Nat
  | .tmp t => [t]
  | _ => []
def XO.args : XO → List Operand
  | .move x => [x]
  | .pick c a b => [c, a, b]
  | .alloc _ => []
  | .box _ x => [x]
  | .load _ a => [a]
  | .store _ a x => [a, x]
  | .bin _ _ x y => [x, y]
  | .un _ x => [x]
  | .conv _ _ x => [x]
  | .fieldAddr _ x _ => [x]
  | .field _ x _ => [x]
  | .indexAddr _ x i => [x, i]
  | .index _ x i => [x, i]
  | .slice _ x lo hi => x :: (lo.toList ++ hi.toList)
  | .extract x _ => [x]
  | .mkfn _ caps => caps
  | .buildSlice _ _ ps => ps.map (·.2)
  | .build _ ps => ps.map (·.2)
  | .len _ x => [x]
  | .append _ x y => [x, y]
  | .range _ x => [x]
  | .next x => [x]
  | .max x y => [x, y]
  | .call _ args => args
  | .callv x args => x :: args
  | .raw _ _ => []

section
variable (P : Program) (w0 : World) (tt : TT)

/-- One operation, as a relation. -/
def XStep (env : Env) (H : AH) (xo : XO) (v : AV) (H' : AH) : Prop :=
  match xo with
  | .call f args => ACalls P w0 f (args.map (aev env)) H fun r H'' => r = v ∧ H'' = H'
  | .callv x args => ∃ f caps, aev env x = .fn f caps ∧ ACalls P w0 f (args.map (aev env) ++ caps) H fun r H'' => r = v ∧ H'' = H'
  | .raw _ _ => False
  | xo => astep tt env H xo v H'
end

theorem abound_congr {e e' : Env} {d : Int} {o : Option Operand} (h : ∀ x ∈ o.toList, aev e x = aev e' x) : abound e d o = abound e' d o := by
  cases o with
  | none => rfl
  | some x => simp only [abound]; rw [h x (by simp)]

section
variable {P : Program} {w0 : World} {tt : TT}

theorem map_aev_congr {e e' : Env} {l : List Operand} (h : ∀ x ∈ l, aev e x = aev e' x) : l.map (aev e) = l.map (aev e') := List.map_congr_left h
theorem map_aev2_congr {e e' : Env} {l : List (Nat × Operand)} (h : ∀ x ∈ l.map (·.2), aev e x = aev e' x) : (l.map fun p => aev e p.2) = l.map fun p => aev e' p.2 :=
  List.map_congr_left fun p hp => h p.2 (List.mem_map_of_mem hp)
theorem map_aev3_congr {e e' : Env} {l : List (Nat × Operand)} (h : ∀ x ∈ l.map (·.2), aev e x = aev e' x) : (l.map fun p => (p.1, aev e p.2)) = l.map fun p => (p.1, aev e' p.2) :=
  List.map_congr_left fun p hp => by rw [h p.2 (List.mem_map_of_mem hp)]

theorem XStep.congr {e e' : Env} {H H' : AH} {xo : XO} {v : AV} (h : ∀ x ∈ xo.args, aev e x = aev e' x) (hs : XStep P w0 tt e H xo v H') : XStep P w0 tt e' H xo v H' := by
  cases xo
  case slice t x lo hi =>
    have h1 : aev e x = aev e' x := h x (by simp [XO.args])
    have h2 := fun d => abound_congr (d := d) (o := lo) fun y hy => h y (List.mem_cons_of_mem _ (List.mem_append_left _ hy))
    have h3 := fun d => abound_congr (d := d) (o := hi) fun y hy => h y (List.mem_cons_of_mem _ (List.mem_append_right _ hy))
    simp only [XStep, astep] at hs ⊢
    simp only [h1, h2, h3] at hs
    exact hs
  case mkfn f caps => simp only [XStep, astep] at hs ⊢; rw [← map_aev_congr (l := caps) h]; exact hs
  case buildSlice t n ps =>
    simp only [XStep, astep] at hs ⊢
    rw [← map_aev2_congr (l := ps) h]; exact hs
  case build t ps =>
    simp only [XStep, astep] at hs ⊢
    rw [← map_aev3_congr (l := ps) h]; exact hs
  case call f args => simp only [XStep] at hs ⊢; rw [← map_aev_congr (l := args) h]; exact hs
  case callv x args =>
    simp only [XStep] at hs ⊢
    rw [← map_aev_congr (l := args) fun y hy => h y (List.mem_cons_of_mem _ hy), ← h x (List.mem_cons_self ..)]; exact hs
  all_goals
    try simp only [XO.args, List.mem_cons, List.not_mem_nil, or_false, forall_eq_or_imp, forall_eq] at h
    simp only [XStep, astep] at hs ⊢
    try simp only [h] at hs
    try exact hs
end

/-! ### What an operation does to the heap -/
inductive DE where
  | none
  | ld (i : Nat) (o : Option AObj)
  | put (i : Nat) (o : Option AObj) (x : AObj)
  | push (n : Nat) (x : AObj)
  | pushTok (m : Nat) (t : ATok)
  | putTok (i : Nat) (o : Option ATok) (t : ATok)
def DE.agree : DE → AH → Prop
  | .none, _ => True
  | .ld i o, H => H.obj i = o
  | .put i o _, H => H.obj i = o
  | .push n _, H => H.n = n
  | .pushTok m _, H => H.m = m
  | .putTok i o _, H => H.tok i = o
def DE.ap : DE → AH → AH
  | .none, H => H
  | .ld _ _, H => H
  | .put i _ x, H => H.put i x
  | .push _ x, H => H.push x
  | .pushTok _ t, H => H.pushTok t
  | .putTok i _ t, H => H.putTok i t

inductive Touch where
  | none
  | rd (i : Nat)
  | wr (i : Nat)
  | al (i : Nat)
  | tw (i : Nat)
  | ta (i : Nat)
  deriving DecidableEq
def DE.touch : DE → Touch
  | .none => .none
  | .ld i _ => .rd i
  | .put i _ _ => .wr i
  | .push n _ => .al n
  | .pushTok m _ => .ta m
  | .putTok i _ _ => .tw i
def Touch.indep : Touch → Touch → Prop
  | .rd a, .wr b => a ≠ b
  | .wr a, .rd b => a ≠ b
  | .wr a, .wr b => a ≠ b
  | .rd a, .al b => a ≠ b
  | .al a, .rd b => a ≠ b
  | .wr a, .al b => a ≠ b
  | .al a, .wr b => a ≠ b
  | .al _, .al _ => False
  | .tw a, .tw b => a ≠ b
  | .tw a, .ta b => a ≠ b
  | .ta a, .tw b => a ≠ b
  | .ta _, .ta _ => False
  | _, _ => True
def Touch.kind : Touch → Nat
  | .none => 0
  | .rd _ => 1
  | .wr _ => 2
  | .al _ => 3
  | .tw _ | .ta _ => 4
def kclash : Nat → Nat → Bool
  | 1, 2 | 2, 1 | 2, 2 | 1, 3 | 3, 1 | 2, 3 | 3, 2 | 3, 3 | 4, 4 => true
  | _, _ => false
theorem Touch.indep_of {a b : Touch} (h : kclash a.kind b.kind = false) : a.indep b := by
  cases a <;> cases b <;> simp [Touch.kind, kclash] at h <;> simp [Touch.indep]

theorem aset_comm {α : Type} {i j : Nat} (hij : i ≠ j) (x y : α) (l : List (Nat × α)) : aset i x (aset j y l) = aset j y (aset i x l) := by
  induction l with
  | nil => rfl
  | cons p e ih =>
    obtain ⟨k, v⟩ := p
    by_cases h1 : j = k
    · subst h1
      simp [aset, hij]
    · by_cases h2 : i = k
      · subst h2
        simp [aset, h1]
      · simp [aset, h1, h2, ih]
theorem AH.put_comm {H : AH} {i j : Nat} (hij : i ≠ j) (x y : AObj) : (H.put i x).put j y = (H.put j y).put i x := by
  simp only [AH.put]; rw [aset_comm (fun h => hij h.symm)]
theorem AH.putTok_comm {H : AH} {i j : Nat} (hij : i ≠ j) (x y : ATok) : (H.putTok i x).putTok j y = (H.putTok j y).putTok i x := by
  simp only [AH.putTok]; rw [aset_comm (fun h => hij h.symm)]
theorem AH.put_push {H : AH} {i : Nat} (hi : i ≠ H.n) (x y : AObj) : (H.push y).put i x = (H.put i x).push y := by
  simp [AH.put, AH.push, aset, hi]
theorem AH.putTok_pushTok {H : AH} {i : Nat} (hi : i ≠ H.m) (x y : ATok) : (H.pushTok y).putTok i x = (H.putTok i x).pushTok y := by
  simp [AH.putTok, AH.pushTok, aset, hi]

theorem DE.swap {E F : DE} {H : AH} (hi : E.touch.indep F.touch) (h1 : E.agree H) (h2 : F.agree (E.ap H)) : F.agree H ∧ E.agree (F.ap H) ∧ F.ap (E.ap H) = E.ap (F.ap H) := by
  cases E <;> cases F <;> simp only [DE.touch, Touch.indep] at hi <;> simp only [DE.agree, DE.ap] at h1 h2 ⊢ <;> (try exact ⟨by first | exact h2 | trivial, by first | exact h1 | trivial, by trivial⟩)
  case ld.put i o j p x => exact ⟨h2, by rw [obj_put, if_neg hi]; exact h1, by trivial⟩
  case ld.push i o n x => exact ⟨h2, by rw [obj_push, if_neg (by rw [h2]; exact hi)]; exact h1, by trivial⟩
  case put.ld i o x j p => exact ⟨by rw [obj_put, if_neg (Ne.symm hi)] at h2; exact h2, h1, by trivial⟩
  case put.put i o x j p y => exact ⟨by rw [obj_put, if_neg (Ne.symm hi)] at h2; exact h2, by rw [obj_put, if_neg hi]; exact h1, AH.put_comm hi _ _⟩
  case put.push i o x n y =>
    have hn : i ≠ H.n := by rw [show H.n = n from h2]; exact hi
    exact ⟨h2, by rw [obj_push, if_neg hn]; exact h1, (AH.put_push hn _ _).symm⟩
  case push.ld n x i o => exact ⟨by rw [obj_push, if_neg (by rw [h1]; exact Ne.symm hi)] at h2; exact h2, h1, by trivial⟩
  case push.put n x i o y =>
    have hn : i ≠ H.n := by rw [h1]; exact Ne.symm hi
    exact ⟨by rw [obj_push, if_neg hn] at h2; exact h2, h1, AH.put_push hn _ _⟩
  case pushTok.putTok m t i o u =>
    have hn : i ≠ H.m := by rw [h1]; exact Ne.symm hi
    exact ⟨by rw [tok_pushTok, if_neg hn] at h2; exact h2, h1, AH.putTok_pushTok hn _ _⟩
  case putTok.pushTok i o u m t =>
    have hn : i ≠ H.m := by rw [show H.m = m from h2]; exact hi
    exact ⟨h2, by rw [tok_pushTok, if_neg hn]; exact h1, (AH.putTok_pushTok hn _ _).symm⟩
  case putTok.putTok i o x j p y => exact ⟨by rw [tok_putTok, if_neg (Ne.symm hi)] at h2; exact h2, by rw [tok_putTok, if_neg hi]; exact h1, AH.putTok_comm hi _ _⟩
end Go.Ai

set_option linter.unusedVariables false
set_option linter.unusedSimpArgs false
namespace Go.Ai
open Go Go.RowKit

def XO.kind : XO → Nat
  | .load _ _ => 1
  | .store _ _ _ => 2
  | .alloc _ | .box _ _ => 3
  | .append _ _ _ => 4
  | .range _ _ | .next _ => 5
  | _ => 0
def XOp.looks (o : XOp) : List Nat := o.xo.args.flatMap opSlot ++ (match o.guard with | some (some k, _) => [k] | _ => [])
def XOp.apart (x y : XOp) : Bool :=
  (match x.dst with | some d => !(y.looks.contains d) && y.dst != some d | none => true) && (match y.dst with | some d => !(x.looks.contains d) | none => true)
def EnvEq (e e' : Env) : Prop := ∀ k, look k e = look k e'

section
variable (P : Program) (w0 : World) (tt : TT)
def dstep (env : Env) (xo : XO) (v : AV) (E : DE) : Prop := ∀ H, E.agree H → XStep P w0 tt env H xo v (E.ap H)
def dop (o : XOp) (env : Env) (v : AV) (E : DE) : Prop :=
  (E.touch = .none ∨ E.touch.kind = o.xo.kind) ∧ match o.guard with
  | none => dstep P w0 tt env o.xo v E
  | some (some k, b) => (look k env = .bool b ∧ dstep P w0 tt env o.xo v E) ∨ ((look k env = .bool (!b) ∨ look k env = .tup []) ∧ v = .tup [] ∧ E = .none)
  | some (none, _) => False

inductive DRun (ol : Nat → XOp) : List (Nat × DE) → Env → AH → Env → AH → Prop
  | nil {e e' : Env} {H : AH} (h : EnvEq e e') : DRun ol [] e H e' H
  | cons {i : Nat} {E : DE} {r : List (Nat × DE)} {e e' : Env} {H H' : AH} {v : AV} (h1 : dop P w0 tt (ol i) e v E) (h2 : E.agree H) (h3 : DRun ol r (eput (ol i).dst v e) (E.ap H) e' H') : DRun ol ((i, E) :: r) e H e' H'
end

section
variable {P : Program} {w0 : World} {tt : TT}
theorem aev_of {e e' : Env} {xo : XO} (h : ∀ k ∈ xo.args.flatMap opSlot, look k e = look k e') : ∀ x ∈ xo.args, aev e x = aev e' x := by
  intro x hx
  cases x with
  | tmp t => exact h t (List.mem_flatMap.2 ⟨_, hx, by simp [opSlot]⟩)
  | const v => rfl
  | global g => rfl
  | func f => rfl
theorem dop.congr {o : XOp} {e e' : Env} {v : AV} {E : DE} (h : ∀ k ∈ o.looks, look k e = look k e') (hd : dop P w0 tt o e v E) : dop P w0 tt o e' v E := by
  refine ⟨hd.1, ?_⟩
  have hs : ∀ {v E}, dstep P w0 tt e o.xo v E → dstep P w0 tt e' o.xo v E := fun hs H ha => (hs H ha).congr (aev_of fun k hk => h k (List.mem_append_left _ hk))
  have hd2 := hd.2
  cases hg : o.guard with
  | none => simp only [hg] at hd2 ⊢; exact hs hd2
  | some p =>
    obtain ⟨k, b⟩ := p
    cases k with
    | none => simp only [hg] at hd2
    | some k =>
      simp only [hg] at hd2 ⊢
      rw [← h k (by simp [XOp.looks, hg])]
      exact hd2.imp (fun x => ⟨x.1, hs x.2⟩) id

theorem EnvEq.put {e e' : Env} (h : EnvEq e e') (d : Option Nat) (v : AV) : EnvEq (eput d v e) (eput d v e') := by
  cases d with
  | none => exact h
  | some d =>
    intro k
    simp only [eput, look]
    split
    · rfl
    · exact h k
theorem EnvEq.trans {e e' e'' : Env} (h : EnvEq e e') (h' : EnvEq e' e'') : EnvEq e e'' := fun k => (h k).trans (h' k)
theorem EnvEq.symm {e e' : Env} (h : EnvEq e e') : EnvEq e' e := fun k => (h k).symm
theorem EnvEq.swap (e : Env) {d d' : Option Nat} (h : ∀ x, d = some x → d' ≠ some x) (v v' : AV) : EnvEq (eput d v (eput d' v' e)) (eput d' v' (eput d v e)) := by
  cases d with
  | none => exact fun k => rfl
  | some x =>
    cases d' with
    | none => exact fun k => rfl
    | some y =>
      have hne : x ≠ y := fun e => h x rfl (by rw [e])
      intro k
      simp only [eput, look]
      by_cases h1 : k = x
      · subst h1; simp [hne]
      · simp [h1]
theorem look_eput_ne {k : Nat} {d : Option Nat} (h : d ≠ some k) (v : AV) (e : Env) : look k (eput d v e) = look k e := by
  cases d with
  | none => rfl
  | some x =>
    simp only [eput, look]
    rw [if_neg (fun e => h (by rw [e]))]

theorem DRun.congr {ol : Nat → XOp} {r : List (Nat × DE)} {e e' : Env} {H H' : AH} (h : DRun P w0 tt ol r e H e' H') : ∀ {e0 : Env}, EnvEq e e0 → DRun P w0 tt ol r e0 H e' H' := by
  induction h with
  | nil h => exact fun h0 => .nil (h0.symm.trans h)
  | cons h1 h2 h3 ih => exact fun h0 => .cons (h1.congr fun k _ => h0 k) h2 (ih (h0.put _ _))

theorem XOp.apart_spec {x y : XOp} (h : x.apart y = true) : (∀ d, x.dst = some d → d ∉ y.looks) ∧ (∀ d, x.dst = some d → y.dst ≠ some d) ∧ (∀ d, y.dst = some d → d ∉ x.looks) := by
  refine ⟨fun d hd => ?_, fun d hd => ?_, fun d hd => ?_⟩ <;> simp [XOp.apart, hd] at h
  · exact h.1.1
  · exact h.1.2
  · exact h.2

theorem DRun.swap {ol : Nat → XOp} {i j : Nat} {E F : DE} {r : List (Nat × DE)} {e e' : Env} {H H' : AH} (ha : (ol j).apart (ol i) = true) (hi : E.touch.indep F.touch)
    (h : DRun P w0 tt ol ((j, E) :: (i, F) :: r) e H e' H') : DRun P w0 tt ol ((i, F) :: (j, E) :: r) e H e' H' := by
  obtain ⟨a1, a2, a3⟩ := XOp.apart_spec ha
  cases h with
  | cons h1 h2 h3 =>
    rename_i v
    cases h3 with
    | cons k1 k2 k3 =>
      rename_i u
      obtain ⟨s1, s2, s3⟩ := DE.swap hi h2 k2
      refine .cons (k1.congr fun k hk => look_eput_ne (fun e => a1 k e hk) _ _) s1 (.cons (h1.congr fun k hk => (look_eput_ne (fun e => a3 k e hk) _ _).symm) s2 ?_)
      rw [← s3]
      exact k3.congr (EnvEq.swap e (fun x hx hy => a2 x hy hx) _ _)

theorem DRun.bubble {ol : Nat → XOp} {i : Nat} {F : DE} {r : List (Nat × DE)} : ∀ {u : List (Nat × DE)} {e e' : Env} {H H' : AH}, (∀ p ∈ u, (ol p.1).apart (ol i) = true ∧ p.2.touch.indep F.touch) →
    DRun P w0 tt ol (u ++ (i, F) :: r) e H e' H' → DRun P w0 tt ol ((i, F) :: (u ++ r)) e H e' H'
  | [], e, e', H, H', _, h => h
  | (j, E) :: u, e, e', H, H', hp, h => by
    cases h with
    | cons h1 h2 h3 =>
      have := DRun.bubble (fun p hm => hp p (List.mem_cons_of_mem _ hm)) h3
      exact DRun.swap (hp _ (List.mem_cons_self ..)).1 (hp _ (List.mem_cons_self ..)).2 (.cons h1 h2 this)

variable {N : Nat}
theorem xstep_ok (htt : TtOk P tt) {o : Oper} {env : Env} {H H' : AH} {v : AV} (hd : ∀ d, o.dst = some d → d < N) (h : XStep P w0 tt env H (XO.of o.op o.type) v H')
    {G : Gh} {a : Act} {w : World} (hS : Sim w0 G H w) (hE : EnvRep G N env a.tmps) (had : a.defers = []) {next : Act → World → Prop} {Q : Exit → Act → World → Prop}
    (hk : ∀ (G' : Gh) (a' : Act) (w' : World), G.le G' → Sim w0 G' H' w' → EnvRep G' N (eput o.dst v env) a'.tmps → a'.defers = [] → next a' w') : o.wp P a w next Q := by
  cases hxo : XO.of o.op o.type with
  | call f args =>
    rw [hxo] at h
    obtain ⟨c, h1, h2, rfl⟩ := XO.of_call hxo
    exact call_ok (caps := []) hd hS hE had h1 h2 (rfl : aev env (.func f) = _) (by rw [List.append_nil]; exact h) fun G' a' w' r H'' k1 k2 k3 k4 k5 => by
      obtain ⟨rfl, rfl⟩ := k5; exact hk G' a' w' k1 k2 k3 k4
  | callv x args =>
    rw [hxo] at h
    obtain ⟨c, h1, h2, rfl⟩ := XO.of_callv hxo
    obtain ⟨f, caps, h3, h⟩ := h
    exact call_ok hd hS hE had h1 h2 h3 h fun G' a' w' r H'' k1 k2 k3 k4 k5 => by
      obtain ⟨rfl, rfl⟩ := k5; exact hk G' a' w' k1 k2 k3 k4
  | raw op ty => rw [hxo] at h; cases h
  | _ =>
    have h' := h
    rw [hxo] at h'
    have h'' : astep tt env H (XO.of o.op o.type) v H' := by rw [hxo]; exact h'
    exact plain_ok hd hS hE had (astep_ok htt h'') hk

theorem dop_ok (htt : TtOk P tt) {ops : Array Oper} {o : Oper} {i : Nat} (ho : ops[i]? = some o) {env : Env} {H : AH} {v : AV} {E : DE} (hd : ∀ d, o.dst = some d → d < N) (h : dop P w0 tt (xop ops o) env v E) (hag : E.agree H)
    {G : Gh} {a : Act} {w : World} (hS : Sim w0 G H w) (hE : EnvRep G N env a.tmps) (had : a.defers = []) {next : Act → World → Prop} {Q : Exit → Act → World → Prop}
    (hk : ∀ (G' : Gh) (a' : Act) (w' : World), G.le G' → Sim w0 G' (E.ap H) w' → EnvRep G' N (eput o.dst v env) a'.tmps → a'.defers = [] → next a' w') : wpOp P ops Q i next a w := by
  have h2 := h.2
  unfold wpOp
  simp only [ho]
  cases hg : o.guard with
  | none =>
    simp only [xop, hg, Option.map_none] at h2
    rw [if_pos (by simp [Region.wanted, hg])]
    exact .inl (xstep_ok htt hd (h2 H hag) hS hE had hk)
  | some jb =>
    obtain ⟨j, b⟩ := jb
    simp only [xop, hg, Option.map_some] at h2
    cases hj : (ops[j]?).bind (·.dst) with
    | none => rw [hj] at h2; cases h2
    | some k =>
      rw [hj] at h2
      simp only at h2
      have hy : ∀ c, look k env = .bool c → yielded ops a.tmps j = some c := by
        intro c hc
        have hr := hE.rep k
        rw [hc] at hr
        have hv := hr.bool_inv
        unfold yielded
        rw [hj]
        simp only [Option.bind_some]
        rw [Array.getD_eq_getD_getElem?] at hv
        cases hq : a.tmps[k]? with
        | none => rw [hq] at hv; simp [undef] at hv
        | some u => rw [hq] at hv; simp at hv; subst hv; rfl
      rcases h2 with ⟨h3, h4⟩ | ⟨h3, rfl, rfl⟩
      · rw [if_pos (by simp [Region.wanted, hg, hy _ h3])]
        exact .inl (xstep_ok htt hd (h4 H hag) hS hE had hk)
      · have hw : Region.wanted o (yielded ops a.tmps) = false := by
          rcases h3 with h3 | h3
          · simp [Region.wanted, hg, hy _ h3]
          · have hr := hE.rep k
            rw [h3] at hr
            have hv := hr.undef_inv
            have hy0 : yielded ops a.tmps j = none := by
              unfold yielded
              rw [hj]
              simp only [Option.bind_some]
              rw [Array.getD_eq_getD_getElem?] at hv
              cases hq : a.tmps[k]? with
              | none => rfl
              | some u => rw [hq] at hv; simp at hv; subst hv; rfl
            simp [Region.wanted, hg, hy0]
        rw [if_neg (by rw [hw]; simp)]
        exact hk G _ w (.refl G) hS (hE.put o.dst hd .undef) (by rw [put_defers]; exact had)

theorem EnvRep.eq {G : Gh} {e e' : Env} {t : Array Value} (h : EnvRep G N e t) (he : EnvEq e e') : EnvRep G N e' t := ⟨h.size, fun k => by rw [← he k]; exact h.rep k⟩

theorem mem_afters {o : Oper} {j : Nat} : j ∈ afters o ↔ ∃ e ∈ o.after, Region.binds .any e = true ∧ e.on = j := by
  simp [afters, List.mem_map, List.mem_filter, and_assoc]

theorem draw_sound (htt : TtOk P tt) {ops : Array Oper} {Q : Exit → Act → World → Prop} (hd : ∀ o ∈ ops, ∀ d, o.dst = some d → d < N) {ol : Nat → XOp} (hol : ∀ i o, ops[i]? = some o → ol i = xop ops o)
    (hback : ∀ i o, ops[i]? = some o → ∀ j ∈ afters o, j < i) : ∀ (fuel : Nat) (listed : Array Bool) (pl : List (Nat × DE)) (env : Env) (H : AH) (env' : Env) (H' : AH) (G : Gh) (a : Act) (w : World),
    listed.size = ops.size → (∀ j, j ∈ pl.map (·.1) ↔ j < ops.size ∧ listed.getD j true = false) → (pl.map (·.1)).Pairwise (· < ·) →
    (pl.Pairwise fun p q => (∃ o, ops[q.1]? = some o ∧ p.1 ∈ afters o) ∨ ((ol p.1).apart (ol q.1) = true ∧ p.2.touch.indep q.2.touch)) → fuel = pl.length →
    DRun P w0 tt ol pl env H env' H' → Sim w0 G H w → EnvRep G N env a.tmps → a.defers = [] →
    (∀ (G' : Gh) (a' : Act) (w' : World), G.le G' → Sim w0 G' H' w' → EnvRep G' N env' a'.tmps → a'.defers = [] → Q .normal a' w') → wpAny P .any ops Q fuel listed a w := by
  intro fuel
  induction fuel with
  | zero =>
    intro listed pl env H env' H' G a w hsz hmem hlt hpw hf hrun hS hE had hk
    have : pl = [] := by cases pl <;> simp at hf ⊢
    subst this
    refine ⟨?_, ?_⟩
    · refine List.eq_nil_iff_forall_not_mem.2 fun i hi => ?_
      obtain ⟨h1, o, h2, _⟩ := mem_ready.1 hi
      have := (hmem i).2 ⟨(Array.getElem?_eq_some_iff.1 h2).1, h1⟩
      simp at this
    · cases hrun with
      | nil he => exact hk G a w (.refl G) hS (hE.eq he) had
  | succ fuel ih =>
    intro listed pl env H env' H' G a w hsz hmem hlt hpw hf hrun hS hE had hk
    refine ⟨fun hnil => ?_, fun i hi => ?_⟩
    · exfalso
      cases pl with
      | nil => simp at hf
      | cons p r =>
        have hp := (hmem p.1).1 (by simp)
        have hr : p.1 ∈ Region.ready .any ops listed := by
          refine mem_ready.2 ⟨hp.2, ops[p.1], Array.getElem?_eq_getElem hp.1, fun e he hb => ?_⟩
          have h1 := hback p.1 _ (Array.getElem?_eq_getElem hp.1) e.on (mem_afters.2 ⟨e, he, hb, rfl⟩)
          cases hl : listed.getD e.on false with
          | true => rfl
          | false =>
            have hl' : listed.getD e.on true = false := by
              have hlt' : e.on < listed.size := by omega
              simp [hlt'] at hl ⊢
              exact hl
            have := (hmem e.on).2 ⟨by omega, hl'⟩
            simp only [List.map_cons, List.mem_cons] at this
            rcases this with h2 | h2
            · omega
            · have := (List.pairwise_cons.1 (by simpa using hlt)).1 _ h2
              omega
        rw [hnil] at hr; cases hr
    · obtain ⟨hun, o, ho, hall⟩ := mem_ready.1 hi
      have hlt_i := (Array.getElem?_eq_some_iff.1 ho).1
      obtain ⟨⟨i', F⟩, hFm, hFe⟩ := List.mem_map.1 ((hmem i).2 ⟨hlt_i, hun⟩)
      simp only at hFe
      subst hFe
      obtain ⟨u, r, rfl⟩ := List.append_of_mem hFm
      have hap : ∀ p ∈ u, (ol p.1).apart (ol i') = true ∧ p.2.touch.indep F.touch := by
        intro p hp
        rcases (List.pairwise_append.1 hpw).2.2 p hp (i', F) (List.mem_cons_self ..) with ⟨o', ho', hj⟩ | h
        · exfalso
          simp only at ho'
          rw [ho] at ho'; cases ho'
          obtain ⟨e, he, hb, heq⟩ := mem_afters.1 hj
          have h1 := hall e he hb
          have h2 := ((hmem p.1).1 (by simp; exact .inl ⟨_, hp⟩)).2
          rw [heq] at h1
          have hlt' : p.1 < listed.size := by
            rcases Nat.lt_or_ge p.1 listed.size with h' | h'
            · exact h'
            · simp [Array.getElem?_eq_none h'] at h1
          simp [hlt'] at h1 h2
          rw [h1] at h2; cases h2
        · exact h
      cases DRun.bubble hap hrun with
      | cons h1 h2 h3 =>
        rename_i v
        have hoi := hol i' o ho
        rw [hoi] at h1 h3
        refine dop_ok htt ho (hd o (Array.mem_of_getElem? ho)) h1 h2 hS hE had fun G' a' w' k1 k2 k3 k4 => ?_
        have hnd := hlt
        rw [List.map_append, List.map_cons, List.pairwise_append] at hnd
        refine ih _ (u ++ r) _ _ env' H' G' a' w' (by simp [hsz]) (fun j => ?_) ?_ ?_ (by simp at hf ⊢; omega) h3 k2 k3 k4 fun G'' a'' w'' j1 j2 j3 j4 => hk G'' a'' w'' (k1.trans j1) j2 j3 j4
        · have hm := hmem j
          simp only [List.map_append, List.map_cons, List.mem_append, List.mem_cons] at hm ⊢
          by_cases hji : i' = j
          · subst hji
            have h5 : (listed.setIfInBounds i' true).getD i' true = true := by simp [show i' < listed.size by omega]
            rw [h5]
            simp only [Bool.true_eq_false, and_false, iff_false, not_or]
            refine ⟨fun h => ?_, fun h => ?_⟩
            · have := hnd.2.2 _ h i' (List.mem_cons_self ..); omega
            · have := (List.pairwise_cons.1 hnd.2.1).1 _ h; omega
          · rw [getD_set_ne true hji]
            rw [← hm]
            simp [Ne.symm hji]
        · rw [List.map_append, List.pairwise_append]
          exact ⟨hnd.1, (List.pairwise_cons.1 hnd.2.1).2, fun x hx y hy => hnd.2.2 x hx y (List.mem_cons_of_mem _ hy)⟩
        · have := List.pairwise_append.1 hpw
          exact List.pairwise_append.2 ⟨this.1, (List.pairwise_cons.1 this.2.1).2, fun x hx y hy => this.2.2 x hx y (List.mem_cons_of_mem _ hy)⟩
end
end Go.Ai

set_option linter.unusedVariables false
set_option linter.unusedSimpArgs false
namespace Go.Ai
open Go Go.RowKit

/-! ### An unordered region, reckoned once in the order of the text -/
def tlook (j : Nat) : List (Nat × Touch) → Touch
  | [] => .none
  | (i, t) :: r => if j = i then t else tlook j r
def dclear (T : List (Nat × Touch)) : List (Nat × Nat) → Prop
  | [] => True
  | (j, i) :: r => (tlook j T).indep (tlook i T) ∧ dclear T r
def dcheck (l : List XOp) (af : List (List Nat)) : Bool :=
  (List.range l.length).all fun i => (af.getD i []).all (· < i) && (List.range i).all fun j => (af.getD i []).contains j || XOp.apart (l.getD j default) (l.getD i default)
def dpairs (l : List XOp) (af : List (List Nat)) : List (Nat × Nat) :=
  (List.range l.length).flatMap fun i => ((List.range i).filter fun j => !(af.getD i []).contains j && kclash (l.getD j default).xo.kind (l.getD i default).xo.kind).map fun j => (j, i)

def touchRd (i : Nat) (a : AV) (T : List (Nat × Touch)) : List (Nat × Touch) := match a with | .ptr id _ => (i, .rd id) :: T | _ => T
def touchWr (i : Nat) (a : AV) (T : List (Nat × Touch)) : List (Nat × Touch) := match a with | .ptr id _ => (i, .wr id) :: T | _ => T
def touchAp (i : Nat) (a : AV) (m : Nat) (T : List (Nat × Touch)) : List (Nat × Touch) := match a with | .own _ t => (i, .tw t) :: T | .nilS => (i, .ta m) :: T | _ => T

section
variable (P : Program) (w0 : World) (tt : TT)
def PCalls (f : FuncId) (args : List AV) (K : AV → Prop) : Prop := ∃ r, (∀ H, ACalls P w0 f args H fun r' H' => r' = r ∧ H' = H) ∧ K r
abbrev KT := List (Nat × Touch) → Env → AH → Prop

def dexec (i : Nat) (T : List (Nat × Touch)) (xo : XO) (d : Option Nat) (env : Env) (H : AH) (K : KT) : Prop :=
  match xo with
  | .call f args => PCalls P w0 f (args.map (aev env)) fun r => K T (eput d r env) H
  | .callv x args => withFn (aev env x) fun f caps => PCalls P w0 f (args.map (aev env) ++ caps) fun r => K T (eput d r env) H
  | .raw _ _ => False
  | .range _ _ => False
  | .next _ => False
  | .load t a => astepK tt env H (.load t a) fun v H' => K (touchRd i (aev env a) T) (eput d v env) H'
  | .store t a x => astepK tt env H (.store t a x) fun v H' => K (touchWr i (aev env a) T) (eput d v env) H'
  | .alloc e => astepK tt env H (.alloc e) fun v H' => K ((i, .al H.n) :: T) (eput d v env) H'
  | .box e x => astepK tt env H (.box e x) fun v H' => K ((i, .al H.n) :: T) (eput d v env) H'
  | .append t x y => astepK tt env H (.append t x y) fun v H' => K (touchAp i (aev env x) H.m T) (eput d v env) H'
  | xo => astepK tt env H xo fun v H' => K T (eput d v env) H'

def drun : Nat → List XOp → List (Nat × Touch) → Env → AH → KT → Prop
  | _, [], T, env, H, K => K T env H
  | i, o :: l, T, env, H, K => match o.guard with
    | none => dexec P w0 tt i T o.xo o.dst env H fun T' env' H' => drun (i + 1) l T' env' H' K
    | some (some k, b) => withGuard (look k env) (fun c => aguard c b (dexec P w0 tt i T o.xo o.dst ((k, .bool b) :: env) H fun T' env' H' => drun (i + 1) l T' env' H' K) (drun (i + 1) l T (eput o.dst (.tup []) ((k, .bool (!b)) :: env)) H K)) (drun (i + 1) l T (eput o.dst (.tup []) env) H K)
    | some (none, _) => False
end

section
variable {P : Program} {w0 : World} {tt : TT}

theorem astep_pure {env : Env} {H H' : AH} {xo : XO} {v : AV} (hk : xo.kind = 0) (h : astep tt env H xo v H') : H = H' ∧ ∀ H'', astep tt env H'' xo v H'' := by
  cases xo with
  | move x => obtain ⟨rfl, rfl⟩ := h; exact ⟨rfl, fun _ => ⟨rfl, rfl⟩⟩
  | pick c a b => obtain ⟨t, h1, rfl, rfl⟩ := h; exact ⟨rfl, fun _ => ⟨t, h1, rfl, rfl⟩⟩
  | bin op t x y => obtain ⟨h, rfl⟩ := h; exact ⟨rfl, fun _ => ⟨h, rfl⟩⟩
  | un op x => obtain ⟨h, rfl⟩ := h; exact ⟨rfl, fun _ => ⟨h, rfl⟩⟩
  | conv s t x =>
    obtain ⟨i, j, k, h1, h2, h3, h⟩ := h
    refine ⟨?_, fun H'' => ⟨i, j, k, h1, h2, h3, ?_⟩⟩ <;> split at h <;> first | exact h.2 | exact ⟨h.1, rfl⟩ | cases h
  | fieldAddr s x f =>
    obtain ⟨i, o, z, g, h1, h2, h⟩ := h
    refine ⟨?_, fun H'' => ⟨i, o, z, g, h1, h2, ?_⟩⟩ <;> split at h <;> first | exact h.2 | exact ⟨h.1, rfl⟩ | cases h
  | field s x f => obtain ⟨i, o, z, g, h1, h2, cs, h3, h4, rfl, rfl⟩ := h; exact ⟨rfl, fun _ => ⟨i, o, z, g, h1, h2, cs, h3, h4, rfl, rfl⟩⟩
  | indexAddr t x ix =>
    obtain ⟨i, k, n, h1, h2, h3, h⟩ := h
    refine ⟨?_, fun H'' => ⟨i, k, n, h1, h2, h3, ?_⟩⟩
    · split at h
      · obtain ⟨j, l, y, h4, h5, h6, h7, rfl, rfl⟩ := h; rfl
      · obtain ⟨j, h4, h5, h⟩ := h
        split at h
        · exact h.2
        · cases h
      · cases h
    · split at h
      · obtain ⟨j, l, y, h4, h5, h6, h7, rfl, rfl⟩ := h; exact ⟨j, l, y, h4, h5, h6, h7, rfl, rfl⟩
      · obtain ⟨j, h4, h5, h⟩ := h
        refine ⟨j, h4, h5, ?_⟩
        split at h
        · exact ⟨h.1, rfl⟩
        · cases h
      · cases h
  | index t x ix =>
    obtain ⟨i, k, n, h1, h2, h3, h⟩ := h
    refine ⟨?_, fun H'' => ⟨i, k, n, h1, h2, h3, ?_⟩⟩
    · split at h
      · obtain ⟨s, h4, h5, rfl, rfl⟩ := h; rfl
      · obtain ⟨j, cs, h4, h5, h6, h7, h8, rfl, rfl⟩ := h; rfl
      · cases h
    · split at h
      · obtain ⟨s, h4, h5, rfl, rfl⟩ := h; exact ⟨s, h4, h5, rfl, rfl⟩
      · obtain ⟨j, cs, h4, h5, h6, h7, h8, rfl, rfl⟩ := h; exact ⟨j, cs, h4, h5, h6, h7, h8, rfl, rfl⟩
      · cases h
  | slice t x lo hi =>
    obtain ⟨i, h1, h⟩ := h
    refine ⟨?_, fun H'' => ⟨i, h1, ?_⟩⟩
    · split at h
      · obtain ⟨j, l, a, b, h2, h3, h4, h5, h6, h7, h8, h9, rfl, rfl⟩ := h; rfl
      · obtain ⟨s, a, b, h2, h3, h4, h5, h6, h7, rfl, rfl⟩ := h; rfl
      · cases h
    · split at h
      · obtain ⟨j, l, a, b, h2, h3, h4, h5, h6, h7, h8, h9, rfl, rfl⟩ := h; exact ⟨j, l, a, b, h2, h3, h4, h5, h6, h7, h8, h9, rfl, rfl⟩
      · obtain ⟨s, a, b, h2, h3, h4, h5, h6, h7, rfl, rfl⟩ := h; exact ⟨s, a, b, h2, h3, h4, h5, h6, h7, rfl, rfl⟩
      · cases h
  | extract x n => obtain ⟨vs, h1, h2, rfl⟩ := h; exact ⟨rfl, fun _ => ⟨vs, h1, h2, rfl⟩⟩
  | mkfn f caps => obtain ⟨rfl, rfl⟩ := h; exact ⟨rfl, fun _ => ⟨rfl, rfl⟩⟩
  | buildSlice t n ps =>
    obtain ⟨i, h1, h⟩ := h
    refine ⟨?_, fun H'' => ⟨i, h1, ?_⟩⟩
    · split at h
      · obtain ⟨j, h2, h3, h4, h5, h6, rfl, rfl⟩ := h; rfl
      · cases h
    · split at h
      · obtain ⟨j, h2, h3, h4, h5, h6, rfl, rfl⟩ := h; exact ⟨j, h2, h3, h4, h5, h6, rfl, rfl⟩
      · cases h
  | build t ps => obtain ⟨i, ds, h1, h2, rfl, rfl⟩ := h; exact ⟨rfl, fun _ => ⟨i, ds, h1, h2, rfl, rfl⟩⟩
  | len t x =>
    obtain ⟨i, h1, h⟩ := h
    refine ⟨?_, fun H'' => ⟨i, h1, ?_⟩⟩
    · split at h
      · obtain ⟨l, h2, rfl, rfl⟩ := h; rfl
      · obtain ⟨l, h2, rfl, rfl⟩ := h; rfl
      · cases h
    · split at h
      · obtain ⟨l, h2, rfl, rfl⟩ := h; exact ⟨l, h2, rfl, rfl⟩
      · obtain ⟨l, h2, rfl, rfl⟩ := h; exact ⟨l, h2, rfl, rfl⟩
      · cases h
  | max x y => obtain ⟨k, n, m, h1, h2, rfl, rfl⟩ := h; exact ⟨rfl, fun _ => ⟨k, n, m, h1, h2, rfl, rfl⟩⟩
  | range t x => cases hk
  | next x => cases hk
  | alloc e => cases hk
  | box e x => cases hk
  | load t a => cases hk
  | store t a x => cases hk
  | append t x y => cases hk
  | call f args => cases h
  | callv x args => cases h
  | raw op ty => cases h

theorem dexec_rel {i : Nat} {T : List (Nat × Touch)} {xo : XO} {d : Option Nat} {env : Env} {H : AH} {K : KT} (h : dexec P w0 tt i T xo d env H K) :
    ∃ v E, dstep P w0 tt env xo v E ∧ (E.touch = .none ∨ E.touch.kind = xo.kind) ∧ E.agree H ∧ K (if E.touch = .none then T else (i, E.touch) :: T) (eput d v env) (E.ap H) := by
  have pure0 : xo.kind = 0 → (∀ v H', astep tt env H xo v H' → ∀ H'', XStep P w0 tt env H'' xo v H'' ↔ astep tt env H'' xo v H'') → (astepK tt env H xo fun v H' => K T (eput d v env) H') →
      ∃ v E, dstep P w0 tt env xo v E ∧ (E.touch = .none ∨ E.touch.kind = xo.kind) ∧ E.agree H ∧ K (if E.touch = .none then T else (i, E.touch) :: T) (eput d v env) (E.ap H) := by
    intro hk hx h
    obtain ⟨v, H', h1, h2⟩ := astepK_rel h
    obtain ⟨rfl, h3⟩ := astep_pure hk h1
    exact ⟨v, .none, fun H'' _ => (hx v H h1 H'').2 (h3 H''), .inl rfl, trivial, by simpa [DE.touch, DE.ap] using h2⟩
  cases xo with
  | call f args => obtain ⟨r, h1, h2⟩ := h; exact ⟨r, .none, fun H' _ => h1 H', .inl rfl, trivial, by simpa [DE.touch, DE.ap] using h2⟩
  | callv x args =>
    obtain ⟨f, caps, h0, r, h1, h2⟩ := withFn_iff h
    exact ⟨r, .none, fun H' _ => ⟨f, caps, h0, h1 H'⟩, .inl rfl, trivial, by simpa [DE.touch, DE.ap] using h2⟩
  | raw op ty => cases h
  | range t x => cases h
  | next x => cases h
  | load t a =>
    simp only [dexec] at h
    obtain ⟨v, H', h1, h2⟩ := astepK_rel h
    obtain ⟨j, h3, h4, h1⟩ := h1
    split at h1
    · rename_i id off hx
      obtain ⟨cs, e, h5, h6, rfl, rfl⟩ := h1
      refine ⟨_, .ld id (H.obj id), fun H'' hag => ⟨j, h3, h4, ?_⟩, .inr rfl, rfl, by simpa [DE.touch, DE.ap, touchRd, hx] using h2⟩
      rw [hx]; exact ⟨cs, e, by rw [← h5]; exact hag, h6, rfl, rfl⟩
    · rename_i cs hx
      obtain ⟨h5, rfl, rfl⟩ := h1
      refine ⟨_, .none, fun H'' _ => ⟨j, h3, h4, ?_⟩, .inl rfl, trivial, by simpa [DE.touch, DE.ap, touchRd, hx] using h2⟩
      rw [hx]; exact ⟨h5, rfl, rfl⟩
    · cases h1
  | store t a x =>
    simp only [dexec] at h
    obtain ⟨v, H', h1, h2⟩ := astepK_rel h
    obtain ⟨j, h3, h1⟩ := h1
    split at h1
    · rename_i id off hx
      obtain ⟨cs, e, h4, h5, h6, h7, rfl, rfl⟩ := h1
      refine ⟨_, .put id (H.obj id) (.cells (cs.take off ++ (aev env x).cells ++ cs.drop (off + j.size)) e), fun H'' hag => ⟨j, h3, ?_⟩, .inr rfl, rfl, by simpa [DE.touch, DE.ap, touchWr, hx] using h2⟩
      rw [hx]; exact ⟨cs, e, by rw [← h4]; exact hag, h5, h6, h7, rfl, rfl⟩
    · cases h1
  | alloc e =>
    simp only [dexec] at h
    obtain ⟨v, H', h1, h2⟩ := astepK_rel h
    obtain ⟨j, h3, rfl, rfl⟩ := h1
    exact ⟨_, .push H.n _, fun H'' hag => ⟨j, h3, by rw [show H''.n = H.n from hag], rfl⟩, .inr rfl, rfl, by simpa [DE.touch, DE.ap] using h2⟩
  | box e x =>
    simp only [dexec] at h
    obtain ⟨v, H', h1, h2⟩ := astepK_rel h
    obtain ⟨h3, rfl, rfl⟩ := h1
    exact ⟨_, .push H.n _, fun H'' hag => ⟨h3, by rw [show H''.n = H.n from hag], rfl⟩, .inr rfl, rfl, by simpa [DE.touch, DE.ap] using h2⟩
  | append t x y =>
    simp only [dexec] at h
    obtain ⟨v, H', h1, h2⟩ := astepK_rel h
    obtain ⟨q, h3, h1⟩ := h1
    split at h1
    · rename_i e hu
      obtain ⟨j, ys, h4, h5, h6, h7, h1⟩ := h1
      split at h1
      · rename_i l tk hx
        obtain ⟨h8, h9, h10, rfl, rfl⟩ := h1
        refine ⟨_, .putTok tk (H.tok tk) ⟨(l ++ ys).length, e, j.size⟩, fun H'' hag => ⟨q, h3, ?_⟩, .inr rfl, rfl, by simpa [DE.touch, DE.ap, touchAp, hx] using h2⟩
        rw [hu]; refine ⟨j, ys, h4, h5, h6, h7, ?_⟩
        rw [hx]; exact ⟨by rw [← h8]; exact hag, h9, h10, rfl, rfl⟩
      · rename_i hx
        obtain ⟨h8, h9, rfl, rfl⟩ := h1
        refine ⟨_, .pushTok H.m _, fun H'' hag => ⟨q, h3, ?_⟩, .inr rfl, rfl, by simpa [DE.touch, DE.ap, touchAp, hx] using h2⟩
        rw [hu]; refine ⟨j, ys, h4, h5, h6, h7, ?_⟩
        rw [hx]; exact ⟨h8, h9, by rw [show H''.m = H.m from hag], rfl⟩
      · rename_i l hx
        obtain ⟨h8, h9, h10, rfl, rfl⟩ := h1
        refine ⟨_, .none, fun H'' _ => ⟨q, h3, ?_⟩, .inl rfl, trivial, by simpa [DE.touch, DE.ap, touchAp, hx] using h2⟩
        rw [hu]; refine ⟨j, ys, h4, h5, h6, h7, ?_⟩
        rw [hx]; exact ⟨h8, h9, h10, rfl, rfl⟩
      · cases h1
    · cases h1
  | _ => exact pure0 rfl (fun _ _ _ _ => Iff.rfl) h

theorem EnvEq.know {env : Env} {k : Nat} {v : AV} (h : look k env = v) : EnvEq ((k, v) :: env) env := by
  intro j
  simp only [look]
  split
  · rename_i e; subst e; exact h.symm
  · rfl

theorem drun_rel : ∀ (l : List XOp) (i : Nat) (T : List (Nat × Touch)) (env : Env) (H : AH) (K : KT) (ol : Nat → XOp), (∀ k o, l[k]? = some o → ol (i + k) = o) → (∀ j, i ≤ j → tlook j T = .none) → drun P w0 tt i l T env H K →
    ∃ pl env' H' T', pl.map (·.1) = List.range' i l.length ∧ DRun P w0 tt ol pl env H env' H' ∧ (∀ p ∈ pl, p.2.touch = .none ∨ p.2.touch.kind = (ol p.1).xo.kind) ∧ (∀ j < i, tlook j T' = tlook j T) ∧ (∀ p ∈ pl, tlook p.1 T' = p.2.touch) ∧ K T' env' H'
  | [], i, T, env, H, K, ol, _, _, h => ⟨[], env, H, T, rfl, .nil fun _ => rfl, by simp, fun _ _ => rfl, by simp, h⟩
  | o :: l, i, T, env, H, K, ol, hol, hT, h => by
    have ho : ol i = o := hol 0 o rfl
    have hol' : ∀ k o, l[k]? = some o → ol (i + 1 + k) = o := fun k o' hk => by rw [show i + 1 + k = i + (k + 1) by omega]; exact hol (k + 1) o' hk
    -- from one step and the rest
    have glue : ∀ (env0 : Env) (v : AV) (E : DE), EnvEq env0 env → dop P w0 tt o env0 v E → E.agree H → drun P w0 tt (i + 1) l (if E.touch = .none then T else (i, E.touch) :: T) (eput o.dst v env0) (E.ap H) K →
        ∃ pl env' H' T', pl.map (·.1) = List.range' i (o :: l).length ∧ DRun P w0 tt ol pl env H env' H' ∧ (∀ p ∈ pl, p.2.touch = .none ∨ p.2.touch.kind = (ol p.1).xo.kind) ∧ (∀ j < i, tlook j T' = tlook j T) ∧ (∀ p ∈ pl, tlook p.1 T' = p.2.touch) ∧ K T' env' H' := by
      intro env0 v E he h1 h2 h3
      have hT' : ∀ j, i + 1 ≤ j → tlook j (if E.touch = .none then T else (i, E.touch) :: T) = .none := by
        intro j hj
        split
        · exact hT j (by omega)
        · simp only [tlook]; rw [if_neg (by omega)]; exact hT j (by omega)
      obtain ⟨pl, env', H', T', g1, g2, g3, g4, g5, g6⟩ := drun_rel l (i + 1) _ _ _ K ol hol' hT' h3
      have hi : tlook i T' = E.touch := by
        rw [g4 i (by omega)]
        split
        · rename_i hn; rw [hT i (Nat.le_refl _), hn]
        · simp [tlook]
      refine ⟨(i, E) :: pl, env', H', T', ?_, .cons (v := v) ?_ h2 ?_, ?_, ?_, ?_, g6⟩
      · simp [g1, List.range'_succ]
      · rw [ho]; exact h1.congr fun k _ => he k
      · rw [ho]; exact g2.congr (he.put _ _)
      · intro p hp
        rcases List.mem_cons.1 hp with rfl | hp
        · simp only [ho]; exact h1.1
        · exact g3 p hp
      · intro j hj
        rw [g4 j (by omega)]
        split
        · rfl
        · simp only [tlook]; rw [if_neg (by omega)]
      · intro p hp
        rcases List.mem_cons.1 hp with rfl | hp
        · exact hi
        · exact g5 p hp
    unfold drun at h
    cases hg : o.guard with
    | none =>
      rw [hg] at h
      obtain ⟨v, E, h1, h2, h3, h4⟩ := dexec_rel h
      exact glue env v E (fun _ => rfl) ⟨h2, by rw [hg]; exact h1⟩ h3 h4
    | some p =>
      obtain ⟨k, b⟩ := p
      cases k with
      | none => rw [hg] at h; cases h
      | some k =>
        rw [hg] at h
        rcases withGuard_iff h with ⟨c, hc, h⟩ | ⟨hc, h⟩
        · by_cases hcb : c = b
          · subst hcb
            obtain ⟨v, E, h1, h2, h3, h4⟩ := dexec_rel (h.1 rfl)
            exact glue _ v E (EnvEq.know hc) ⟨h2, by rw [hg]; exact .inl ⟨by simp [look], h1⟩⟩ h3 h4
          · have hcn : c = !b := by cases c <;> cases b <;> simp_all
            subst hcn
            exact glue _ (.tup []) .none (EnvEq.know hc) ⟨.inl rfl, by rw [hg]; exact .inr ⟨.inl (by simp [look]), rfl, rfl⟩⟩ trivial (by simpa [DE.touch, DE.ap] using h.2 rfl)
        · exact glue env (.tup []) .none (fun _ => rfl) ⟨.inl rfl, by rw [hg]; exact .inr ⟨.inr hc, rfl, rfl⟩⟩ trivial (by simpa [DE.touch, DE.ap] using h)

theorem dclear_spec {T : List (Nat × Touch)} : ∀ {ps : List (Nat × Nat)}, dclear T ps → ∀ p ∈ ps, (tlook p.1 T).indep (tlook p.2 T)
  | [], _, p, hp => by cases hp
  | (j, i) :: r, h, p, hp => by
    rcases List.mem_cons.1 hp with rfl | hp
    · exact h.1
    · exact dclear_spec h.2 p hp

variable {N : Nat}
theorem wp_draw (htt : TtOk P tt) (hm : P.follows .mixedOrders = true) {id : Nat} {ops : Array Oper} {Q : Exit → Act → World → Prop} {env : Env} {H : AH} {K : Env → AH → Prop} (hd : dstOk N (.region id ops true) = true)
    (hck : dcheck (ops.toList.map (xop ops)) (ops.toList.map afters) = true)
    (h : drun P w0 tt 0 (ops.toList.map (xop ops)) [] env H fun T env' H' => dclear T (dpairs (ops.toList.map (xop ops)) (ops.toList.map afters)) ∧ K env' H')
    {G : Gh} {a : Act} {w : World} (hS : Sim w0 G H w) (hE : EnvRep G N env a.tmps) (had : a.defers = [])
    (hk : ∀ (G' : Gh) (a' : Act) (w' : World) (env' : Env) (H' : AH), G.le G' → Sim w0 G' H' w' → EnvRep G' N env' a'.tmps → a'.defers = [] → K env' H' → Q .normal a' w') : (Code.region id ops true).wp P Q a w := by
  have hol : ∀ i o, ops[i]? = some o → ((ops.toList.map (xop ops)).getD i default) = xop ops o := by
    intro i o ho
    rw [List.getD_eq_getElem?_getD, List.getElem?_map, Array.getElem?_toList, ho]; rfl
  have haf : ∀ i o, ops[i]? = some o → ((ops.toList.map afters).getD i []) = afters o := by
    intro i o ho
    rw [List.getD_eq_getElem?_getD, List.getElem?_map, Array.getElem?_toList, ho]; rfl
  obtain ⟨pl, env', H', T', g1, g2, g3, g4, g5, g6, g7⟩ := drun_rel (ops.toList.map (xop ops)) 0 [] env H _ (fun i => (ops.toList.map (xop ops)).getD i default) (fun k o hk => by simp [List.getD_eq_getElem?_getD, hk]) (fun _ _ => rfl) h
  simp only [dcheck, List.all_eq_true, List.mem_range, List.length_map, Array.length_toList, Bool.and_eq_true, decide_eq_true_eq, Bool.or_eq_true] at hck
  refine wp_region_any hm (draw_sound (N := N) htt (fun o ho d hdo => ?_) hol (fun i o ho j hj => ?_) ops.size _ pl env H env' H' G a _ (by simp) (fun j => ?_) ?_ ?_ ?_ g2 (Sim.drew hS) hE had fun G' a' w' k1 k2 k3 k4 => hk G' a' w' env' H' k1 k2 k3 k4 g7)
  · simp only [dstOk, List.all_eq_true] at hd
    have := hd o (Array.mem_def.1 ho)
    rw [hdo] at this
    simpa using this
  · have := (hck i (Array.getElem?_eq_some_iff.1 ho).1).1 j (by rw [haf i o ho]; exact hj)
    exact this
  · rw [g1, List.mem_range']
    simp only [List.length_map, Array.length_toList, Array.getD_eq_getD_getElem?]
    constructor
    · rintro ⟨k, hk, rfl⟩
      have : 0 + 1 * k = k := by omega
      rw [this]
      exact ⟨hk, by simp [Array.getElem?_replicate, hk]⟩
    · intro hj
      exact ⟨j, hj.1, by omega⟩
  · rw [g1]; exact List.pairwise_lt_range'
  · refine List.pairwise_iff_getElem.2 fun x y hx hy hxy => ?_
    have hlen : pl.length = ops.size := by have := congrArg List.length g1; simpa using this
    have hfst : ∀ x (hx : x < pl.length), pl[x].1 = x := by
      intro x hx
      have : (pl.map (·.1))[x]'(by simpa using hx) = (List.range' 0 (ops.toList.map (xop ops)).length)[x]'(by simp; omega) := by simp only [g1]
      simpa using this
    have hpx := g5 pl[x] (List.getElem_mem hx)
    have hpy := g5 pl[y] (List.getElem_mem hy)
    rw [hfst x hx] at hpx ⊢
    rw [hfst y hy] at hpy ⊢
    have hyo : ops[y]? = some ops[y] := Array.getElem?_eq_getElem (by omega)
    by_cases hin : x ∈ afters ops[y]
    · exact .inl ⟨_, hyo, hin⟩
    · refine .inr ⟨?_, ?_⟩
      · rcases (hck y (by omega)).2 x hxy with h1 | h1
        · rw [haf y _ hyo] at h1
          exact absurd (by simpa using h1) hin
        · exact h1
      · by_cases hc : kclash pl[x].2.touch.kind pl[y].2.touch.kind = true
        · rw [← hpx, ← hpy]
          refine dclear_spec g6 (x, y) ?_
          simp only [dpairs, List.mem_flatMap, List.mem_range, List.mem_map, List.mem_filter, List.length_map, Array.length_toList]
          have hkx := g3 pl[x] (List.getElem_mem hx)
          have hky := g3 pl[y] (List.getElem_mem hy)
          rw [hfst x hx] at hkx
          rw [hfst y hy] at hky
          refine ⟨y, by omega, x, ⟨hxy, ?_⟩, rfl⟩
          rw [haf y _ hyo]
          simp only [Bool.and_eq_true, Bool.not_eq_true', List.contains_eq_mem, decide_eq_false_iff_not]
          refine ⟨hin, ?_⟩
          rcases hkx with h1 | h1
          · rw [h1] at hc; simp [Touch.kind, kclash] at hc
          · rcases hky with h2 | h2
            · rw [h2] at hc
              revert hc; generalize Touch.kind _ = q; intro hc
              simp only [Touch.kind] at hc
              unfold kclash at hc; split at hc <;> simp_all
            · rw [← h1, ← h2]; exact hc
        · exact Touch.indep_of (by simpa using hc)
  · have := congrArg List.length g1; simp at this; omega
end
end Go.Ai
