/- A part of the proof: no statement of the seat is proved in this text. -/
import Derived.Test.YtdmhbplibcolbaaGreatAi2
import Derived.WalkKit
set_option linter.unusedVariables false
set_option linter.unusedSimpArgs false
namespace Go.Ai
open Go Go.RowKit
inductive KC where
  | int (k : IntKind)
  | bool
  | str
  | no
  deriving DecidableEq, Inhabited
def AV.kc : AV → KC
  | .int k _ => .int k
  | .bool _ => .bool
  | .str _ => .str
  | _ => .no
structure TyI where
  u : TypeDesc
  size : Nat
  bytes : Nat
  agg : Bool
  zero : List AV
  fields : List (Nat × Nat × Bool)
  eqs : List KC
abbrev TT := Nat → Option TyI
def aeq1 : AV → AV → Option Bool
  | .int k a, .int k' b => if k = k' then some (decide (a = b)) else none
  | .bool a, .bool b => some (a == b)
  | .str a, .str b => some (decide (a = b))
  | _, _ => none
def aeqs : List AV → List AV → Option Bool
  | [], [] => some true
  | x :: xs, y :: ys => match aeq1 x y, aeqs xs ys with
    | some a, some b => some (a && b)
    | _, _ => none
  | _, _ => none
def mkV (agg : Bool) (cs : List Value) : Value := if agg then .agg cs.toArray else cs.headD undef
def mkA (agg : Bool) (cs : List AV) : AV := if agg then .agg cs else cs.headD .any
structure TyOk (P : Program) (t : Nat) (i : TyI) : Prop where
  u : P.underlying t = some i.u
  agg : (match i.u with | .struct _ | .array _ _ => true | _ => false) = i.agg
  info : ∃ f z, P.info? t = some f ∧ f.size = i.size ∧ f.bytes = i.bytes ∧ f.zero = some z ∧ z.cells.size = i.size ∧ (∀ G, RepL G i.zero z.cells.toList) ∧ ∀ c ∈ i.zero, c.scal = true
  fields : ∀ (k o s : Nat) (g : Bool), i.fields[k]? = some (o, s, g) → s ≠ 0 ∧ ∃ fs f x d, i.u = .struct fs ∧ fs[k]? = some f ∧ f.offset = o ∧ P.info? f.type = some x ∧ x.size = s ∧
    P.underlying f.type = some d ∧ (match d with | .struct _ | .array _ _ => true | _ => false) = g
  places : ∀ fs, i.u = .struct fs → fs.toList.mapM (fun f => (P.info? f.type).map fun i => (f.offset, i.size)) = some (i.fields.map fun x => (x.1, x.2.1))
  eqs : i.eqs ≠ [] → P.eqGuardType P.depth t = false ∧ ∀ (G : Gh) (cs ds : List AV) (vs us : List Value) (b : Bool) (w : World), aeqs cs ds = some b → cs.map AV.kc = i.eqs → RepL G cs vs → RepL G ds us →
    (Op.equal t (mkV i.agg vs) (mkV i.agg us)).run P w = .ok b w
def TtOk (P : Program) (tt : TT) : Prop := ∀ t i, tt t = some i → TyOk P t i
abbrev Env := List (Nat × AV)
def look (k : Nat) : Env → AV
  | [] => .any
  | (j, v) :: e => if k = j then v else look k e
def eput (dst : Option Nat) (v : AV) (e : Env) : Env := match dst with | some d => (d, v) :: e | none => e
structure EnvRep (G : Gh) (N : Nat) (env : Env) (tmps : Array Value) : Prop where
  size : tmps.size = N
  rep : ∀ k, Rep G (look k env) (tmps.getD k undef)
theorem EnvRep.mono {G G' : Gh} (hle : G.le G') {N : Nat} {env : Env} {tmps : Array Value} (h : EnvRep G N env tmps) : EnvRep G' N env tmps := ⟨h.size, fun k => (h.rep k).mono hle⟩
theorem EnvRep.put {G : Gh} {N : Nat} {env : Env} {a : Act} (h : EnvRep G N env a.tmps) (dst : Option Nat) (hd : ∀ d, dst = some d → d < N) {v : AV} {x : Value} (hr : Rep G v x) :
    EnvRep G N (eput dst v env) (a.put dst x).tmps := by
  cases dst with
  | none => exact h
  | some d =>
    have hlt : d < a.tmps.size := by rw [h.size]; exact hd d rfl
    refine ⟨by simp [Act.put, h.size], fun k => ?_⟩
    simp only [eput, look, Act.put]
    by_cases e : k = d
    · subst e
      simp only [if_true]
      rw [Array.getD_eq_getD_getElem?, Array.getElem?_setIfInBounds_self_of_lt hlt]
      exact hr
    · rw [if_neg e, Array.getD_eq_getD_getElem?, Array.getElem?_setIfInBounds_ne (fun h => e h.symm), ← Array.getD_eq_getD_getElem?]
      exact h.rep k
def aconst0 : Value → AV
  | .int k n => if k.wrap n = n then .int k n else .any
  | .bool b => .bool b
  | .string s => if s.size ≤ 281474976710656 then .str s else .any
  | .slice none 0 0 => .nilS
  | .pointer none => .nilP
  | .nilFunc => .nilF
  | .map none => .nilM
  | v => .raw v
def aconst (v : Value) : AV := match v with
  | .agg vs => .agg (vs.toList.map aconst0)
  | v => aconst0 v
def aev (env : Env) : Operand → AV
  | .tmp t => look t env
  | .const v => aconst v
  | .global g => .raw (.pointer (some ⟨g, 0, none⟩))
  | .func f => .fn f []
theorem Rep.const0 (G : Gh) (v : Value) : Rep G (aconst0 v) v := by
  unfold aconst0
  split
  · split
    · rename_i h; exact .int _ _ h
    · exact .any _
  · exact .bool _
  · split
    · rename_i h; exact .str _ h
    · exact .any _
  · exact .nilS
  · exact .nilP
  · exact .nilF
  · exact .nilM
  · exact .raw _
theorem Rep.const (G : Gh) (v : Value) : Rep G (aconst v) v := by
  unfold aconst
  split
  · rename_i vs
    refine .agg _ vs.toList (by simp) fun j c v h1 h2 => ?_
    rw [List.getElem?_map, h2] at h1
    simp at h1
    subst h1
    exact .const0 G v
  · exact .const0 G _
theorem EnvRep.eval {G : Gh} {N : Nat} {env : Env} {a : Act} (h : EnvRep G N env a.tmps) (x : Operand) : Rep G (aev env x) (a.eval x) := by
  cases x with
  | tmp t => exact h.rep t
  | const v => exact .const G v
  | global g => exact .raw _
  | func f => exact .fn f [] [] rfl (fun j c v h => by simp at h)
end Go.Ai

set_option linter.unusedVariables false
set_option linter.unusedSimpArgs false
namespace Go.Ai
open Go Go.RowKit
def Next.val : Next → Option Value
  | .value x => some x
  | .skip => some undef
  | _ => none
def OpOk (P : Program) (w0 : World) (env : Env) (H : AH) (op : Op) (ty : TypeId) (v : AV) (H' : AH) : Prop :=
  ∀ (G : Gh) (N : Nat) (a : Act) (w : World) (o : Oper), Sim w0 G H w → EnvRep G N env a.tmps → o.op = op → o.type = ty →
    ∃ nx x w' G', (execOp a.eval o).run P w = .ok nx w' ∧ Next.val nx = some x ∧ G.le G' ∧ Sim w0 G' H' w' ∧ Rep G' v x
theorem add_off (b off n : Nat) : (⟨b, off, none⟩ : Addr).add n = ⟨b, off + n, none⟩ := by unfold Addr.add; split <;> simp_all
def AV.elems : AV → Option (List AV)
  | .slice l => some l
  | .own l _ => some l
  | .lit l => some l
  | .nilS => some []
  | .raw (.slice (some _) 0 _) => some []
  | _ => none
theorem Rep.elems {G : Gh} {a : AV} {v : Value} {l : List AV} (h : Rep G a v) (he : a.elems = some l) : Rep G (.slice l) v := by
  unfold AV.elems at he
  split at he <;> (try cases he)
  · exact h
  · exact h.forget
  · exact h.forget
  · exact h.forget
  · cases h
    exact .sliceE _ _
section
variable {P : Program} {w0 : World} {tt : TT} {env : Env} {H : AH} {ty : TypeId}
theorem OpOk.pure {op : Op} {v : AV} (h : ∀ (G : Gh) (N : Nat) (a : Act) (w : World) (o : Oper), Sim w0 G H w → EnvRep G N env a.tmps → o.op = op → o.type = ty → ∃ x, (execOp a.eval o).run P w = .ok (.value x) w ∧ Rep G v x) :
    OpOk P w0 env H op ty v H := fun G N a w o hS hE ho ht =>
  let ⟨x, h1, h2⟩ := h G N a w o hS hE ho ht
  ⟨.value x, x, w, G, h1, rfl, .refl G, hS, h2⟩
theorem ok_move (x : Operand) : OpOk P w0 env H (.move x) ty (aev env x) H := .pure fun G N a w o hS hE ho ht => ⟨a.eval x, by simp [execOp, ho], hE.eval x⟩
theorem ok_assign (x : Operand) : OpOk P w0 env H (.assign x) ty (aev env x) H := .pure fun G N a w o hS hE ho ht => ⟨a.eval x, by simp [execOp, ho], hE.eval x⟩
def apick (t : Bool) (x y : AV) : AV :=
  match x, y with
  | .bool p, .bool q => .bool (bif t then p else q)
  | x, y => bif t then x else y
theorem apick_rep {G : Gh} {t : Bool} {x y : AV} {u v : Value} (hx : Rep G x u) (hy : Rep G y v) : Rep G (apick t x y) (bif t then u else v) := by
  unfold apick
  split
  · cases hx; cases hy; cases t <;> exact .bool _
  · cases t
    · exact hy
    · exact hx
theorem ok_pick (c x y : Operand) (t : Bool) (hc : aev env c = .bool t) : OpOk P w0 env H (.pick c x y) ty (apick t (aev env x) (aev env y)) H := .pure fun G N a w o hS hE ho ht => by
  have h := hE.eval c
  rw [hc] at h
  refine ⟨bif t then a.eval x else a.eval y, ?_, apick_rep (hE.eval x) (hE.eval y)⟩
  cases t <;> cases hx : a.eval c <;> rw [hx] at h <;> cases h
  · simp [execOp, ho, hx, asBool]
  · simp [execOp, ho, hx, asBool]
theorem ok_alloc (htt : TtOk P tt) (e : TypeId) (i : TyI) (hi : tt e = some i) : OpOk P w0 env H (.alloc e) ty (.ptr H.n 0) (H.push (.cells i.zero e)) := by
  intro G N a w o hS hE ho ht
  obtain ⟨f, z, h1, h2, h3, h4, h5, h6, h7⟩ := (htt e i hi).info
  obtain ⟨hS', hle⟩ := hS.allocObj (cs := i.zero) (vs := z.cells.toList) e (h6 G) h7
  refine ⟨.value (.pointer (some ⟨w.heap.size, 0, none⟩)), .pointer (some ⟨w.heap.size, 0, none⟩), _, _, ?_, rfl, hle, hS', .ptr _ _ _ (by simp [Gh.addOb])⟩
  simp [execOp, ho, Instr.alloc, zeroValue, typeInfo, h1, h4, newVar, newRow]
theorem cells_ok {x : AV} (hs : x.cells.all AV.scal = true) : x.scal = true ∨ ∃ cs, x = .agg cs := by
  cases x <;> simp [AV.cells, AV.scal] at hs ⊢
theorem ok_box (e : TypeId) (x : Operand) (hs : (aev env x).cells.all AV.scal = true) : OpOk P w0 env H (.box e x) ty (.ptr H.n 0) (H.push (.cells (aev env x).cells e)) := by
  intro G N a w o hS hE ho ht
  have hc := (hE.eval x).cells (cells_ok hs)
  obtain ⟨hS', hle⟩ := hS.allocObj e hc (by simpa using hs)
  refine ⟨.value (.pointer (some ⟨w.heap.size, 0, none⟩)), .pointer (some ⟨w.heap.size, 0, none⟩), _, _, ?_, rfl, hle, hS', .ptr _ _ _ (by simp [Gh.addOb])⟩
  simp [execOp, ho, Instr.box, newVar, newRow]
theorem isAgg_run {t : TypeId} {i : TyI} (h : TyOk P t i) (w : World) : (isAgg t).run P w = .ok i.agg w := by
  have := h.agg
  simp only [isAgg, Sem.run_bind, run_underlying h.u, Result.andThen_ok]
  revert this
  cases i.u <;> intro h <;> simp at h <;> simp [h]
theorem run_loadAt_cells {t : TypeId} {i : TyI} (h : TyOk P t i) {w : World} {b off : Nat} {vs : List Value} (hl : vs.length = i.size) (h0 : 0 < i.size)
    (hc : ∀ (j : Nat) (u : Value), vs[j]? = some u → w.cell? ((⟨b, off, none⟩ : Addr).add j) = some u) : (Instr.loadAt t (.pointer (some ⟨b, off, none⟩))).run P w = .ok (mkV i.agg vs) w := by
  obtain ⟨f, z, h1, h2, _⟩ := h.info
  have hz : (sizeOf t).run P w = .ok vs.length w := by simp [sizeOf, typeInfo, h1, h2, hl]
  simp only [Instr.loadAt, Instr.sureAddr, loadVar, Sem.run_bind, Sem.run_pure, Result.andThen_ok, isAgg_run h]
  cases hb : i.agg
  · match vs, hl with
    | v :: vs', _ =>
      have := hc 0 v rfl
      have e0 : (⟨b, off, none⟩ : Addr).add 0 = ⟨b, off, none⟩ := rfl
      rw [e0] at this
      simp [mkV, run_load, this]
    | [], hl => simp at hl; omega
  · simp only [if_true, Sem.run_bind, hz, Result.andThen_ok, run_loadCells_list (P := P) w _ vs hc, mkV, Sem.run_pure]
theorem mk_rep {G : Gh} {cs : List AV} {vs : List Value} (h : RepL G cs vs) (b : Bool) : Rep G (mkA b cs) (mkV b vs) := by
  cases b
  · cases cs with
    | nil => exact .any _
    | cons c cs => obtain ⟨v, vs', rfl, h1, h2⟩ := h.form; exact h1
  · exact .agg cs vs h.1 h.2
theorem ptr_inv {G : Gh} {id off : Nat} {v : Value} (h : Rep G (.ptr id off) v) : ∃ b, v = .pointer (some ⟨b, off, none⟩) ∧ G.ob id = some b := by
  cases h with | ptr _ _ b h => exact ⟨b, rfl, h⟩
theorem Sim.cellsAt {G : Gh} {w : World} (hS : Sim w0 G H w) {id b : Nat} {cs : List AV} {e : TypeId} (ho : H.obj id = some (.cells cs e)) (hb : G.ob id = some b) :
    ∃ vs : List Value, w.heap[b]? = some (.cells vs.toArray e (0, 0)) ∧ RepL G cs vs ∧ ∀ c ∈ cs, c.scal = true := by
  obtain ⟨b', h1, h2, ⟨vs, h3, h4, h5⟩, h6⟩ := hS.obs id _ ho
  rw [hb] at h1; simp at h1; subst h1
  exact ⟨vs, h3, h4, h5⟩
theorem ok_load_ptr (htt : TtOk P tt) (t : TypeId) (x : Operand) (i : TyI) (hi : tt t = some i) (id off : Nat) (hx : aev env x = .ptr id off) (cs : List AV) (e : TypeId)
    (ho : H.obj id = some (.cells cs e)) (hl : off + i.size ≤ cs.length) (h0 : 0 < i.size) : OpOk P w0 env H (.load t x) ty (mkA i.agg ((cs.drop off).take i.size)) H := .pure fun G N a w o hS hE hoo ht => by
  have hp := hE.eval x
  rw [hx] at hp
  obtain ⟨b, hv, hb⟩ := ptr_inv hp
  obtain ⟨vs, h3, h4, h5⟩ := hS.cellsAt ho hb
  have hr := (h4.drop off).take i.size
  refine ⟨mkV i.agg ((vs.drop off).take i.size), ?_, mk_rep hr _⟩
  simp only [execOp, hoo, hv]
  rw [Sem.run_bind, run_loadAt_cells (htt t i hi) (vs := (vs.drop off).take i.size) (by have := h4.1; simp; omega) h0 (fun j u hu => ?_)]
  · rfl
  · rw [add_off]
    simp only [World.cell?, h3]
    rw [List.getElem?_take] at hu
    split at hu
    · simpa using hu
    · cases hu
theorem ok_load_rptr (htt : TtOk P tt) (t : TypeId) (x : Operand) (i : TyI) (hi : tt t = some i) (cs : List AV) (hx : aev env x = .rptr cs)
    (hl : i.size ≤ cs.length) (h0 : 0 < i.size) : OpOk P w0 env H (.load t x) ty (mkA i.agg (cs.take i.size)) H := .pure fun G N a w o hS hE hoo ht => by
  have hp := hE.eval x
  rw [hx] at hp
  obtain ⟨b, off, hv, hb⟩ := hp.rptr_inv
  obtain ⟨vs, h3, h4, h5⟩ := (hb.takeL i.size).cells hS
  refine ⟨mkV i.agg vs, ?_, mk_rep h3 _⟩
  simp only [execOp, hoo, hv]
  rw [Sem.run_bind, run_loadAt_cells (htt t i hi) (vs := vs) (by rw [← h3.1]; simp; omega) h0 h4]
  rfl
theorem ok_store (htt : TtOk P tt) (t : TypeId) (x y : Operand) (i : TyI) (hi : tt t = some i) (id off : Nat) (hx : aev env x = .ptr id off) (cs : List AV) (e : TypeId)
    (ho : H.obj id = some (.cells cs e)) (hl : off + i.size ≤ cs.length) (hy : (aev env y).cells.length = i.size) (hs : (aev env y).cells.all AV.scal = true) :
    OpOk P w0 env H (.store t x y) ty .any (H.put id (.cells (cs.take off ++ (aev env y).cells ++ cs.drop (off + i.size)) e)) := by
  intro G N a w o hS hE hoo ht
  have hp := hE.eval x
  rw [hx] at hp
  obtain ⟨b, hv, hb⟩ := ptr_inv hp
  obtain ⟨vs, h3, h4, h5⟩ := hS.cellsAt ho hb
  have hr := (hE.eval y).cells (cells_ok hs)
  obtain ⟨f, z, g1, g2, _⟩ := (htt t i hi).info
  have hyl : (a.eval y).cells.toList.length = i.size := by rw [← hr.1, hy]
  have h1 : ∀ v ∈ (a.eval y).cells.toList, v.oneCell' = true := by
    intro v hv
    obtain ⟨j, hj, rfl⟩ := List.getElem_of_mem hv
    have hj2 : j < (aev env y).cells.length := by omega
    exact (hr.2 j _ _ (List.getElem?_eq_getElem hj2) (List.getElem?_eq_getElem hj)).one (by simp at hs; exact hs _ (List.getElem_mem hj2))
  have hst := run_storeCells_at (P := P) b off e (a.eval y).cells.toList 0 vs.toArray w h3 (by have := h4.1; simp at hyl ⊢; omega) h1
  have hz : (a.eval y).cells.size = f.size := by simp at hyl; omega
  refine ⟨.skip, undef, w.setRow b _, G, ?_, rfl, .refl G, hS.setObj ho hb (w' := w.setRow b _) ⟨rfl, rfl, rfl, by simp, fun k hk hne => setRow_other w b k _ (fun e => hne (by simp [e]))⟩
    ⟨vs.take off ++ (a.eval y).cells.toList ++ vs.drop (off + i.size), setRow_heap w b vs.toArray _ e _ h3, ((h4.take off).append hr).append (h4.drop _), ?_⟩, .any _⟩
  · simp only [execOp, hoo, hv, Instr.storeAt, Instr.sureAddr, storeVar, Sem.run_bind, Sem.run_pure, Result.andThen_ok, sizeOf, typeInfo]
    simp [g1, hz]
    rw [hst]
    simp [hyl, ← hz] at hyl ⊢
  · intro c hc
    simp only [List.mem_append] at hc
    rcases hc with (hc | hc) | hc
    · exact h5 c (List.mem_of_mem_take hc)
    · simp at hs; exact hs c hc
    · exact h5 c (List.mem_of_mem_drop hc)
end
end Go.Ai
