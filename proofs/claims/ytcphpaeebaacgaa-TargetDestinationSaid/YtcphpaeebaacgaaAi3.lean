/- A part of the proof: no statement of the seat is proved in this text. -/
import Derived.Test.YtcphpaeebaacgaaAi2
set_option linter.unusedVariables false
set_option linter.unusedSimpArgs false
namespace Go.Ai
open Go Go.RowKit

/-! ### Types -/
inductive KC where
  | int (k : IntKind)
  | bool
  | str
  | no
  deriving DecidableEq, Inhabited
def AV.kc : AV → KC
  | .int k _ => .int k
  | .bool _ => .bool
  | .str _ => .str
  | _ => .no
structure TyI where
  u : TypeDesc
  size : Nat
  bytes : Nat
  agg : Bool
  zero : List AV
  fields : List (Nat × Nat × Bool)
  eqs : List KC

abbrev TT := Nat → Option TyI

/-- Equality cell by cell, of plain cells. -/
def aeq1 : AV → AV → Option Bool
  | .int k a, .int k' b => if k = k' then some (decide (a = b)) else none
  | .bool a, .bool b => some (a == b)
  | .str a, .str b => some (decide (a = b))
  | _, _ => none
def aeqs : List AV → List AV → Option Bool
  | [], [] => some true
  | x :: xs, y :: ys => match aeq1 x y, aeqs xs ys with
    | some a, some b => some (a && b)
    | _, _ => none
  | _, _ => none

/-- A value of a type, of its cells. -/
def mkV (agg : Bool) (cs : List Value) : Value := if agg then .agg cs.toArray else cs.headD undef
def mkA (agg : Bool) (cs : List AV) : AV := if agg then .agg cs else cs.headD .any

structure TyOk (P : Program) (t : Nat) (i : TyI) : Prop where
  u : P.underlying t = some i.u
  agg : (match i.u with | .struct _ | .array _ _ => true | _ => false) = i.agg
  info : ∃ f z, P.info? t = some f ∧ f.size = i.size ∧ f.bytes = i.bytes ∧ f.zero = some z ∧ z.cells.size = i.size ∧ (∀ G, RepL G i.zero z.cells.toList) ∧ ∀ c ∈ i.zero, c.scal = true
  fields : ∀ (k o s : Nat) (g : Bool), i.fields[k]? = some (o, s, g) → s ≠ 0 ∧ ∃ fs f x d, i.u = .struct fs ∧ fs[k]? = some f ∧ f.offset = o ∧ P.info? f.type = some x ∧ x.size = s ∧
    P.underlying f.type = some d ∧ (match d with | .struct _ | .array _ _ => true | _ => false) = g
  places : ∀ fs, i.u = .struct fs → fs.toList.mapM (fun f => (P.info? f.type).map fun i => (f.offset, i.size)) = some (i.fields.map fun x => (x.1, x.2.1))
  eqs : i.eqs ≠ [] → P.eqGuardType P.depth t = false ∧ ∀ (G : Gh) (cs ds : List AV) (vs us : List Value) (b : Bool) (w : World), aeqs cs ds = some b → cs.map AV.kc = i.eqs → RepL G cs vs → RepL G ds us →
    (Op.equal t (mkV i.agg vs) (mkV i.agg us)).run P w = .ok b w

def TtOk (P : Program) (tt : TT) : Prop := ∀ t i, tt t = some i → TyOk P t i

/-! ### Frames -/
abbrev Env := List (Nat × AV)
def look (k : Nat) : Env → AV
  | [] => .any
  | (j, v) :: e => if k = j then v else look k e
def eput (dst : Option Nat) (v : AV) (e : Env) : Env := match dst with | some d => (d, v) :: e | none => e

structure EnvRep (G : Gh) (N : Nat) (env : Env) (tmps : Array Value) : Prop where
  size : tmps.size = N
  rep : ∀ k, Rep G (look k env) (tmps.getD k undef)

theorem EnvRep.mono {G G' : Gh} (hle : G.le G') {N : Nat} {env : Env} {tmps : Array Value} (h : EnvRep G N env tmps) : EnvRep G' N env tmps := ⟨h.size, fun k => (h.rep k).mono hle⟩

theorem EnvRep.put {G : Gh} {N : Nat} {env : Env} {a : Act} (h : EnvRep G N env a.tmps) (dst : Option Nat) (hd : ∀ d, dst = some d → d < N) {v : AV} {x : Value} (hr : Rep G v x) :
    EnvRep G N (eput dst v env) (a.put dst x).tmps := by
  cases dst with
  | none => exact h
  | some d =>
    have hlt : d < a.tmps.size := by rw [h.size]; exact hd d rfl
    refine ⟨by simp [Act.put, h.size], fun k => ?_⟩
    simp only [eput, look, Act.put]
    by_cases e : k = d
    · subst e
      simp only [if_true]
      rw [Array.getD_eq_getD_getElem?, Array.getElem?_setIfInBounds_self_of_lt hlt]
      exact hr
    · rw [if_neg e, Array.getD_eq_getD_getElem?, Array.getElem?_setIfInBounds_ne (fun h => e h.symm), ← Array.getD_eq_getD_getElem?]
      exact h.rep k

def aconst0 : Value → AV
  | .int k n => if k.wrap n = n then .int k n else .any
  | .bool b => .bool b
  | .string s => if s.size ≤ 281474976710656 then .str s else .any
  | .slice none 0 0 => .nilS
  | .pointer none => .nilP
  | .nilFunc => .nilF
  | .map none => .nilM
  | v => .raw v
def aconst (v : Value) : AV := match v with
  | .agg vs => .agg (vs.toList.map aconst0)
  | v => aconst0 v
def aev (env : Env) : Operand → AV
  | .tmp t => look t env
  | .const v => aconst v
  | .global g => .raw (.pointer (some ⟨g, 0, none⟩))
  | .func f => .fn f []

theorem Rep.const0 (G : Gh) (v : Value) : Rep G (aconst0 v) v := by
  unfold aconst0
  split
  · split
    · rename_i h; exact .int _ _ h
    · exact .any _
  · exact .bool _
  · split
    · rename_i h; exact .str _ h
    · exact .any _
  · exact .nilS
  · exact .nilP
  · exact .nilF
  · exact .nilM
  · exact .raw _
theorem Rep.const (G : Gh) (v : Value) : Rep G (aconst v) v := by
  unfold aconst
  split
  · rename_i vs
    refine .agg _ vs.toList (by simp) fun j c v h1 h2 => ?_
    rw [List.getElem?_map, h2] at h1
    simp at h1
    subst h1
    exact .const0 G v
  · exact .const0 G _

theorem EnvRep.eval {G : Gh} {N : Nat} {env : Env} {a : Act} (h : EnvRep G N env a.tmps) (x : Operand) : Rep G (aev env x) (a.eval x) := by
  cases x with
  | tmp t => exact h.rep t
  | const v => exact .const G v
  | global g => exact .raw _
  | func f => exact .fn f [] [] rfl (fun j c v h => by simp at h)

end Go.Ai
