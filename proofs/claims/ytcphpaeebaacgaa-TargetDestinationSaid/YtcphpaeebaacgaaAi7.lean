/- A part of the proof: no statement of the seat is proved in this text. -/
import Derived.Test.YtcphpaeebaacgaaAi6
set_option linter.unusedVariables false
set_option linter.unusedSimpArgs false
namespace Go.Ai
open Go Go.RowKit

/-! ### Literals -/
def afill (place : Nat → Option (Nat × Nat)) (cs : List AV) : List (Nat × AV) → Option (List AV)
  | [] => some cs
  | (i, x) :: rest => match place i with
    | none => none
    | some (o, s) => if x.cells.length = s ∧ o + s ≤ cs.length ∧ x.cells.all AV.scal = true then afill place (cs.take o ++ x.cells ++ cs.drop (o + s)) rest else none

theorem foldl_set (o : Nat) : ∀ (vs : List Value) (k : Nat) (zs : Array Value), o + k + vs.length ≤ zs.size →
    ((vs.zipIdx k).foldl (fun cs (c, j) => cs.setIfInBounds (o + j) c) zs).toList = zs.toList.take (o + k) ++ vs ++ zs.toList.drop (o + k + vs.length)
  | [], k, zs, h => by simp
  | v :: vs, k, zs, h => by
    simp at h
    rw [List.zipIdx_cons, List.foldl_cons, foldl_set o vs (k + 1) _ (by simp; omega)]
    have hk : o + k < zs.toList.length := by simp; omega
    simp only [Array.toList_setIfInBounds]
    rw [List.take_set, List.drop_set, if_pos (by omega)]
    rw [show o + (k + 1) = o + k + 1 by omega, List.take_succ_eq_append_getElem hk]
    rw [List.set_append, if_neg (by simp; omega)]
    simp
    rw [Nat.min_eq_left (by simp at hk; omega)]
    simp
    congr 1
    omega

theorem fill_rep {G : Gh} {place : Nat → Option (Nat × Nat)} : ∀ (xs : List (Nat × AV)) (ps : List (Nat × Value)) (cs ds : List AV) (zs : Array Value), afill place cs xs = some ds → RepL G cs zs.toList →
    ps.length = xs.length → (∀ (j : Nat) (x : Nat × AV) (p : Nat × Value), xs[j]? = some x → ps[j]? = some p → p.1 = x.1 ∧ Rep G x.2 p.2) →
    ∃ us, Instr.fill place zs ps = some us ∧ RepL G ds us.toList
  | [], ps, cs, ds, zs, h, hr, hl, hp => by
    simp [afill] at h; subst h
    have : ps = [] := List.eq_nil_of_length_eq_zero hl
    subst this
    exact ⟨zs, rfl, hr⟩
  | (i, x) :: xs, [], cs, ds, zs, h, hr, hl, hp => by simp at hl
  | (i, x) :: xs, (i', v) :: ps, cs, ds, zs, h, hr, hl, hp => by
    obtain ⟨e, hx⟩ := hp 0 (i, x) (i', v) rfl rfl
    simp only at e hx
    subst e
    simp only [afill] at h
    cases hpl : place i' with
    | none => rw [hpl] at h; cases h
    | some os =>
      obtain ⟨o, s⟩ := os
      rw [hpl] at h
      simp only at h
      split at h
      · rename_i hc
        obtain ⟨h1, h2, h3⟩ := hc
        have hxr := hx.cells (cells_ok h3)
        have hvs : v.cells.size = s := by rw [← Array.length_toList, ← hxr.1, h1]
        have hzl : zs.size = cs.length := by rw [← Array.length_toList, ← hr.1]
        simp only [Instr.fill, hpl]
        rw [if_neg (by simp [hvs, hzl]; omega)]
        refine fill_rep xs ps _ ds _ h ?_ (by simpa using hl) (fun j y p h4 h5 => hp (j + 1) y p h4 h5)
        have hfold : (v.cells.zipIdx.foldl (fun cs x => match x with | (c, j) => cs.setIfInBounds (o + j) c) zs).toList = zs.toList.take o ++ v.cells.toList ++ zs.toList.drop (o + s) := by
          have := foldl_set o v.cells.toList 0 zs (by simp [hvs, hzl]; omega)
          rw [← Array.foldl_toList]
          simp only [Nat.add_zero] at this
          have hz : v.cells.zipIdx.toList = v.cells.toList.zipIdx 0 := by simp
          rw [hz, this]
          simp [hvs]
        rw [hfold]
        exact ((hr.take o).append hxr).append (hr.drop (o + s))
      · cases h

section
variable {P : Program} {w0 : World} {tt : TT} {env : Env} {H : AH} {ty : TypeId}

theorem ok_build_struct (htt : TtOk P tt) (t : TypeId) (i : TyI) (hi : tt t = some i) (fs : Array Field) (hu : i.u = .struct fs) (parts : Array (Nat × Operand)) (ds : List AV)
    (h : afill (fun k => (i.fields[k]?).map fun x => (x.1, x.2.1)) i.zero (parts.toList.map fun p => (p.1, aev env p.2)) = some ds) : OpOk P w0 env H (.build t parts) ty (.agg ds) H := .pure fun G N a w oo hS hE ho hty => by
  obtain ⟨f, z, h1, h2, h3, h4, h5, h6, h7⟩ := (htt t i hi).info
  have hut := (htt t i hi).u
  rw [hu] at hut
  have hpl := (htt t i hi).places fs hu
  obtain ⟨us, k1, k2⟩ := fill_rep (G := G) (parts.toList.map fun p => (p.1, aev env p.2)) (parts.toList.map fun p => (p.1, a.eval p.2)) i.zero ds z.cells h (h6 G) (by simp) (by
    intro j x p hx hp
    simp only [List.getElem?_map, Option.map_eq_some_iff] at hx hp
    obtain ⟨q, hq, rfl⟩ := hx
    obtain ⟨q', hq', rfl⟩ := hp
    rw [hq] at hq'; simp at hq'; subst hq'
    exact ⟨rfl, hE.eval _⟩)
  have hb : P.built t (parts.map fun (i, x) => (i, a.eval x)).toList = some us := by
    simp only [Program.built, h1, hut, h4, hpl]
    rw [← k1]
    congr 1
    · funext k; simp
    · simp
  refine ⟨.agg us.toList.toArray, ?_, .agg _ _ k2.1 k2.2⟩
  simp only [execOp, ho, Sem.run_bind, run_build (P := P) w t _ us hb]
  simp

theorem ok_build_array (htt : TtOk P tt) (t : TypeId) (i : TyI) (hi : tt t = some i) (m : Nat) (e : TypeId) (j : TyI) (hj : tt e = some j) (hu : i.u = .array m e) (parts : Array (Nat × Operand)) (ds : List AV)
    (h : afill (fun k => some (k * j.size, j.size)) i.zero (parts.toList.map fun p => (p.1, aev env p.2)) = some ds) : OpOk P w0 env H (.build t parts) ty (.agg ds) H := .pure fun G N a w oo hS hE ho hty => by
  obtain ⟨f, z, h1, h2, h3, h4, h5, h6, h7⟩ := (htt t i hi).info
  obtain ⟨f', z', h1', h2', _⟩ := (htt e j hj).info
  have hut := (htt t i hi).u
  rw [hu] at hut
  obtain ⟨us, k1, k2⟩ := fill_rep (G := G) (parts.toList.map fun p => (p.1, aev env p.2)) (parts.toList.map fun p => (p.1, a.eval p.2)) i.zero ds z.cells h (h6 G) (by simp) (by
    intro j x p hx hp
    simp only [List.getElem?_map, Option.map_eq_some_iff] at hx hp
    obtain ⟨q, hq, rfl⟩ := hx
    obtain ⟨q', hq', rfl⟩ := hp
    rw [hq] at hq'; simp at hq'; subst hq'
    exact ⟨rfl, hE.eval _⟩)
  have hb : P.built t (parts.map fun (i, x) => (i, a.eval x)).toList = some us := by
    simp only [Program.built, h1, hut, h4, h1', h2']
    rw [← k1]
    congr 1
    simp
  refine ⟨.agg us.toList.toArray, ?_, .agg _ _ k2.1 k2.2⟩
  simp only [execOp, ho, Sem.run_bind, run_build (P := P) w t _ us hb]
  simp
end
end Go.Ai
