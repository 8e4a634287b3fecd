/- A part of the proof: no statement of the seat is proved in this text. -/
import Derived.Test.YtdmhbplibcolbaaGreatAi5
set_option linter.unusedVariables false
set_option linter.unusedSimpArgs false
namespace Go.Ai
open Go Go.RowKit
def afill (place : Nat → Option (Nat × Nat)) (cs : List AV) : List (Nat × AV) → Option (List AV)
  | [] => some cs
  | (i, x) :: rest => match place i with
    | none => none
    | some (o, s) => if x.cells.length = s ∧ o + s ≤ cs.length ∧ x.cells.all AV.scal = true then afill place (cs.take o ++ x.cells ++ cs.drop (o + s)) rest else none
theorem foldl_set (o : Nat) : ∀ (vs : List Value) (k : Nat) (zs : Array Value), o + k + vs.length ≤ zs.size →
    ((vs.zipIdx k).foldl (fun cs (c, j) => cs.setIfInBounds (o + j) c) zs).toList = zs.toList.take (o + k) ++ vs ++ zs.toList.drop (o + k + vs.length)
  | [], k, zs, h => by simp
  | v :: vs, k, zs, h => by
    simp at h
    rw [List.zipIdx_cons, List.foldl_cons, foldl_set o vs (k + 1) _ (by simp; omega)]
    have hk : o + k < zs.toList.length := by simp; omega
    simp only [Array.toList_setIfInBounds]
    rw [List.take_set, List.drop_set, if_pos (by omega)]
    rw [show o + (k + 1) = o + k + 1 by omega, List.take_succ_eq_append_getElem hk]
    rw [List.set_append, if_neg (by simp; omega)]
    simp
    rw [Nat.min_eq_left (by simp at hk; omega)]
    simp
    congr 1
    omega
theorem fill_rep {G : Gh} {place : Nat → Option (Nat × Nat)} : ∀ (xs : List (Nat × AV)) (ps : List (Nat × Value)) (cs ds : List AV) (zs : Array Value), afill place cs xs = some ds → RepL G cs zs.toList →
    ps.length = xs.length → (∀ (j : Nat) (x : Nat × AV) (p : Nat × Value), xs[j]? = some x → ps[j]? = some p → p.1 = x.1 ∧ Rep G x.2 p.2) →
    ∃ us, Instr.fill place zs ps = some us ∧ RepL G ds us.toList
  | [], ps, cs, ds, zs, h, hr, hl, hp => by
    simp [afill] at h; subst h
    have : ps = [] := List.eq_nil_of_length_eq_zero hl
    subst this
    exact ⟨zs, rfl, hr⟩
  | (i, x) :: xs, [], cs, ds, zs, h, hr, hl, hp => by simp at hl
  | (i, x) :: xs, (i', v) :: ps, cs, ds, zs, h, hr, hl, hp => by
    obtain ⟨e, hx⟩ := hp 0 (i, x) (i', v) rfl rfl
    simp only at e hx
    subst e
    simp only [afill] at h
    cases hpl : place i' with
    | none => rw [hpl] at h; cases h
    | some os =>
      obtain ⟨o, s⟩ := os
      rw [hpl] at h
      simp only at h
      split at h
      · rename_i hc
        obtain ⟨h1, h2, h3⟩ := hc
        have hxr := hx.cells (cells_ok h3)
        have hvs : v.cells.size = s := by rw [← Array.length_toList, ← hxr.1, h1]
        have hzl : zs.size = cs.length := by rw [← Array.length_toList, ← hr.1]
        simp only [Instr.fill, hpl]
        rw [if_neg (by simp [hvs, hzl]; omega)]
        refine fill_rep xs ps _ ds _ h ?_ (by simpa using hl) (fun j y p h4 h5 => hp (j + 1) y p h4 h5)
        have hfold : (v.cells.zipIdx.foldl (fun cs x => match x with | (c, j) => cs.setIfInBounds (o + j) c) zs).toList = zs.toList.take o ++ v.cells.toList ++ zs.toList.drop (o + s) := by
          have := foldl_set o v.cells.toList 0 zs (by simp [hvs, hzl]; omega)
          rw [← Array.foldl_toList]
          simp only [Nat.add_zero] at this
          have hz : v.cells.zipIdx.toList = v.cells.toList.zipIdx 0 := by simp
          rw [hz, this]
          simp [hvs]
        rw [hfold]
        exact ((hr.take o).append hxr).append (hr.drop (o + s))
      · cases h
section
variable {P : Program} {w0 : World} {tt : TT} {env : Env} {H : AH} {ty : TypeId}
theorem ok_build_struct (htt : TtOk P tt) (t : TypeId) (i : TyI) (hi : tt t = some i) (fs : Array Field) (hu : i.u = .struct fs) (parts : Array (Nat × Operand)) (ds : List AV)
    (h : afill (fun k => (i.fields[k]?).map fun x => (x.1, x.2.1)) i.zero (parts.toList.map fun p => (p.1, aev env p.2)) = some ds) : OpOk P w0 env H (.build t parts) ty (.agg ds) H := .pure fun G N a w oo hS hE ho hty => by
  obtain ⟨f, z, h1, h2, h3, h4, h5, h6, h7⟩ := (htt t i hi).info
  have hut := (htt t i hi).u
  rw [hu] at hut
  have hpl := (htt t i hi).places fs hu
  obtain ⟨us, k1, k2⟩ := fill_rep (G := G) (parts.toList.map fun p => (p.1, aev env p.2)) (parts.toList.map fun p => (p.1, a.eval p.2)) i.zero ds z.cells h (h6 G) (by simp) (by
    intro j x p hx hp
    simp only [List.getElem?_map, Option.map_eq_some_iff] at hx hp
    obtain ⟨q, hq, rfl⟩ := hx
    obtain ⟨q', hq', rfl⟩ := hp
    rw [hq] at hq'; simp at hq'; subst hq'
    exact ⟨rfl, hE.eval _⟩)
  have hb : P.built t (parts.map fun (i, x) => (i, a.eval x)).toList = some us := by
    simp only [Program.built, h1, hut, h4, hpl]
    rw [← k1]
    congr 1
    · funext k; simp
    · simp
  refine ⟨.agg us.toList.toArray, ?_, .agg _ _ k2.1 k2.2⟩
  simp only [execOp, ho, Sem.run_bind, run_build (P := P) w t _ us hb]
  simp
theorem ok_build_array (htt : TtOk P tt) (t : TypeId) (i : TyI) (hi : tt t = some i) (m : Nat) (e : TypeId) (j : TyI) (hj : tt e = some j) (hu : i.u = .array m e) (parts : Array (Nat × Operand)) (ds : List AV)
    (h : afill (fun k => some (k * j.size, j.size)) i.zero (parts.toList.map fun p => (p.1, aev env p.2)) = some ds) : OpOk P w0 env H (.build t parts) ty (.agg ds) H := .pure fun G N a w oo hS hE ho hty => by
  obtain ⟨f, z, h1, h2, h3, h4, h5, h6, h7⟩ := (htt t i hi).info
  obtain ⟨f', z', h1', h2', _⟩ := (htt e j hj).info
  have hut := (htt t i hi).u
  rw [hu] at hut
  obtain ⟨us, k1, k2⟩ := fill_rep (G := G) (parts.toList.map fun p => (p.1, aev env p.2)) (parts.toList.map fun p => (p.1, a.eval p.2)) i.zero ds z.cells h (h6 G) (by simp) (by
    intro j x p hx hp
    simp only [List.getElem?_map, Option.map_eq_some_iff] at hx hp
    obtain ⟨q, hq, rfl⟩ := hx
    obtain ⟨q', hq', rfl⟩ := hp
    rw [hq] at hq'; simp at hq'; subst hq'
    exact ⟨rfl, hE.eval _⟩)
  have hb : P.built t (parts.map fun (i, x) => (i, a.eval x)).toList = some us := by
    simp only [Program.built, h1, hut, h4, h1', h2']
    rw [← k1]
    congr 1
    simp
  refine ⟨.agg us.toList.toArray, ?_, .agg _ _ k2.1 k2.2⟩
  simp only [execOp, ho, Sem.run_bind, run_build (P := P) w t _ us hb]
  simp
end
end Go.Ai

set_option linter.unusedVariables false
set_option linter.unusedSimpArgs false
namespace Go.Ai
open Go Go.RowKit
def enumF (k : Nat) : List AV → List (Nat × AV)
  | [] => []
  | x :: xs => (k, x) :: enumF (k + 1) xs
theorem afill_seq (s : Nat) : ∀ (vals done rest : List AV), (∀ x, x ∈ done → x.cells.length = s) → (∀ x, x ∈ vals → x.cells.length = s ∧ x.cells.all AV.scal = true) → rest.length = vals.length * s →
    afill (fun k => some (k * s, s)) (flat done ++ rest) (enumF done.length vals) = some (flat (done ++ vals))
  | [], done, rest, hd, hv, hl => by
    have : rest = [] := List.eq_nil_of_length_eq_zero (by simpa using hl)
    subst this
    simp [enumF, afill]
  | x :: xs, done, rest, hd, hv, hl => by
    have hfl := flat_length hd
    have hx := hv x (List.mem_cons_self ..)
    have hl' : rest.length = xs.length * s + s := by rw [hl, List.length_cons, Nat.add_mul]; omega
    simp only [enumF, afill]
    rw [if_pos ⟨hx.1, by rw [List.length_append, hfl]; omega, hx.2⟩]
    have e : (flat done ++ rest).take (done.length * s) ++ x.cells ++ (flat done ++ rest).drop (done.length * s + s) = flat (done ++ [x]) ++ rest.drop s := by
      rw [← hfl]
      simp [flat_append, flat_cons, flat_nil, List.drop_append]
    rw [e]
    have ih := afill_seq s xs (done ++ [x]) (rest.drop s) (fun y hy => by
      rcases List.mem_append.1 hy with hy | hy
      · exact hd y hy
      · simp at hy; subst hy; exact hx.1) (fun y hy => hv y (List.mem_cons_of_mem _ hy)) (by simp; omega)
    simp at ih
    simp [ih]
theorem RepL.anys (G : Gh) (zs : List Value) : RepL G (List.replicate zs.length .any) zs :=
  ⟨by simp, fun j c v h1 h2 => by
    rw [List.getElem?_replicate] at h1
    split at h1
    · simp at h1; subst h1; exact .any _
    · cases h1⟩
theorem RepK.of_new {G : Gh} {b : Nat} {cs : List AV} {vs : List Value} (h : RepL G cs vs) (hle : G.le (G.addK b vs)) : RepK (G.addK b vs) b 0 cs := by
  intro o c hc
  obtain ⟨v, h1, h2⟩ := h.index hc
  exact ⟨v, by simp [Gh.addK, h1], h2.mono hle⟩
section
variable {P : Program} {w0 : World} {tt : TT} {env : Env} {H : AH} {ty : TypeId}
theorem Sim.allocImm {G : Gh} {w : World} (hS : Sim w0 G H w) (vs : List Value) (t : TypeId) :
    Sim w0 (G.addK w.heap.size vs) H (w.alloc (.cells vs.toArray t)) ∧ G.le (G.addK w.heap.size vs) :=
  (hS.frame (World.grownBy_alloc w _ _)).addImm (hS.fresh (Nat.le_refl _)) (fun o v hv => by rw [World.cell?_alloc_new]; simpa using hv)
theorem ok_buildSlice (htt : TtOk P tt) (t : TypeId) (i : TyI) (hi : tt t = some i) (e : TypeId) (j : TyI) (hj : tt e = some j) (hu : i.u = .slice e) (n : Nat) (parts : Array (Nat × Operand))
    (hp : parts.toList.map (·.1) = List.range' 0 n) (hv : ∀ x, x ∈ parts.toList.map (fun p => aev env p.2) → x.cells.length = j.size ∧ x.cells.all AV.scal = true) (hlim : n * j.size ≤ 16777216) (hj0 : 0 < j.size) :
    OpOk P w0 env H (.buildSlice t n parts) ty (.lit (parts.toList.map fun p => aev env p.2)) H := by
  intro G N a w oo hS hE ho hty
  obtain ⟨f, z, h1, h2, h3, h4, h5, h6, h7⟩ := (htt e j hj).info
  have hut := (htt t i hi).u
  rw [hu] at hut
  have hn : (parts.toList.map fun p => aev env p.2).length = n := by
    have := congrArg List.length hp; simpa using this
  have henum : ∀ (ps : List (Nat × Operand)) (k : Nat), ps.map (·.1) = List.range' k ps.length → ps.map (fun p => (p.1, aev env p.2)) = enumF k (ps.map fun p => aev env p.2) := by
    intro ps
    induction ps with
    | nil => intro k _; rfl
    | cons p ps ih =>
      intro k hk
      simp [List.range'_succ] at hk
      simp [enumF, hk.1, ih (k + 1) hk.2]
  have hen := henum parts.toList 0 (by rw [hp]; congr 1; simpa using hn.symm)
  let zs : Array Value := (Array.range (n * j.size)).map ((if n * j.size = 0 then #[] else z.cells)[· % (if n * j.size = 0 then #[] else z.cells).size]!)
  have hzs : zs.toList.length = n * j.size := by simp [zs]
  have hfill := afill_seq j.size (parts.toList.map fun p => aev env p.2) [] (List.replicate (n * j.size) .any) (by simp) hv (by simp [hn])
  obtain ⟨us, k1, k2⟩ := fill_rep (G := G) (parts.toList.map fun p => (p.1, aev env p.2)) (parts.toList.map fun p => (p.1, a.eval p.2)) (List.replicate (n * j.size) .any) (flat (parts.toList.map fun p => aev env p.2)) zs
    (by rw [hen]; simpa [flat_nil] using hfill) (by have := RepL.anys G zs.toList; rwa [hzs] at this) (by simp) (by
    intro j x p hx hp
    simp only [List.getElem?_map, Option.map_eq_some_iff] at hx hp
    obtain ⟨q, hq, rfl⟩ := hx
    obtain ⟨q', hq', rfl⟩ := hp
    rw [hq] at hq'; simp at hq'; subst hq'
    exact ⟨rfl, hE.eval _⟩)
  obtain ⟨hS', hle⟩ := hS.allocImm us.toList e
  have hun : ∀ x, x ∈ (parts.toList.map fun p => aev env p.2) → x.cells.length = j.size := fun x hx => (hv x hx).1
  have hn24 : n ≤ 16777216 := Nat.le_trans (Nat.le_mul_of_pos_right n hj0) hlim
  have hrs := Rep.slice_mk (cap := n) (RepK.of_new k2 hle) hun (by omega) (by omega)
  rw [hn] at hrs
  refine ⟨.value (.slice (some ⟨w.heap.size, 0, none⟩) n n), .slice (some ⟨w.heap.size, 0, none⟩) n n, _, _, ?_, rfl, hle, hS', ?_⟩
  · have hz : (sizeOf e).run P w = .ok j.size w := by simp [sizeOf, typeInfo, h1, h2]
    have hl24 : ¬ (n * j.size > 2 ^ 24) := by omega
    have hzr : ((if n * j.size = 0 then Pure.pure #[] else do Pure.pure (← zeroValue e).cells : Sem (Array Value))).run P w = .ok (if n * j.size = 0 then #[] else z.cells) w := by
      split <;> simp [zeroValue, typeInfo, h1, h4]
    have k1' : Instr.fill (fun i => some (i * j.size, j.size)) zs (parts.map fun (i, x) => (i, a.eval x)).toList = some us := by
      rw [← k1]; congr 1; simp
    simp only [execOp, ho, Instr.buildSlice, Sem.run_bind, run_underlying hut, Result.andThen_ok, hz, if_neg hl24, hzr]
    have e1 : (parts.map fun x => (x.1, a.eval x.2)) = parts.map fun (i, x) => (i, a.eval x) := rfl
    by_cases h0 : n * j.size = 0
    · have hz0 : zs = (Array.range (n * j.size)).map (fun x => (#[] : Array Value)[x % (#[] : Array Value).size]!) := by simp only [zs, if_pos h0]
      rw [hz0] at k1'
      simp only [if_pos h0, Sem.run_bind, Sem.run_pure, Result.andThen_ok]
      rw [e1, k1']
      simp [newRow]
    · have hz0 : zs = (Array.range (n * j.size)).map (fun x => z.cells[x % z.cells.size]!) := by simp only [zs, if_neg h0]
      rw [hz0] at k1'
      simp only [if_neg h0, Sem.run_bind, Sem.run_pure, Result.andThen_ok, zeroValue, typeInfo]
      simp only [program, Sem.run, Sem.run_bind, Sem.run_pure, Result.andThen_ok, h1, h4]
      rw [e1, k1']
      simp [newRow]
  · have := Rep.lit _ _ (by rw [hn]; exact hrs)
    rw [hn] at this
    exact this
end
end Go.Ai

set_option linter.unusedVariables false
set_option linter.unusedSimpArgs false
namespace Go.Ai
open Go Go.RowKit
section
variable {P : Program} {w0 : World} {tt : TT} {env : Env} {H : AH} {ty : TypeId}
theorem wrap_small {n : Int} (h0 : 0 ≤ n) (h1 : n ≤ 281474976710656) : IntKind.i64.wrap n = n := by
  simp [IntKind.wrap, IntKind.bits, IntKind.signed]
  omega
theorem ok_len_slice (htt : TtOk P tt) (t : TypeId) (x : Operand) (i : TyI) (hi : tt t = some i) (e : TypeId) (hu : i.u = .slice e) (l : List AV) (hx : (aev env x).elems = some l) :
    OpOk P w0 env H (.call { callee := .builtin .len, args := #[x], argTypes := #[t] }) ty (.int .i64 l.length) H := .pure fun G N a w oo hS hE ho hty => by
  have hs := (hE.eval x).elems hx
  have hut := (htt t i hi).u
  rw [hu] at hut
  have hle := hs.len_le
  refine ⟨.int .i64 l.length, ?_, .int _ _ (wrap_small (by omega) (by omega))⟩
  rcases hs.slice_inv with ⟨hv, rfl⟩ | ⟨b, off, cap, sz, hv, _⟩ | ⟨a', cap, hv, rfl⟩
  · simp [execOp, ho, resolve, invoke, builtin, hv, Builtin.len_, run_underlying hut, goInt]
  · simp [execOp, ho, resolve, invoke, builtin, hv, Builtin.len_, run_underlying hut, goInt]
  · simp [execOp, ho, resolve, invoke, builtin, hv, Builtin.len_, run_underlying hut, goInt]
theorem ok_len_str (htt : TtOk P tt) (t : TypeId) (x : Operand) (i : TyI) (hi : tt t = some i) (hu : i.u = .string) (s : ByteArray) (hx : aev env x = .str s) :
    OpOk P w0 env H (.call { callee := .builtin .len, args := #[x], argTypes := #[t] }) ty (.int .i64 s.size) H := .pure fun G N a w oo hS hE ho hty => by
  have hs := hE.eval x
  rw [hx] at hs
  obtain ⟨hv, hle⟩ := hs.str_inv
  have hut := (htt t i hi).u
  rw [hu] at hut
  refine ⟨.int .i64 s.size, ?_, .int _ _ (wrap_small (by omega) (by omega))⟩
  simp [execOp, ho, resolve, invoke, builtin, hv, Builtin.len_, run_underlying hut, goInt]
def abound (env : Env) (d : Int) : Option Operand → Option Int
  | none => some d
  | some o => match aev env o with
    | .int _ n => some n
    | _ => none
theorem bound_run {G : Gh} {N : Nat} {a : Act} (hE : EnvRep G N env a.tmps) {d n : Int} {o : Option Operand} (h : abound env d o = some n) :
    (o = none ∧ n = d) ∨ ∃ x k, o = some x ∧ a.eval x = .int k n := by
  cases o with
  | none => simp [abound] at h; exact .inl ⟨rfl, h.symm⟩
  | some x =>
    simp only [abound] at h
    have hr := hE.eval x
    split at h
    · rename_i k m he
      simp at h; subst h
      rw [he] at hr
      exact .inr ⟨x, k, rfl, hr.int_inv.1⟩
    · cases h
theorem ok_slice (htt : TtOk P tt) (t : TypeId) (x : Operand) (lo hi : Option Operand) (i j : TyI) (e : TypeId) (hit : tt t = some i) (hu : i.u = .slice e) (hj : tt e = some j) (l : List AV) (hx : (aev env x).elems = some l)
    (a0 b0 : Int) (ha : abound env 0 lo = some a0) (hb : abound env l.length hi = some b0) (h0 : 0 ≤ a0) (h1 : a0 ≤ b0) (h2 : b0 ≤ l.length) (hz : ∀ y, y ∈ l → y.cells.length = j.size) :
    OpOk P w0 env H (.slice t x lo hi none) ty (.slice ((l.drop a0.toNat).take (b0.toNat - a0.toNat))) H := .pure fun G N a w oo hS hE ho hty => by
  have hs := (hE.eval x).elems hx
  have hut := (htt t i hit).u
  rw [hu] at hut
  have hsz := sizeOf_run htt hj (P := P) w
  obtain ⟨v, hv⟩ : ∃ v, v = a.eval x := ⟨_, rfl⟩
  rw [← hv] at hs
  -- the bounds' run
  have hbd : ∀ (ad : Option Addr) (cap : Nat), l.length ≤ cap → (Instr.sliceBounds true l.length cap (lo.map a.eval) (hi.map a.eval) none).run P w = .ok (a0.toNat, b0.toNat, cap) w := by
    intro ad cap hcap
    have e0 : ((b0.toNat : Nat) : Int) = b0 := Int.toNat_of_nonneg (by omega)
    have e1 : ((a0.toNat : Nat) : Int) = a0 := Int.toNat_of_nonneg h0
    have s1 : ∀ (k : IntKind) (c : BoundsCode), (Instr.sliceBound (.int k b0) cap c).run P w = .ok b0.toNat w := fun k c => run_sliceBound w k b0 cap c (by omega) (by omega)
    have s2 : ∀ (k : IntKind) (c : BoundsCode), (Instr.sliceBound (.int k a0) b0.toNat c).run P w = .ok a0.toNat w := fun k c => run_sliceBound w k a0 _ c (by omega) (by omega)
    rcases bound_run hE ha with ⟨rfl, rfl⟩ | ⟨x1, k1, rfl, hx1⟩ <;> rcases bound_run hE hb with ⟨rfl, rfl⟩ | ⟨x2, k2, rfl, hx2⟩
    · simp [Instr.sliceBounds]
    · simp [Instr.sliceBounds, hx2, s1]
    · have s3 : ∀ (k : IntKind) (c : BoundsCode), (Instr.sliceBound (.int k a0) l.length c).run P w = .ok a0.toNat w := fun k c => run_sliceBound w k a0 _ c (by omega) (by omega)
      simp [Instr.sliceBounds, hx1, s3]
    · simp [Instr.sliceBounds, hx1, hx2, s1, s2]
  rcases hs.slice_inv with ⟨hv', rfl⟩ | ⟨b, off, cap, sz, hv', hc, hbb, hun, hr⟩ | ⟨ad, cap, hv', rfl⟩
  rotate_left 2
  · have ea : a0 = 0 := by simp at h2; omega
    have eb : b0 = 0 := by simp at h2; omega
    subst ea; subst eb
    have := hbd (some ad) cap (Nat.zero_le _)
    simp only [List.length_nil] at this
    refine ⟨.slice (some ad) 0 cap, ?_, by simpa using .sliceE ad cap⟩
    rw [hv] at hv'
    by_cases hc0 : cap = 0
    · subst hc0
      simp [execOp, ho, hv', Instr.sliceAt, run_underlying hut, Instr.slice, this, hsz]
    · simp [execOp, ho, hv', Instr.sliceAt, run_underlying hut, Instr.slice, this, hsz, hc0, Addr.add]
  · have ea : a0 = 0 := by simp at h2; omega
    have eb : b0 = 0 := by simp at h2; omega
    subst ea; subst eb
    have := hbd none 0 (by simp)
    simp only [List.length_nil] at this
    refine ⟨.slice none 0 0, ?_, by simpa using .sliceNil⟩
    rw [hv] at hv'
    simp [execOp, ho, hv', Instr.sliceAt, run_underlying hut, Instr.slice, this, hsz]
  · have := hbd (some ⟨b, off, none⟩) cap hc
    rw [hv] at hv'
    have hfl : flat l = flat (l.take a0.toNat) ++ (flat ((l.drop a0.toNat).take (b0.toNat - a0.toNat)) ++ flat ((l.drop a0.toNat).drop (b0.toNat - a0.toNat))) := by
      rw [← flat_append, List.take_append_drop, ← flat_append, List.take_append_drop]
    have hl : ((l.drop a0.toNat).take (b0.toNat - a0.toNat)).length = b0.toNat - a0.toNat := by simp; omega
    have hu2 : ∀ y, y ∈ (l.drop a0.toNat).take (b0.toNat - a0.toNat) → y.cells.length = j.size := fun y hy => hz y (List.mem_of_mem_drop (List.mem_of_mem_take hy))
    revert hfl hl hu2
    generalize (l.drop a0.toNat).take (b0.toNat - a0.toNat) = m
    intro hfl hl hu2
    by_cases hcap : cap = a0.toNat
    · have he : m = [] := List.eq_nil_of_length_eq_zero (by omega)
      rw [hcap] at this
      refine ⟨.slice (some ⟨b, off, none⟩) (b0.toNat - a0.toNat) (cap - a0.toNat), ?_, ?_⟩
      · simp [execOp, ho, hv', Instr.sliceAt, run_underlying hut, Instr.slice, this, hsz, hcap]
      · rw [← hl]
        refine Rep.slice_mk (sz := j.size) ?_ hu2 (by omega) (by omega)
        rw [he]
        intro o c hc
        simp [flat] at hc
    · refine ⟨.slice (some ⟨b, off + a0.toNat * j.size, none⟩) (b0.toNat - a0.toNat) (cap - a0.toNat), ?_, ?_⟩
      · simp [execOp, ho, hv', Instr.sliceAt, run_underlying hut, Instr.slice, this, hsz, hcap, add_off]
      · rw [← hl]
        refine Rep.slice_mk (sz := j.size) ?_ hu2 (by omega) (by omega)
        have hlen : (flat (l.take a0.toNat)).length = a0.toNat * j.size := by
          rw [flat_length (fun y hy => hz y (List.mem_of_mem_take hy)), List.length_take, Nat.min_eq_left (by omega)]
        intro o c hc
        have := hr (a0.toNat * j.size + o) c (by
          rw [hfl, List.getElem?_append_right (by omega), hlen, Nat.add_sub_cancel_left, List.getElem?_append_left (List.getElem?_eq_some_iff.1 hc).1]
          exact hc)
        rwa [← Nat.add_assoc] at this
theorem ok_slice_str (htt : TtOk P tt) (t : TypeId) (x : Operand) (lo hi : Option Operand) (i : TyI) (hit : tt t = some i) (hu : i.u = .string) (s : ByteArray) (hx : aev env x = .str s)
    (a0 b0 : Int) (ha : abound env 0 lo = some a0) (hb : abound env s.size hi = some b0) (h0 : 0 ≤ a0) (h1 : a0 ≤ b0) (h2 : b0 ≤ s.size) :
    OpOk P w0 env H (.slice t x lo hi none) ty (.str (s.extract a0.toNat b0.toNat)) H := .pure fun G N a w oo hS hE ho hty => by
  have hs := hE.eval x
  rw [hx] at hs
  obtain ⟨hv, hle⟩ := hs.str_inv
  have hut := (htt t i hit).u
  rw [hu] at hut
  have hbd : (Instr.sliceBounds false s.size s.size (lo.map a.eval) (hi.map a.eval) none).run P w = .ok (a0.toNat, b0.toNat, s.size) w := by
    have s1 : ∀ (k : IntKind) (c : BoundsCode), (Instr.sliceBound (.int k b0) s.size c).run P w = .ok b0.toNat w := fun k c => run_sliceBound w k b0 _ c (by omega) (by omega)
    have s2 : ∀ (k : IntKind) (c : BoundsCode), (Instr.sliceBound (.int k a0) b0.toNat c).run P w = .ok a0.toNat w := fun k c => run_sliceBound w k a0 _ c (by omega) (by omega)
    rcases bound_run hE ha with ⟨rfl, rfl⟩ | ⟨x1, k1, rfl, hx1⟩ <;> rcases bound_run hE hb with ⟨rfl, rfl⟩ | ⟨x2, k2, rfl, hx2⟩
    · simp [Instr.sliceBounds]
    · simp [Instr.sliceBounds, hx2, s1]
    · have s3 : ∀ (k : IntKind) (c : BoundsCode), (Instr.sliceBound (.int k a0) s.size c).run P w = .ok a0.toNat w := fun k c => run_sliceBound w k a0 _ c (by omega) (by omega)
      simp [Instr.sliceBounds, hx1, s3]
    · simp [Instr.sliceBounds, hx1, hx2, s1, s2]
  refine ⟨.string (s.extract a0.toNat b0.toNat), ?_, .str _ (by simp; omega)⟩
  simp [execOp, ho, hv, Instr.sliceAt, run_underlying hut, Instr.slice, hbd]
end
end Go.Ai
