/- A part of the proof: no statement of the seat is proved in this text. -/
import Derived.Test.YtcphpaeebaacgaaAi5
set_option linter.unusedVariables false
set_option linter.unusedSimpArgs false
namespace Go.Ai
open Go Go.RowKit

def aun (op : UnOp) (x : AV) : Option AV :=
  match op, x with
  | .not, .bool b => some (.bool (!b))
  | .neg, .int k n => some (.int k (k.wrap (0 - n)))
  | _, _ => none

/-- Byte i of a string. -/
def byteAt (s : ByteArray) (i : Nat) : Int := ((s.data.toList.getD i 0).toNat : Int)

section
variable {P : Program} {w0 : World} {tt : TT} {env : Env} {H : AH} {ty : TypeId}

theorem ok_un (op : UnOp) (t : TypeId) (x : Operand) (r : AV) (h : aun op (aev env x) = some r) : OpOk P w0 env H (.unOp op t x) ty r H := .pure fun G N a w o hS hE ho ht => by
  have hx := hE.eval x
  revert h hx
  generalize aev env x = X
  intro h hx
  unfold aun at h
  split at h
  · have e := hx.bool_inv
    simp at h; subst h
    exact ⟨_, by simp only [execOp, ho, e, Op.unary]; rfl, .bool _⟩
  · obtain ⟨e, _⟩ := hx.int_inv
    simp only [Option.some.injEq] at h; subst h
    refine ⟨.int _ _, by simp only [execOp, ho, e, Op.unary, Op.intArith]; rfl, ?_⟩
    exact .int _ _ (wrap_wrap _ _)
  · cases h

theorem ok_conv_int (htt : TtOk P tt) (s t : TypeId) (x : Operand) (i j : TyI) (k k' : IntKind) (n : Int) (hs : tt s = some i) (ht : tt t = some j) (hj : j.u = .int k) (hx : aev env x = .int k' n) :
    OpOk P w0 env H (.convert s t x) ty (.int k (k.wrap n)) H := .pure fun G N a w o hS hE ho hty => by
  have hv := hE.eval x
  rw [hx] at hv
  obtain ⟨e, _⟩ := hv.int_inv
  have h1 := (htt s i hs).u
  have h2 := (htt t j ht).u
  rw [hj] at h2
  refine ⟨.int k (k.wrap n), ?_, .int _ _ (wrap_wrap _ _)⟩
  simp [execOp, ho, e, convert, run_underlying h1, run_underlying h2, Conv.intToInt]

theorem fieldAt_run (htt : TtOk P tt) {s : TypeId} {i : TyI} (hi : tt s = some i) {f o z : Nat} {g : Bool} (hf : i.fields[f]? = some (o, z, g)) (b off : Nat) (w : World) :
    (Instr.fieldAt s (.pointer (some ⟨b, off, none⟩)) f).run P w = .ok (.pointer (some ⟨b, off + o, none⟩)) w := by
  obtain ⟨hz, fs, fl, x, d, h1, h2, h3, h4, h5, h6, h7⟩ := (htt s i hi).fields f o z g hf
  have hu := (htt s i hi).u
  rw [h1] at hu
  have hfa : fs[f]? = some fl := h2
  simp [Instr.fieldAt, run_underlying hu, hfa, Instr.sureAddr, fieldPlace, sizeOf, typeInfo, h4, h5, hz, h3, add_off]

theorem ok_fieldAddr_ptr (htt : TtOk P tt) (s : TypeId) (x : Operand) (f : Nat) (i : TyI) (hi : tt s = some i) (id off o z : Nat) (g : Bool) (hx : aev env x = .ptr id off) (hf : i.fields[f]? = some (o, z, g)) :
    OpOk P w0 env H (.fieldAddr s x f) ty (.ptr id (off + o)) H := .pure fun G N a w oo hS hE ho hty => by
  have hp := hE.eval x
  rw [hx] at hp
  obtain ⟨b, hv, hb⟩ := ptr_inv hp
  exact ⟨_, by simp only [execOp, ho, hv, Sem.run_bind, fieldAt_run htt hi hf, Result.andThen_ok]; rfl, .ptr _ _ _ hb⟩

theorem ok_fieldAddr_rptr (htt : TtOk P tt) (s : TypeId) (x : Operand) (f : Nat) (i : TyI) (hi : tt s = some i) (cs : List AV) (o z : Nat) (g : Bool) (hx : aev env x = .rptr cs) (hf : i.fields[f]? = some (o, z, g)) :
    OpOk P w0 env H (.fieldAddr s x f) ty (.rptr (cs.drop o)) H := .pure fun G N a w oo hS hE ho hty => by
  have hp := hE.eval x
  rw [hx] at hp
  obtain ⟨b, off, hv, hb⟩ := hp.rptr_inv
  exact ⟨_, by simp only [execOp, ho, hv, Sem.run_bind, fieldAt_run htt hi hf, Result.andThen_ok]; rfl, .rptr_mk (hb.drop o)⟩

theorem Rep.agg_form {G : Gh} {cs : List AV} {v : Value} (h : Rep G (.agg cs) v) : ∃ vs : List Value, v = .agg vs.toArray ∧ RepL G cs vs := by cases h with | agg cs vs hl hr => exact ⟨vs, rfl, hl, hr⟩

/-- A part of an aggregate. -/
theorem part_run {t : TypeId} {d : TypeDesc} {x : TypeInfo} {z : Nat} {g : Bool} (hg : (match d with | .struct _ | .array _ _ => true | _ => false) = g) (hd : P.underlying t = some d) (hx : P.info? t = some x) (hz : x.size = z) (h0 : 0 < z)
    {vs : List Value} {off : Nat} (hl : off + z ≤ vs.length) (w : World) : (part t vs.toArray off).run P w = .ok (mkV g ((vs.drop off).take z)) w := by
  have ha : (isAgg t).run P w = .ok g w := by
    simp only [isAgg, Sem.run_bind, run_underlying hd, Result.andThen_ok]
    revert hg
    cases d <;> intro h <;> simp at h <;> simp [h]
  simp only [part, Sem.run_bind, ha, Result.andThen_ok]
  cases g
  · have hlt : off < vs.length := by omega
    simp [hlt, mkV]
    match z, h0 with
    | z + 1, _ => rw [List.drop_eq_getElem_cons hlt]; rfl
  · simp [sizeOf, typeInfo, hx, hz, mkV]

theorem ok_field (htt : TtOk P tt) (s : TypeId) (x : Operand) (f : Nat) (i : TyI) (hi : tt s = some i) (cs : List AV) (o z : Nat) (g : Bool) (hx : aev env x = .agg cs) (hf : i.fields[f]? = some (o, z, g)) (hl : o + z ≤ cs.length) :
    OpOk P w0 env H (.field s x f) ty (mkA g ((cs.drop o).take z)) H := .pure fun G N a w oo hS hE ho hty => by
  have hp := hE.eval x
  rw [hx] at hp
  obtain ⟨vs, hv, hr⟩ := hp.agg_form
  obtain ⟨hz, fs, fl, xi, d, h1, h2, h3, h4, h5, h6, h7⟩ := (htt s i hi).fields f o z g hf
  have hu := (htt s i hi).u
  rw [h1] at hu
  refine ⟨mkV g ((vs.drop o).take z), ?_, mk_rep ((hr.drop o).take z) g⟩
  have hpr := part_run (P := P) h7 h6 h4 h5 (by omega) (vs := vs) (off := o) (by rw [← hr.1]; exact hl) w
  subst h3
  simp [execOp, ho, hv, Instr.field, run_underlying hu, h2, asAgg, hpr]

theorem sizeOf_run (htt : TtOk P tt) {t : TypeId} {i : TyI} (hi : tt t = some i) (w : World) : (sizeOf t).run P w = .ok i.size w := by
  obtain ⟨f, z, h1, h2, _⟩ := (htt t i hi).info
  simp [sizeOf, typeInfo, h1, h2]

theorem ok_indexAddr (htt : TtOk P tt) (t : TypeId) (x ix : Operand) (i j : TyI) (e : TypeId) (hi : tt t = some i) (hu : i.u = .slice e) (hj : tt e = some j) (l : List AV) (hx : (aev env x).elems = some l) (k : IntKind) (n : Int)
    (hix : aev env ix = .int k n) (h0 : 0 ≤ n) (y : AV) (hy : l[n.toNat]? = some y) (hz : y.cells.length = j.size) : OpOk P w0 env H (.indexAddr t x ix) ty (.rptr y.cells) H := .pure fun G N a w oo hS hE ho hty => by
  have hs := (hE.eval x).elems hx
  have hn := hE.eval ix
  rw [hix] at hn
  obtain ⟨en, _⟩ := hn.int_inv
  have hlt : n.toNat < l.length := (List.getElem?_eq_some_iff.1 hy).1
  have hut := (htt t i hi).u
  rw [hu] at hut
  rcases hs.slice_inv with ⟨_, rfl⟩ | ⟨b, off, cap, sz, hv, hc, hb, hun, hr⟩ | ⟨_, _, _, rfl⟩
  · simp at hlt
  rotate_left
  · simp at hlt
  · have hsz : sz = j.size := by rw [← hz, hun y (List.mem_of_getElem? hy)]
    subst hsz
    refine ⟨.pointer (some ⟨b, off + n.toNat * j.size, none⟩), ?_, .rptr_mk (hr.elem hun hy)⟩
    have hlt2 : n < (l.length : Int) := by omega
    simp [execOp, ho, hv, en, Instr.indexAt, asIntOf, run_underlying hut, h0, hlt2, sizeOf_run htt hj, add_off]

theorem ok_indexAddr_arr (htt : TtOk P tt) (t : TypeId) (x ix : Operand) (i j : TyI) (m : Nat) (e : TypeId) (hi : tt t = some i) (hu : i.u = .array m e) (hj : tt e = some j) (id off : Nat) (hx : aev env x = .ptr id off) (k : IntKind) (n : Int)
    (hix : aev env ix = .int k n) (h0 : 0 ≤ n) (hm : n < m) : OpOk P w0 env H (.indexAddr t x ix) ty (.ptr id (off + n.toNat * j.size)) H := .pure fun G N a w oo hS hE ho hty => by
  have hp := hE.eval x
  rw [hx] at hp
  obtain ⟨b, hv, hb⟩ := ptr_inv hp
  have hn := hE.eval ix
  rw [hix] at hn
  obtain ⟨en, _⟩ := hn.int_inv
  have hut := (htt t i hi).u
  rw [hu] at hut
  refine ⟨_, ?_, .ptr _ _ _ hb⟩
  simp [execOp, ho, hv, en, Instr.indexAt, asIntOf, run_underlying hut, h0, hm, sizeOf_run htt hj, add_off, Instr.sureAddr]

theorem ok_index_str (htt : TtOk P tt) (t : TypeId) (x ix : Operand) (i : TyI) (hi : tt t = some i) (hu : i.u = .string) (s : ByteArray) (hx : aev env x = .str s) (k : IntKind) (n : Int)
    (hix : aev env ix = .int k n) (h0 : 0 ≤ n) (hm : n < s.size) : OpOk P w0 env H (.index t x ix) ty (.int .u8 (byteAt s n.toNat)) H := .pure fun G N a w oo hS hE ho hty => by
  have hp := hE.eval x
  rw [hx] at hp
  obtain ⟨hv, _⟩ := hp.str_inv
  have hn := hE.eval ix
  rw [hix] at hn
  obtain ⟨en, _⟩ := hn.int_inv
  have hut := (htt t i hi).u
  rw [hu] at hut
  have hlt : n.toNat < s.size := by omega
  have hb : s[n.toNat]? = some (s[n.toNat]'hlt) := by simp [hlt]
  have hval : byteAt s n.toNat = ((s[n.toNat]'hlt).toNat : Int) := by
    unfold byteAt
    have hlt' : n.toNat < s.data.toList.length := by simpa using hlt
    rw [List.getD_eq_getElem?_getD, List.getElem?_eq_getElem hlt']
    simp
    rfl
  refine ⟨.int .u8 (byteAt s n.toNat), ?_, .int _ _ ?_⟩
  · simp only [execOp, ho, hv, en, Instr.index, asIntOf, Sem.run_bind, Sem.run_pure, Result.andThen_ok, run_underlying hut, if_pos h0, hb, hval]
  · rw [hval]
    have := (s[n.toNat]'hlt).toNat_lt
    simp [IntKind.wrap, IntKind.bits, IntKind.signed]
    omega

theorem ok_index_arr (htt : TtOk P tt) (t : TypeId) (x ix : Operand) (i j : TyI) (m : Nat) (e : TypeId) (hi : tt t = some i) (hu : i.u = .array m e) (hj : tt e = some j) (cs : List AV) (hx : aev env x = .agg cs) (k : IntKind) (n : Int)
    (hix : aev env ix = .int k n) (h0 : 0 ≤ n) (hm : n < m) (hl : n.toNat * j.size + j.size ≤ cs.length) (hj0 : 0 < j.size) : OpOk P w0 env H (.index t x ix) ty (mkA j.agg ((cs.drop (n.toNat * j.size)).take j.size)) H := .pure fun G N a w oo hS hE ho hty => by
  have hp := hE.eval x
  rw [hx] at hp
  obtain ⟨vs, hv, hr⟩ := hp.agg_form
  have hn := hE.eval ix
  rw [hix] at hn
  obtain ⟨en, _⟩ := hn.int_inv
  have hut := (htt t i hi).u
  rw [hu] at hut
  obtain ⟨f, z, g1, g2, _⟩ := (htt e j hj).info
  have hpr := part_run (P := P) (htt e j hj).agg (htt e j hj).u g1 g2 hj0 (vs := vs) (off := n.toNat * j.size) (by rw [← hr.1]; exact hl) w
  refine ⟨_, ?_, mk_rep ((hr.drop _).take _) _⟩
  simp [execOp, ho, hv, en, Instr.index, asIntOf, run_underlying hut, h0, hm, sizeOf_run htt hj, hpr]

theorem ok_extract (x : Operand) (n : Nat) (vs : List AV) (hx : aev env x = .tup vs) (y : AV) (hy : vs[n]? = some y) : OpOk P w0 env H (.extract x n) ty y H := .pure fun G N a w oo hS hE ho hty => by
  have hp := hE.eval x
  rw [hx] at hp
  cases hv : a.eval x <;> rw [hv] at hp <;> cases hp
  rename_i us hl hr
  have hlt : n < us.length := by rw [← hl]; exact (List.getElem?_eq_some_iff.1 hy).1
  refine ⟨us[n], by simp [execOp, ho, hv, Instr.extract, hlt], hr n y _ hy (List.getElem?_eq_getElem hlt)⟩

theorem RepL.evals {G : Gh} {N : Nat} {a : Act} (hE : EnvRep G N env a.tmps) (l : List Operand) : RepL G (l.map (aev env)) (l.map a.eval) := by
  induction l with
  | nil => exact .nil _
  | cons x l ih => exact .cons (hE.eval x) ih

theorem ok_makeFunc (f : FuncId) (caps : Array Operand) : OpOk P w0 env H (.makeFunc (.func f) #[] caps) ty (.fn f (caps.toList.map (aev env))) H := .pure fun G N a w oo hS hE ho hty => by
  have h := RepL.evals hE caps.toList
  refine ⟨.func (.func f) #[] (caps.toList.map a.eval).toArray, ?_, .fn _ _ _ h.1 h.2⟩
  simp [execOp, ho, Instr.makeFunc]
  apply Array.ext'
  simp
end
end Go.Ai
