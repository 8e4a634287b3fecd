/- A part of the proof: no statement of the seat is proved in this text. -/
import Derived.Test.YtcphpaeebaacgaaAi8
set_option linter.unusedVariables false
set_option linter.unusedSimpArgs false
namespace Go.Ai
open Go Go.RowKit

section
variable {P : Program} {w0 : World} {tt : TT} {env : Env} {H : AH} {ty : TypeId}

theorem wrap_small {n : Int} (h0 : 0 ≤ n) (h1 : n ≤ 281474976710656) : IntKind.i64.wrap n = n := by
  simp [IntKind.wrap, IntKind.bits, IntKind.signed]
  omega

theorem ok_len_slice (htt : TtOk P tt) (t : TypeId) (x : Operand) (i : TyI) (hi : tt t = some i) (e : TypeId) (hu : i.u = .slice e) (l : List AV) (hx : (aev env x).elems = some l) :
    OpOk P w0 env H (.call { callee := .builtin .len, args := #[x], argTypes := #[t] }) ty (.int .i64 l.length) H := .pure fun G N a w oo hS hE ho hty => by
  have hs := (hE.eval x).elems hx
  have hut := (htt t i hi).u
  rw [hu] at hut
  have hle := hs.len_le
  refine ⟨.int .i64 l.length, ?_, .int _ _ (wrap_small (by omega) (by omega))⟩
  rcases hs.slice_inv with ⟨hv, rfl⟩ | ⟨b, off, cap, sz, hv, _⟩ | ⟨a', cap, hv, rfl⟩
  · simp [execOp, ho, resolve, invoke, builtin, hv, Builtin.len_, run_underlying hut, goInt]
  · simp [execOp, ho, resolve, invoke, builtin, hv, Builtin.len_, run_underlying hut, goInt]
  · simp [execOp, ho, resolve, invoke, builtin, hv, Builtin.len_, run_underlying hut, goInt]

theorem ok_len_str (htt : TtOk P tt) (t : TypeId) (x : Operand) (i : TyI) (hi : tt t = some i) (hu : i.u = .string) (s : ByteArray) (hx : aev env x = .str s) :
    OpOk P w0 env H (.call { callee := .builtin .len, args := #[x], argTypes := #[t] }) ty (.int .i64 s.size) H := .pure fun G N a w oo hS hE ho hty => by
  have hs := hE.eval x
  rw [hx] at hs
  obtain ⟨hv, hle⟩ := hs.str_inv
  have hut := (htt t i hi).u
  rw [hu] at hut
  refine ⟨.int .i64 s.size, ?_, .int _ _ (wrap_small (by omega) (by omega))⟩
  simp [execOp, ho, resolve, invoke, builtin, hv, Builtin.len_, run_underlying hut, goInt]

/-- The bound of a slice expression, if it is there, else d. -/
def abound (env : Env) (d : Int) : Option Operand → Option Int
  | none => some d
  | some o => match aev env o with
    | .int _ n => some n
    | _ => none

theorem bound_run {G : Gh} {N : Nat} {a : Act} (hE : EnvRep G N env a.tmps) {d n : Int} {o : Option Operand} (h : abound env d o = some n) :
    (o = none ∧ n = d) ∨ ∃ x k, o = some x ∧ a.eval x = .int k n := by
  cases o with
  | none => simp [abound] at h; exact .inl ⟨rfl, h.symm⟩
  | some x =>
    simp only [abound] at h
    have hr := hE.eval x
    split at h
    · rename_i k m he
      simp at h; subst h
      rw [he] at hr
      exact .inr ⟨x, k, rfl, hr.int_inv.1⟩
    · cases h

theorem ok_slice (htt : TtOk P tt) (t : TypeId) (x : Operand) (lo hi : Option Operand) (i j : TyI) (e : TypeId) (hit : tt t = some i) (hu : i.u = .slice e) (hj : tt e = some j) (l : List AV) (hx : (aev env x).elems = some l)
    (a0 b0 : Int) (ha : abound env 0 lo = some a0) (hb : abound env l.length hi = some b0) (h0 : 0 ≤ a0) (h1 : a0 ≤ b0) (h2 : b0 ≤ l.length) (hz : ∀ y, y ∈ l → y.cells.length = j.size) :
    OpOk P w0 env H (.slice t x lo hi none) ty (.slice ((l.drop a0.toNat).take (b0.toNat - a0.toNat))) H := .pure fun G N a w oo hS hE ho hty => by
  have hs := (hE.eval x).elems hx
  have hut := (htt t i hit).u
  rw [hu] at hut
  have hsz := sizeOf_run htt hj (P := P) w
  obtain ⟨v, hv⟩ : ∃ v, v = a.eval x := ⟨_, rfl⟩
  rw [← hv] at hs
  -- the bounds' run
  have hbd : ∀ (ad : Option Addr) (cap : Nat), l.length ≤ cap → (Instr.sliceBounds true l.length cap (lo.map a.eval) (hi.map a.eval) none).run P w = .ok (a0.toNat, b0.toNat, cap) w := by
    intro ad cap hcap
    have e0 : ((b0.toNat : Nat) : Int) = b0 := Int.toNat_of_nonneg (by omega)
    have e1 : ((a0.toNat : Nat) : Int) = a0 := Int.toNat_of_nonneg h0
    have s1 : ∀ (k : IntKind) (c : BoundsCode), (Instr.sliceBound (.int k b0) cap c).run P w = .ok b0.toNat w := fun k c => run_sliceBound w k b0 cap c (by omega) (by omega)
    have s2 : ∀ (k : IntKind) (c : BoundsCode), (Instr.sliceBound (.int k a0) b0.toNat c).run P w = .ok a0.toNat w := fun k c => run_sliceBound w k a0 _ c (by omega) (by omega)
    rcases bound_run hE ha with ⟨rfl, rfl⟩ | ⟨x1, k1, rfl, hx1⟩ <;> rcases bound_run hE hb with ⟨rfl, rfl⟩ | ⟨x2, k2, rfl, hx2⟩
    · simp [Instr.sliceBounds]
    · simp [Instr.sliceBounds, hx2, s1]
    · have s3 : ∀ (k : IntKind) (c : BoundsCode), (Instr.sliceBound (.int k a0) l.length c).run P w = .ok a0.toNat w := fun k c => run_sliceBound w k a0 _ c (by omega) (by omega)
      simp [Instr.sliceBounds, hx1, s3]
    · simp [Instr.sliceBounds, hx1, hx2, s1, s2]
  rcases hs.slice_inv with ⟨hv', rfl⟩ | ⟨b, off, cap, sz, hv', hc, hbb, hun, hr⟩ | ⟨ad, cap, hv', rfl⟩
  rotate_left 2
  · have ea : a0 = 0 := by simp at h2; omega
    have eb : b0 = 0 := by simp at h2; omega
    subst ea; subst eb
    have := hbd (some ad) cap (Nat.zero_le _)
    simp only [List.length_nil] at this
    refine ⟨.slice (some ad) 0 cap, ?_, by simpa using .sliceE ad cap⟩
    rw [hv] at hv'
    by_cases hc0 : cap = 0
    · subst hc0
      simp [execOp, ho, hv', Instr.sliceAt, run_underlying hut, Instr.slice, this, hsz]
    · simp [execOp, ho, hv', Instr.sliceAt, run_underlying hut, Instr.slice, this, hsz, hc0, Addr.add]
  · have ea : a0 = 0 := by simp at h2; omega
    have eb : b0 = 0 := by simp at h2; omega
    subst ea; subst eb
    have := hbd none 0 (by simp)
    simp only [List.length_nil] at this
    refine ⟨.slice none 0 0, ?_, by simpa using .sliceNil⟩
    rw [hv] at hv'
    simp [execOp, ho, hv', Instr.sliceAt, run_underlying hut, Instr.slice, this, hsz]
  · have := hbd (some ⟨b, off, none⟩) cap hc
    rw [hv] at hv'
    have hfl : flat l = flat (l.take a0.toNat) ++ (flat ((l.drop a0.toNat).take (b0.toNat - a0.toNat)) ++ flat ((l.drop a0.toNat).drop (b0.toNat - a0.toNat))) := by
      rw [← flat_append, List.take_append_drop, ← flat_append, List.take_append_drop]
    have hl : ((l.drop a0.toNat).take (b0.toNat - a0.toNat)).length = b0.toNat - a0.toNat := by simp; omega
    have hu2 : ∀ y, y ∈ (l.drop a0.toNat).take (b0.toNat - a0.toNat) → y.cells.length = j.size := fun y hy => hz y (List.mem_of_mem_drop (List.mem_of_mem_take hy))
    revert hfl hl hu2
    generalize (l.drop a0.toNat).take (b0.toNat - a0.toNat) = m
    intro hfl hl hu2
    by_cases hcap : cap = a0.toNat
    · have he : m = [] := List.eq_nil_of_length_eq_zero (by omega)
      rw [hcap] at this
      refine ⟨.slice (some ⟨b, off, none⟩) (b0.toNat - a0.toNat) (cap - a0.toNat), ?_, ?_⟩
      · simp [execOp, ho, hv', Instr.sliceAt, run_underlying hut, Instr.slice, this, hsz, hcap]
      · rw [← hl]
        refine Rep.slice_mk (sz := j.size) ?_ hu2 (by omega) (by omega)
        rw [he]
        intro o c hc
        simp [flat] at hc
    · refine ⟨.slice (some ⟨b, off + a0.toNat * j.size, none⟩) (b0.toNat - a0.toNat) (cap - a0.toNat), ?_, ?_⟩
      · simp [execOp, ho, hv', Instr.sliceAt, run_underlying hut, Instr.slice, this, hsz, hcap, add_off]
      · rw [← hl]
        refine Rep.slice_mk (sz := j.size) ?_ hu2 (by omega) (by omega)
        have hlen : (flat (l.take a0.toNat)).length = a0.toNat * j.size := by
          rw [flat_length (fun y hy => hz y (List.mem_of_mem_take hy)), List.length_take, Nat.min_eq_left (by omega)]
        intro o c hc
        have := hr (a0.toNat * j.size + o) c (by
          rw [hfl, List.getElem?_append_right (by omega), hlen, Nat.add_sub_cancel_left, List.getElem?_append_left (List.getElem?_eq_some_iff.1 hc).1]
          exact hc)
        rwa [← Nat.add_assoc] at this

theorem ok_slice_str (htt : TtOk P tt) (t : TypeId) (x : Operand) (lo hi : Option Operand) (i : TyI) (hit : tt t = some i) (hu : i.u = .string) (s : ByteArray) (hx : aev env x = .str s)
    (a0 b0 : Int) (ha : abound env 0 lo = some a0) (hb : abound env s.size hi = some b0) (h0 : 0 ≤ a0) (h1 : a0 ≤ b0) (h2 : b0 ≤ s.size) :
    OpOk P w0 env H (.slice t x lo hi none) ty (.str (s.extract a0.toNat b0.toNat)) H := .pure fun G N a w oo hS hE ho hty => by
  have hs := hE.eval x
  rw [hx] at hs
  obtain ⟨hv, hle⟩ := hs.str_inv
  have hut := (htt t i hit).u
  rw [hu] at hut
  have hbd : (Instr.sliceBounds false s.size s.size (lo.map a.eval) (hi.map a.eval) none).run P w = .ok (a0.toNat, b0.toNat, s.size) w := by
    have s1 : ∀ (k : IntKind) (c : BoundsCode), (Instr.sliceBound (.int k b0) s.size c).run P w = .ok b0.toNat w := fun k c => run_sliceBound w k b0 _ c (by omega) (by omega)
    have s2 : ∀ (k : IntKind) (c : BoundsCode), (Instr.sliceBound (.int k a0) b0.toNat c).run P w = .ok a0.toNat w := fun k c => run_sliceBound w k a0 _ c (by omega) (by omega)
    rcases bound_run hE ha with ⟨rfl, rfl⟩ | ⟨x1, k1, rfl, hx1⟩ <;> rcases bound_run hE hb with ⟨rfl, rfl⟩ | ⟨x2, k2, rfl, hx2⟩
    · simp [Instr.sliceBounds]
    · simp [Instr.sliceBounds, hx2, s1]
    · have s3 : ∀ (k : IntKind) (c : BoundsCode), (Instr.sliceBound (.int k a0) s.size c).run P w = .ok a0.toNat w := fun k c => run_sliceBound w k a0 _ c (by omega) (by omega)
      simp [Instr.sliceBounds, hx1, s3]
    · simp [Instr.sliceBounds, hx1, hx2, s1, s2]
  refine ⟨.string (s.extract a0.toNat b0.toNat), ?_, .str _ (by simp; omega)⟩
  simp [execOp, ho, hv, Instr.sliceAt, run_underlying hut, Instr.slice, hbd]
end
end Go.Ai
