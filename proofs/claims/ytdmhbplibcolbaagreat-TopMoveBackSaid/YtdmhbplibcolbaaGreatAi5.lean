/- A part of the proof: no statement of the seat is proved in this text. -/
import Derived.Test.YtdmhbplibcolbaaGreatAi3
set_option linter.unusedVariables false
set_option linter.unusedSimpArgs false
namespace Go.Ai
open Go Go.RowKit
theorem toList_inj {a b : ByteArray} : (a.toList == b.toList) = decide (a = b) := by
  rw [Bool.eq_iff_iff]
  simp only [beq_iff_eq, decide_eq_true_eq]
  constructor
  · intro h
    have h1 : a.data.toList = b.data.toList := by simpa [ByteArray.toList_eq] using h
    cases a; cases b
    simp at h1 ⊢
    exact Array.ext' (by simpa using h1)
  · intro h; rw [h]
def AV.isAgg : AV → Bool
  | .agg _ => true
  | _ => false
def anil (u : TypeDesc) (x y : AV) : Option Bool :=
  match u, x, y with
  | .func _ _ _, .fn _ _, .nilF => some false
  | .func _ _ _, .nilF, .nilF => some true
  | .pointer _, .ptr _ _, .nilP => some false
  | .pointer _, .rptr _, .nilP => some false
  | .pointer _, .nilP, .nilP => some true
  | .slice _, .slice (_ :: _), .nilS => some false
  | .slice _, .own (_ :: _) _, .nilS => some false
  | .slice _, .raw (.slice (some _) _ _), .nilS => some false
  | .slice _, .nilS, .nilS => some true
  | .map _ _, .map _, .nilM => some false
  | .map _ _, .nilM, .nilM => some true
  | _, _, _ => none
def abin (tt : TT) (op : BinOp) (t : TypeId) (x y : AV) : Option AV :=
  match x, y with
  | .int k a, .int k' b => if k = k' then
      match op with
      | .add => some (.int k (k.wrap (a + b)))
      | .sub => some (.int k (k.wrap (a - b)))
      | .mul => some (.int k (k.wrap (a * b)))
      | .eql => some (.bool (decide (a = b)))
      | .neq => some (.bool (!decide (a = b)))
      | .lss => some (.bool (decide (a < b)))
      | .leq => some (.bool (decide (a ≤ b)))
      | .gtr => some (.bool (decide (b < a)))
      | .geq => some (.bool (decide (b ≤ a)))
      | _ => none
    else none
  | .str a, .str b => match op with
    | .eql => some (.bool (decide (a = b)))
    | .neq => some (.bool (!decide (a = b)))
    | .add => if a.size + b.size ≤ 281474976710656 then some (.str (a ++ b)) else none
    | _ => none
  | x, y => match tt t with
    | some i => match anil i.u x y with
      | some b => match op with | .eql => some (.bool b) | .neq => some (.bool (!b)) | _ => none
      | none => match aeqs x.cells y.cells with
        | some b => if i.eqs ≠ [] ∧ x.cells.map AV.kc = i.eqs ∧ x.isAgg = i.agg ∧ y.isAgg = i.agg then
            match op with | .eql => some (.bool b) | .neq => some (.bool (!b)) | _ => none
          else none
        | none => none
    | none => none
section
variable {P : Program} {w0 : World} {tt : TT} {env : Env} {H : AH} {ty : TypeId}
theorem Rep.int_inv {G : Gh} {k : IntKind} {n : Int} {v : Value} (h : Rep G (.int k n) v) : v = .int k n ∧ k.wrap n = n := by cases h with | int _ _ h => exact ⟨rfl, h⟩
theorem Rep.bool_inv {G : Gh} {b : Bool} {v : Value} (h : Rep G (.bool b) v) : v = .bool b := by cases h; rfl
theorem Rep.str_inv {G : Gh} {s : ByteArray} {v : Value} (h : Rep G (.str s) v) : v = .string s ∧ s.size ≤ 281474976710656 := by cases h with | str _ h => exact ⟨rfl, h⟩
theorem Rep.agg_inv {G : Gh} {cs : List AV} {v : Value} (h : Rep G (.agg cs) v) : ∃ vs, v = .agg vs := by cases h with | agg cs vs hl hr => exact ⟨_, rfl⟩
theorem wrap_wrap (k : IntKind) (n : Int) : k.wrap (k.wrap n) = k.wrap n := by
  cases k <;> simp only [IntKind.wrap, IntKind.bits, IntKind.signed] <;> simp <;> (try split) <;> (try split) <;> (try omega)
theorem run_eqGuard_flat {op : BinOp} {t : TypeId} {x y : Operand} {u v : Value} {w : World} (h : (u ≠ .nilIface) ∧ (∀ c, u ≠ .agg c)) : (eqGuard op t x y u v).run P w = .ok () w := by
  unfold eqGuard
  cases op <;> (try rfl) <;> cases u <;> first | rfl | (exact absurd rfl h.1) | (exact absurd rfl (h.2 _))
theorem run_eqGuard_agg {op : BinOp} {t : TypeId} {x y : Operand} {u v : Value} {w : World} (h : P.eqGuardType P.depth t = false) (hu : u ≠ .nilIface) : (eqGuard op t x y u v).run P w = .ok () w := by
  unfold eqGuard
  cases op <;> (try rfl) <;> cases u <;> (try rfl) <;> (try exact absurd rfl hu) <;> cases v <;> first | rfl | (show Sem.run P (if (!P.eqGuardType P.depth t) = true then Pure.pure () else _) w = _; rw [h]; rfl)
theorem exec_binOp {op : BinOp} {t yt : TypeId} {x y : Operand} {a : Act} {w : World} {o : Oper} {r : Value} (ho : o.op = .binOp op t x y yt)
    (hg : (eqGuard op t x y (a.eval x) (a.eval y)).run P w = .ok () w) (hb : (binOp op t (a.eval x) (a.eval y)).run P w = .ok r w) : (execOp a.eval o).run P w = .ok (.value r) w := by
  simp [execOp, ho, hg, hb]
theorem aeq1_scal {x y : AV} {b : Bool} (h : aeq1 x y = some b) : (∃ k m n, x = .int k m ∧ y = .int k n ∧ b = decide (m = n)) ∨ (∃ m n, x = .bool m ∧ y = .bool n ∧ b = (m == n)) ∨ (∃ m n, x = .str m ∧ y = .str n ∧ b = decide (m = n)) := by
  unfold aeq1 at h
  split at h
  · split at h
    · rename_i k a k' b' e; subst e; simp at h; exact .inl ⟨_, _, _, rfl, rfl, h.symm⟩
    · cases h
  · simp at h; exact .inr (.inl ⟨_, _, rfl, rfl, h.symm⟩)
  · simp at h; exact .inr (.inr ⟨_, _, rfl, rfl, h.symm⟩)
  · cases h
theorem binOp_eq {t : TypeId} {u v : Value} {w : World} {b : Bool} (hf : (∀ k n, u ≠ .int k n) ∧ (∀ k n, u ≠ .float k n) ∧ (∀ k n m, u ≠ .complex k n m) ∧ (∀ s, u ≠ .string s)) (h : (Op.equal t u v).run P w = .ok b w) :
    (binOp .eql t u v).run P w = .ok (.bool b) w ∧ (binOp .neq t u v).run P w = .ok (.bool (!b)) w := by
  obtain ⟨h1, h2, h3, h4⟩ := hf
  cases u <;> first | (exact absurd rfl (h1 _ _)) | (exact absurd rfl (h2 _ _)) | (exact absurd rfl (h3 _ _ _)) | (exact absurd rfl (h4 _)) | (constructor <;> simp [binOp, h])
theorem nil_run {t : TypeId} {i : TyI} (ht : TyOk P t i) {G : Gh} {X Y : AV} {u v : Value} {w : World} {b : Bool} (hx : Rep G X u) (hy : Rep G Y v) (h : anil i.u X Y = some b) {op : BinOp} {ox oy : Operand} :
    ((op = .eql → (binOp op t u v).run P w = .ok (.bool b) w) ∧ (op = .neq → (binOp op t u v).run P w = .ok (.bool (!b)) w)) ∧ (eqGuard op t ox oy u v).run P w = .ok () w := by
  have key : (Op.equal t u v).run P w = .ok b w ∧ ((∀ k n, u ≠ .int k n) ∧ (∀ k n, u ≠ .float k n) ∧ (∀ k n m, u ≠ .complex k n m) ∧ (∀ s, u ≠ .string s)) ∧ (u ≠ .nilIface) ∧ (∀ c, u ≠ .agg c) := by
    have hu := ht.u
    unfold anil at h
    unfold Op.equal Op.maxDepth
    rw [show (10000 : Nat) = 9999 + 1 from rfl, Op.equalIn]
    split at h <;> simp at h <;> subst h <;> rename_i hd <;> rw [hd] at hu
    · cases hx; cases hy; refine ⟨by simp [run_underlying hu], by simp, by simp, by simp⟩
    · cases hx; cases hy; refine ⟨by simp [run_underlying hu], by simp, by simp, by simp⟩
    · cases hx; cases hy; refine ⟨by simp [run_underlying hu], by simp, by simp, by simp⟩
    · cases hx; cases hy; refine ⟨by simp [run_underlying hu], by simp, by simp, by simp⟩
    · cases hx; cases hy; refine ⟨by simp [run_underlying hu], by simp, by simp, by simp⟩
    · cases hy
      rcases hx.slice_inv with ⟨_, h⟩ | ⟨b, off, cap, sz, rfl, _⟩ | ⟨_, _, _, h⟩
      · cases h
      · refine ⟨by simp [run_underlying hu], by simp, by simp, by simp⟩
      · cases h
    · cases hy
      rcases (hx.forget : Rep G (.slice _) u).slice_inv with ⟨_, h⟩ | ⟨b, off, cap, sz, rfl, _⟩ | ⟨_, _, _, h⟩
      · cases h
      · refine ⟨by simp [run_underlying hu], by simp, by simp, by simp⟩
      · cases h
    · cases hx; cases hy; refine ⟨by simp [run_underlying hu], by simp, by simp, by simp⟩
    · cases hx; cases hy; refine ⟨by simp [run_underlying hu], by simp, by simp, by simp⟩
    · cases hx; cases hy; refine ⟨by simp [run_underlying hu], by simp, by simp, by simp⟩
    · cases hx; cases hy; refine ⟨by simp [run_underlying hu], by simp, by simp, by simp⟩
  obtain ⟨h1, h2, h3⟩ := key
  exact ⟨⟨fun e => by subst e; exact (binOp_eq h2 h1).1, fun e => by subst e; exact (binOp_eq h2 h1).2⟩, run_eqGuard_flat h3⟩
theorem cellsV {G : Gh} {X Y : AV} {u v : Value} {b g : Bool} (hx : Rep G X u) (hy : Rep G Y v) (h : aeqs X.cells Y.cells = some b) (hX : X.isAgg = g) (hY : Y.isAgg = g) :
    ∃ vs us : List Value, RepL G X.cells vs ∧ RepL G Y.cells us ∧ u = mkV g vs ∧ v = mkV g us := by
  have one : ∀ {Z : AV} {z : Value}, Rep G Z z → Z.isAgg = g → ∃ vs : List Value, RepL G Z.cells vs ∧ z = mkV g vs := by
    intro Z z hz hZ
    cases g
    · have hc : Z.cells = [Z] := by cases Z <;> simp_all [AV.cells, AV.isAgg]
      exact ⟨[z], by rw [hc]; exact .cons hz (.nil _), rfl⟩
    · cases Z <;> simp [AV.isAgg] at hZ
      cases hz with | agg cs vs hl hr => exact ⟨vs, ⟨hl, hr⟩, rfl⟩
  obtain ⟨vs, h1, h2⟩ := one hx hX
  obtain ⟨us, h3, h4⟩ := one hy hY
  exact ⟨vs, us, h1, h3, h2, h4⟩
theorem ok_bin (htt : TtOk P tt) (op : BinOp) (t yt : TypeId) (x y : Operand) (r : AV) (h : abin tt op t (aev env x) (aev env y) = some r) : OpOk P w0 env H (.binOp op t x y yt) ty r H := .pure fun G N a w o hS hE ho ht => by
  have hx := hE.eval x
  have hy := hE.eval y
  revert h hx hy
  generalize aev env x = X
  generalize aev env y = Y
  intro h hx hy
  unfold abin at h
  split at h
  · -- integers
    obtain ⟨e1, w1⟩ := hx.int_inv
    obtain ⟨e2, w2⟩ := hy.int_inv
    split at h
    · rename_i k m k' n ek
      subst ek
      have hg : (eqGuard op t x y (a.eval x) (a.eval y)).run P w = .ok () w := run_eqGuard_flat ⟨by rw [e1]; simp, by rw [e1]; simp⟩
      split at h <;> simp at h <;> subst h
      · exact ⟨_, exec_binOp ho hg (by rw [e1, e2]; simp [binOp, Op.intArith]), .int _ _ (wrap_wrap _ _)⟩
      · exact ⟨_, exec_binOp ho hg (by rw [e1, e2]; simp [binOp, Op.intArith]), .int _ _ (wrap_wrap _ _)⟩
      · exact ⟨_, exec_binOp ho hg (by rw [e1, e2]; simp [binOp, Op.intArith]), .int _ _ (wrap_wrap _ _)⟩
      · exact ⟨.bool (decide (m = n)), exec_binOp ho hg (by rw [e1, e2]; simp [binOp, Op.intCmp]; rfl), .bool _⟩
      · exact ⟨.bool (!decide (m = n)), exec_binOp ho hg (by rw [e1, e2]; simp [binOp, Op.intCmp]; rfl), .bool _⟩
      · exact ⟨.bool (decide (m < n)), exec_binOp ho hg (by rw [e1, e2]; simp [binOp, Op.intCmp]), .bool _⟩
      · exact ⟨.bool (decide (m ≤ n)), exec_binOp ho hg (by rw [e1, e2]; simp [binOp, Op.intCmp]), .bool _⟩
      · exact ⟨.bool (decide (n < m)), exec_binOp ho hg (by rw [e1, e2]; simp [binOp, Op.intCmp]), .bool _⟩
      · exact ⟨.bool (decide (n ≤ m)), exec_binOp ho hg (by rw [e1, e2]; simp [binOp, Op.intCmp]), .bool _⟩
    · cases h
  · -- strings
    obtain ⟨e1, w1⟩ := hx.str_inv
    obtain ⟨e2, w2⟩ := hy.str_inv
    rename_i m n
    have hg : (eqGuard op t x y (a.eval x) (a.eval y)).run P w = .ok () w := run_eqGuard_flat ⟨by rw [e1]; simp, by rw [e1]; simp⟩
    split at h
    · simp at h; subst h
      exact ⟨.bool (decide (m = n)), exec_binOp ho hg (by rw [e1, e2]; simp only [binOp, Op.stringOp, toList_inj]; rfl), .bool _⟩
    · simp at h; subst h
      exact ⟨.bool (!decide (m = n)), exec_binOp ho hg (by rw [e1, e2]; simp only [binOp, Op.stringOp, toList_inj]; rfl), .bool _⟩
    · split at h
      · rename_i hsz
        simp at h; subst h
        refine ⟨.string (m ++ n), exec_binOp ho hg ?_, .str _ (by simpa using hsz)⟩
        rw [e1, e2]
        have : ¬ (((m.size + n.size : Nat) : Int) > IntKind.i64.max) := by simp [IntKind.max, IntKind.signed, IntKind.bits]; omega
        simp only [binOp, Op.stringOp, if_neg this]
        rfl
      · cases h
    · cases h
  · -- all else: against nil, or cell by cell
    split at h
    · rename_i _ _ hni hns _ i hi
      split at h
      · rename_i b hn
        obtain ⟨hrun, hg⟩ := nil_run (htt t i hi) hx hy hn (op := op) (ox := x) (oy := y) (w := w)
        split at h <;> simp at h <;> subst h
        · exact ⟨_, exec_binOp ho hg (hrun.1 rfl), .bool _⟩
        · exact ⟨_, exec_binOp ho hg (hrun.2 rfl), .bool _⟩
      · split at h
        · rename_i b hb
          split at h
          · rename_i hc
            obtain ⟨h1, h2, h3, h4⟩ := hc
            obtain ⟨hgt, heq⟩ := (htt t i hi).eqs h1
            obtain ⟨vs, us, r1, r2, e1, e2⟩ := cellsV hx hy hb h3 h4
            have hr := heq G _ _ _ _ b w hb h2 r1 r2
            rw [← e1, ← e2] at hr
            cases hag : i.agg
            · -- one cell: an integer, a bool or a string
              have hX : X.isAgg = false := by rw [h3, hag]
              have hY : Y.isAgg = false := by rw [h4, hag]
              have hcx : X.cells = [X] := by cases X <;> simp_all [AV.cells, AV.isAgg]
              have hcy : Y.cells = [Y] := by cases Y <;> simp_all [AV.cells, AV.isAgg]
              rw [hcx, hcy] at hb
              have hb1 : ∃ b', aeq1 X Y = some b' := by
                simp only [aeqs] at hb
                cases hq : aeq1 X Y with
                | none => rw [hq] at hb; simp at hb
                | some b' => exact ⟨b', rfl⟩
              obtain ⟨b', hb1⟩ := hb1
              rcases aeq1_scal hb1 with ⟨k, m, n, rfl, rfl, _⟩ | ⟨m, n, rfl, rfl, _⟩ | ⟨m, n, rfl, rfl, _⟩
              · exact (hni _ _ _ _ rfl rfl).elim
              · have ex := hx.bool_inv
                rw [ex] at hr
                have hbo := binOp_eq (t := t) (u := .bool m) (by simp) hr
                have hg : (eqGuard op t x y (a.eval x) (a.eval y)).run P w = .ok () w := run_eqGuard_flat ⟨by rw [ex]; simp, by rw [ex]; simp⟩
                split at h <;> simp at h <;> subst h
                · exact ⟨_, exec_binOp ho hg (by rw [ex]; exact hbo.1), .bool _⟩
                · exact ⟨_, exec_binOp ho hg (by rw [ex]; exact hbo.2), .bool _⟩
              · exact (hns _ _ rfl rfl).elim
            · have hX : X.isAgg = true := by rw [h3, hag]
              have ea : ∃ cs, a.eval x = .agg cs := by
                cases X <;> simp [AV.isAgg] at hX
                exact hx.agg_inv
              obtain ⟨cs, ea⟩ := ea
              rw [ea] at hr
              have hbo := binOp_eq (t := t) (u := .agg cs) (by simp) hr
              have hg : (eqGuard op t x y (a.eval x) (a.eval y)).run P w = .ok () w := run_eqGuard_agg hgt (by rw [ea]; simp)
              split at h <;> simp at h <;> subst h
              · exact ⟨_, exec_binOp ho hg (by rw [ea]; exact hbo.1), .bool _⟩
              · exact ⟨_, exec_binOp ho hg (by rw [ea]; exact hbo.2), .bool _⟩
          · cases h
        · cases h
    · cases h
end
end Go.Ai

set_option linter.unusedVariables false
set_option linter.unusedSimpArgs false
namespace Go.Ai
open Go Go.RowKit
def aun (op : UnOp) (x : AV) : Option AV :=
  match op, x with
  | .not, .bool b => some (.bool (!b))
  | .neg, .int k n => some (.int k (k.wrap (0 - n)))
  | _, _ => none
def byteAt (s : ByteArray) (i : Nat) : Int := ((s.data.toList.getD i 0).toNat : Int)
section
variable {P : Program} {w0 : World} {tt : TT} {env : Env} {H : AH} {ty : TypeId}
theorem ok_un (op : UnOp) (t : TypeId) (x : Operand) (r : AV) (h : aun op (aev env x) = some r) : OpOk P w0 env H (.unOp op t x) ty r H := .pure fun G N a w o hS hE ho ht => by
  have hx := hE.eval x
  revert h hx
  generalize aev env x = X
  intro h hx
  unfold aun at h
  split at h
  · have e := hx.bool_inv
    simp at h; subst h
    exact ⟨_, by simp only [execOp, ho, e, Op.unary]; rfl, .bool _⟩
  · obtain ⟨e, _⟩ := hx.int_inv
    simp only [Option.some.injEq] at h; subst h
    refine ⟨.int _ _, by simp only [execOp, ho, e, Op.unary, Op.intArith]; rfl, ?_⟩
    exact .int _ _ (wrap_wrap _ _)
  · cases h
theorem ok_conv_int (htt : TtOk P tt) (s t : TypeId) (x : Operand) (i j : TyI) (k k' : IntKind) (n : Int) (hs : tt s = some i) (ht : tt t = some j) (hj : j.u = .int k) (hx : aev env x = .int k' n) :
    OpOk P w0 env H (.convert s t x) ty (.int k (k.wrap n)) H := .pure fun G N a w o hS hE ho hty => by
  have hv := hE.eval x
  rw [hx] at hv
  obtain ⟨e, _⟩ := hv.int_inv
  have h1 := (htt s i hs).u
  have h2 := (htt t j ht).u
  rw [hj] at h2
  refine ⟨.int k (k.wrap n), ?_, .int _ _ (wrap_wrap _ _)⟩
  simp [execOp, ho, e, convert, run_underlying h1, run_underlying h2, Conv.intToInt]
theorem fieldAt_run (htt : TtOk P tt) {s : TypeId} {i : TyI} (hi : tt s = some i) {f o z : Nat} {g : Bool} (hf : i.fields[f]? = some (o, z, g)) (b off : Nat) (w : World) :
    (Instr.fieldAt s (.pointer (some ⟨b, off, none⟩)) f).run P w = .ok (.pointer (some ⟨b, off + o, none⟩)) w := by
  obtain ⟨hz, fs, fl, x, d, h1, h2, h3, h4, h5, h6, h7⟩ := (htt s i hi).fields f o z g hf
  have hu := (htt s i hi).u
  rw [h1] at hu
  have hfa : fs[f]? = some fl := h2
  simp [Instr.fieldAt, run_underlying hu, hfa, Instr.sureAddr, fieldPlace, sizeOf, typeInfo, h4, h5, hz, h3, add_off]
theorem ok_fieldAddr_ptr (htt : TtOk P tt) (s : TypeId) (x : Operand) (f : Nat) (i : TyI) (hi : tt s = some i) (id off o z : Nat) (g : Bool) (hx : aev env x = .ptr id off) (hf : i.fields[f]? = some (o, z, g)) :
    OpOk P w0 env H (.fieldAddr s x f) ty (.ptr id (off + o)) H := .pure fun G N a w oo hS hE ho hty => by
  have hp := hE.eval x
  rw [hx] at hp
  obtain ⟨b, hv, hb⟩ := ptr_inv hp
  exact ⟨_, by simp only [execOp, ho, hv, Sem.run_bind, fieldAt_run htt hi hf, Result.andThen_ok]; rfl, .ptr _ _ _ hb⟩
theorem ok_fieldAddr_rptr (htt : TtOk P tt) (s : TypeId) (x : Operand) (f : Nat) (i : TyI) (hi : tt s = some i) (cs : List AV) (o z : Nat) (g : Bool) (hx : aev env x = .rptr cs) (hf : i.fields[f]? = some (o, z, g)) :
    OpOk P w0 env H (.fieldAddr s x f) ty (.rptr (cs.drop o)) H := .pure fun G N a w oo hS hE ho hty => by
  have hp := hE.eval x
  rw [hx] at hp
  obtain ⟨b, off, hv, hb⟩ := hp.rptr_inv
  exact ⟨_, by simp only [execOp, ho, hv, Sem.run_bind, fieldAt_run htt hi hf, Result.andThen_ok]; rfl, .rptr_mk (hb.drop o)⟩
theorem Rep.agg_form {G : Gh} {cs : List AV} {v : Value} (h : Rep G (.agg cs) v) : ∃ vs : List Value, v = .agg vs.toArray ∧ RepL G cs vs := by cases h with | agg cs vs hl hr => exact ⟨vs, rfl, hl, hr⟩
theorem part_run {t : TypeId} {d : TypeDesc} {x : TypeInfo} {z : Nat} {g : Bool} (hg : (match d with | .struct _ | .array _ _ => true | _ => false) = g) (hd : P.underlying t = some d) (hx : P.info? t = some x) (hz : x.size = z) (h0 : 0 < z)
    {vs : List Value} {off : Nat} (hl : off + z ≤ vs.length) (w : World) : (part t vs.toArray off).run P w = .ok (mkV g ((vs.drop off).take z)) w := by
  have ha : (isAgg t).run P w = .ok g w := by
    simp only [isAgg, Sem.run_bind, run_underlying hd, Result.andThen_ok]
    revert hg
    cases d <;> intro h <;> simp at h <;> simp [h]
  simp only [part, Sem.run_bind, ha, Result.andThen_ok]
  cases g
  · have hlt : off < vs.length := by omega
    simp [hlt, mkV]
    match z, h0 with
    | z + 1, _ => rw [List.drop_eq_getElem_cons hlt]; rfl
  · simp [sizeOf, typeInfo, hx, hz, mkV]
theorem ok_field (htt : TtOk P tt) (s : TypeId) (x : Operand) (f : Nat) (i : TyI) (hi : tt s = some i) (cs : List AV) (o z : Nat) (g : Bool) (hx : aev env x = .agg cs) (hf : i.fields[f]? = some (o, z, g)) (hl : o + z ≤ cs.length) :
    OpOk P w0 env H (.field s x f) ty (mkA g ((cs.drop o).take z)) H := .pure fun G N a w oo hS hE ho hty => by
  have hp := hE.eval x
  rw [hx] at hp
  obtain ⟨vs, hv, hr⟩ := hp.agg_form
  obtain ⟨hz, fs, fl, xi, d, h1, h2, h3, h4, h5, h6, h7⟩ := (htt s i hi).fields f o z g hf
  have hu := (htt s i hi).u
  rw [h1] at hu
  refine ⟨mkV g ((vs.drop o).take z), ?_, mk_rep ((hr.drop o).take z) g⟩
  have hpr := part_run (P := P) h7 h6 h4 h5 (by omega) (vs := vs) (off := o) (by rw [← hr.1]; exact hl) w
  subst h3
  simp [execOp, ho, hv, Instr.field, run_underlying hu, h2, asAgg, hpr]
theorem sizeOf_run (htt : TtOk P tt) {t : TypeId} {i : TyI} (hi : tt t = some i) (w : World) : (sizeOf t).run P w = .ok i.size w := by
  obtain ⟨f, z, h1, h2, _⟩ := (htt t i hi).info
  simp [sizeOf, typeInfo, h1, h2]
theorem ok_indexAddr (htt : TtOk P tt) (t : TypeId) (x ix : Operand) (i j : TyI) (e : TypeId) (hi : tt t = some i) (hu : i.u = .slice e) (hj : tt e = some j) (l : List AV) (hx : (aev env x).elems = some l) (k : IntKind) (n : Int)
    (hix : aev env ix = .int k n) (h0 : 0 ≤ n) (y : AV) (hy : l[n.toNat]? = some y) (hz : y.cells.length = j.size) : OpOk P w0 env H (.indexAddr t x ix) ty (.rptr y.cells) H := .pure fun G N a w oo hS hE ho hty => by
  have hs := (hE.eval x).elems hx
  have hn := hE.eval ix
  rw [hix] at hn
  obtain ⟨en, _⟩ := hn.int_inv
  have hlt : n.toNat < l.length := (List.getElem?_eq_some_iff.1 hy).1
  have hut := (htt t i hi).u
  rw [hu] at hut
  rcases hs.slice_inv with ⟨_, rfl⟩ | ⟨b, off, cap, sz, hv, hc, hb, hun, hr⟩ | ⟨_, _, _, rfl⟩
  · simp at hlt
  rotate_left
  · simp at hlt
  · have hsz : sz = j.size := by rw [← hz, hun y (List.mem_of_getElem? hy)]
    subst hsz
    refine ⟨.pointer (some ⟨b, off + n.toNat * j.size, none⟩), ?_, .rptr_mk (hr.elem hun hy)⟩
    have hlt2 : n < (l.length : Int) := by omega
    simp [execOp, ho, hv, en, Instr.indexAt, asIntOf, run_underlying hut, h0, hlt2, sizeOf_run htt hj, add_off]
theorem ok_indexAddr_arr (htt : TtOk P tt) (t : TypeId) (x ix : Operand) (i j : TyI) (m : Nat) (e : TypeId) (hi : tt t = some i) (hu : i.u = .array m e) (hj : tt e = some j) (id off : Nat) (hx : aev env x = .ptr id off) (k : IntKind) (n : Int)
    (hix : aev env ix = .int k n) (h0 : 0 ≤ n) (hm : n < m) : OpOk P w0 env H (.indexAddr t x ix) ty (.ptr id (off + n.toNat * j.size)) H := .pure fun G N a w oo hS hE ho hty => by
  have hp := hE.eval x
  rw [hx] at hp
  obtain ⟨b, hv, hb⟩ := ptr_inv hp
  have hn := hE.eval ix
  rw [hix] at hn
  obtain ⟨en, _⟩ := hn.int_inv
  have hut := (htt t i hi).u
  rw [hu] at hut
  refine ⟨_, ?_, .ptr _ _ _ hb⟩
  simp [execOp, ho, hv, en, Instr.indexAt, asIntOf, run_underlying hut, h0, hm, sizeOf_run htt hj, add_off, Instr.sureAddr]
theorem ok_index_str (htt : TtOk P tt) (t : TypeId) (x ix : Operand) (i : TyI) (hi : tt t = some i) (hu : i.u = .string) (s : ByteArray) (hx : aev env x = .str s) (k : IntKind) (n : Int)
    (hix : aev env ix = .int k n) (h0 : 0 ≤ n) (hm : n < s.size) : OpOk P w0 env H (.index t x ix) ty (.int .u8 (byteAt s n.toNat)) H := .pure fun G N a w oo hS hE ho hty => by
  have hp := hE.eval x
  rw [hx] at hp
  obtain ⟨hv, _⟩ := hp.str_inv
  have hn := hE.eval ix
  rw [hix] at hn
  obtain ⟨en, _⟩ := hn.int_inv
  have hut := (htt t i hi).u
  rw [hu] at hut
  have hlt : n.toNat < s.size := by omega
  have hb : s[n.toNat]? = some (s[n.toNat]'hlt) := by simp [hlt]
  have hval : byteAt s n.toNat = ((s[n.toNat]'hlt).toNat : Int) := by
    unfold byteAt
    have hlt' : n.toNat < s.data.toList.length := by simpa using hlt
    rw [List.getD_eq_getElem?_getD, List.getElem?_eq_getElem hlt']
    simp
    rfl
  refine ⟨.int .u8 (byteAt s n.toNat), ?_, .int _ _ ?_⟩
  · simp only [execOp, ho, hv, en, Instr.index, asIntOf, Sem.run_bind, Sem.run_pure, Result.andThen_ok, run_underlying hut, if_pos h0, hb, hval]
  · rw [hval]
    have := (s[n.toNat]'hlt).toNat_lt
    simp [IntKind.wrap, IntKind.bits, IntKind.signed]
    omega
theorem ok_index_arr (htt : TtOk P tt) (t : TypeId) (x ix : Operand) (i j : TyI) (m : Nat) (e : TypeId) (hi : tt t = some i) (hu : i.u = .array m e) (hj : tt e = some j) (cs : List AV) (hx : aev env x = .agg cs) (k : IntKind) (n : Int)
    (hix : aev env ix = .int k n) (h0 : 0 ≤ n) (hm : n < m) (hl : n.toNat * j.size + j.size ≤ cs.length) (hj0 : 0 < j.size) : OpOk P w0 env H (.index t x ix) ty (mkA j.agg ((cs.drop (n.toNat * j.size)).take j.size)) H := .pure fun G N a w oo hS hE ho hty => by
  have hp := hE.eval x
  rw [hx] at hp
  obtain ⟨vs, hv, hr⟩ := hp.agg_form
  have hn := hE.eval ix
  rw [hix] at hn
  obtain ⟨en, _⟩ := hn.int_inv
  have hut := (htt t i hi).u
  rw [hu] at hut
  obtain ⟨f, z, g1, g2, _⟩ := (htt e j hj).info
  have hpr := part_run (P := P) (htt e j hj).agg (htt e j hj).u g1 g2 hj0 (vs := vs) (off := n.toNat * j.size) (by rw [← hr.1]; exact hl) w
  refine ⟨_, ?_, mk_rep ((hr.drop _).take _) _⟩
  simp [execOp, ho, hv, en, Instr.index, asIntOf, run_underlying hut, h0, hm, sizeOf_run htt hj, hpr]
theorem ok_extract (x : Operand) (n : Nat) (vs : List AV) (hx : aev env x = .tup vs) (y : AV) (hy : vs[n]? = some y) : OpOk P w0 env H (.extract x n) ty y H := .pure fun G N a w oo hS hE ho hty => by
  have hp := hE.eval x
  rw [hx] at hp
  cases hv : a.eval x <;> rw [hv] at hp <;> cases hp
  rename_i us hl hr
  have hlt : n < us.length := by rw [← hl]; exact (List.getElem?_eq_some_iff.1 hy).1
  refine ⟨us[n], by simp [execOp, ho, hv, Instr.extract, hlt], hr n y _ hy (List.getElem?_eq_getElem hlt)⟩
theorem RepL.evals {G : Gh} {N : Nat} {a : Act} (hE : EnvRep G N env a.tmps) (l : List Operand) : RepL G (l.map (aev env)) (l.map a.eval) := by
  induction l with
  | nil => exact .nil _
  | cons x l ih => exact .cons (hE.eval x) ih
theorem ok_makeFunc (f : FuncId) (caps : Array Operand) : OpOk P w0 env H (.makeFunc (.func f) #[] caps) ty (.fn f (caps.toList.map (aev env))) H := .pure fun G N a w oo hS hE ho hty => by
  have h := RepL.evals hE caps.toList
  refine ⟨.func (.func f) #[] (caps.toList.map a.eval).toArray, ?_, .fn _ _ _ h.1 h.2⟩
  simp [execOp, ho, Instr.makeFunc]
  apply Array.ext'
  simp
end
end Go.Ai
