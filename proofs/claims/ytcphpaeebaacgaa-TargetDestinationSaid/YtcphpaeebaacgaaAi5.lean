/- A part of the proof: no statement of the seat is proved in this text. -/
import Derived.Test.YtcphpaeebaacgaaAi4
set_option linter.unusedVariables false
set_option linter.unusedSimpArgs false
namespace Go.Ai
open Go Go.RowKit

theorem toList_inj {a b : ByteArray} : (a.toList == b.toList) = decide (a = b) := by
  rw [Bool.eq_iff_iff]
  simp only [beq_iff_eq, decide_eq_true_eq]
  constructor
  · intro h
    have h1 : a.data.toList = b.data.toList := by simpa [ByteArray.toList_eq] using h
    cases a; cases b
    simp at h1 ⊢
    exact Array.ext' (by simpa using h1)
  · intro h; rw [h]

def AV.isAgg : AV → Bool
  | .agg _ => true
  | _ => false

/-- Held against nil. -/
def anil (u : TypeDesc) (x y : AV) : Option Bool :=
  match u, x, y with
  | .func _ _ _, .fn _ _, .nilF => some false
  | .func _ _ _, .nilF, .nilF => some true
  | .pointer _, .ptr _ _, .nilP => some false
  | .pointer _, .rptr _, .nilP => some false
  | .pointer _, .nilP, .nilP => some true
  | .slice _, .slice (_ :: _), .nilS => some false
  | .slice _, .own (_ :: _) _, .nilS => some false
  | .slice _, .raw (.slice (some _) _ _), .nilS => some false
  | .slice _, .nilS, .nilS => some true
  | .map _ _, .map _, .nilM => some false
  | .map _ _, .nilM, .nilM => some true
  | _, _, _ => none

def abin (tt : TT) (op : BinOp) (t : TypeId) (x y : AV) : Option AV :=
  match x, y with
  | .int k a, .int k' b => if k = k' then
      match op with
      | .add => some (.int k (k.wrap (a + b)))
      | .sub => some (.int k (k.wrap (a - b)))
      | .mul => some (.int k (k.wrap (a * b)))
      | .eql => some (.bool (decide (a = b)))
      | .neq => some (.bool (!decide (a = b)))
      | .lss => some (.bool (decide (a < b)))
      | .leq => some (.bool (decide (a ≤ b)))
      | .gtr => some (.bool (decide (b < a)))
      | .geq => some (.bool (decide (b ≤ a)))
      | _ => none
    else none
  | .str a, .str b => match op with
    | .eql => some (.bool (decide (a = b)))
    | .neq => some (.bool (!decide (a = b)))
    | .add => if a.size + b.size ≤ 281474976710656 then some (.str (a ++ b)) else none
    | _ => none
  | x, y => match tt t with
    | some i => match anil i.u x y with
      | some b => match op with | .eql => some (.bool b) | .neq => some (.bool (!b)) | _ => none
      | none => match aeqs x.cells y.cells with
        | some b => if i.eqs ≠ [] ∧ x.cells.map AV.kc = i.eqs ∧ x.isAgg = i.agg ∧ y.isAgg = i.agg then
            match op with | .eql => some (.bool b) | .neq => some (.bool (!b)) | _ => none
          else none
        | none => none
    | none => none

section
variable {P : Program} {w0 : World} {tt : TT} {env : Env} {H : AH} {ty : TypeId}

theorem Rep.int_inv {G : Gh} {k : IntKind} {n : Int} {v : Value} (h : Rep G (.int k n) v) : v = .int k n ∧ k.wrap n = n := by cases h with | int _ _ h => exact ⟨rfl, h⟩
theorem Rep.bool_inv {G : Gh} {b : Bool} {v : Value} (h : Rep G (.bool b) v) : v = .bool b := by cases h; rfl
theorem Rep.str_inv {G : Gh} {s : ByteArray} {v : Value} (h : Rep G (.str s) v) : v = .string s ∧ s.size ≤ 281474976710656 := by cases h with | str _ h => exact ⟨rfl, h⟩
theorem Rep.agg_inv {G : Gh} {cs : List AV} {v : Value} (h : Rep G (.agg cs) v) : ∃ vs, v = .agg vs := by cases h with | agg cs vs hl hr => exact ⟨_, rfl⟩
theorem wrap_wrap (k : IntKind) (n : Int) : k.wrap (k.wrap n) = k.wrap n := by
  cases k <;> simp only [IntKind.wrap, IntKind.bits, IntKind.signed] <;> simp <;> (try split) <;> (try split) <;> (try omega)

theorem run_eqGuard_flat {op : BinOp} {t : TypeId} {x y : Operand} {u v : Value} {w : World} (h : (u ≠ .nilIface) ∧ (∀ c, u ≠ .agg c)) : (eqGuard op t x y u v).run P w = .ok () w := by
  unfold eqGuard
  cases op <;> (try rfl) <;> cases u <;> first | rfl | (exact absurd rfl h.1) | (exact absurd rfl (h.2 _))
theorem run_eqGuard_agg {op : BinOp} {t : TypeId} {x y : Operand} {u v : Value} {w : World} (h : P.eqGuardType P.depth t = false) (hu : u ≠ .nilIface) : (eqGuard op t x y u v).run P w = .ok () w := by
  unfold eqGuard
  cases op <;> (try rfl) <;> cases u <;> (try rfl) <;> (try exact absurd rfl hu) <;> cases v <;> first | rfl | (show Sem.run P (if (!P.eqGuardType P.depth t) = true then Pure.pure () else _) w = _; rw [h]; rfl)

theorem exec_binOp {op : BinOp} {t yt : TypeId} {x y : Operand} {a : Act} {w : World} {o : Oper} {r : Value} (ho : o.op = .binOp op t x y yt)
    (hg : (eqGuard op t x y (a.eval x) (a.eval y)).run P w = .ok () w) (hb : (binOp op t (a.eval x) (a.eval y)).run P w = .ok r w) : (execOp a.eval o).run P w = .ok (.value r) w := by
  simp [execOp, ho, hg, hb]

theorem aeq1_scal {x y : AV} {b : Bool} (h : aeq1 x y = some b) : (∃ k m n, x = .int k m ∧ y = .int k n ∧ b = decide (m = n)) ∨ (∃ m n, x = .bool m ∧ y = .bool n ∧ b = (m == n)) ∨ (∃ m n, x = .str m ∧ y = .str n ∧ b = decide (m = n)) := by
  unfold aeq1 at h
  split at h
  · split at h
    · rename_i k a k' b' e; subst e; simp at h; exact .inl ⟨_, _, _, rfl, rfl, h.symm⟩
    · cases h
  · simp at h; exact .inr (.inl ⟨_, _, rfl, rfl, h.symm⟩)
  · simp at h; exact .inr (.inr ⟨_, _, rfl, rfl, h.symm⟩)
  · cases h

theorem binOp_eq {t : TypeId} {u v : Value} {w : World} {b : Bool} (hf : (∀ k n, u ≠ .int k n) ∧ (∀ k n, u ≠ .float k n) ∧ (∀ k n m, u ≠ .complex k n m) ∧ (∀ s, u ≠ .string s)) (h : (Op.equal t u v).run P w = .ok b w) :
    (binOp .eql t u v).run P w = .ok (.bool b) w ∧ (binOp .neq t u v).run P w = .ok (.bool (!b)) w := by
  obtain ⟨h1, h2, h3, h4⟩ := hf
  cases u <;> first | (exact absurd rfl (h1 _ _)) | (exact absurd rfl (h2 _ _)) | (exact absurd rfl (h3 _ _ _)) | (exact absurd rfl (h4 _)) | (constructor <;> simp [binOp, h])

theorem nil_run {t : TypeId} {i : TyI} (ht : TyOk P t i) {G : Gh} {X Y : AV} {u v : Value} {w : World} {b : Bool} (hx : Rep G X u) (hy : Rep G Y v) (h : anil i.u X Y = some b) {op : BinOp} {ox oy : Operand} :
    ((op = .eql → (binOp op t u v).run P w = .ok (.bool b) w) ∧ (op = .neq → (binOp op t u v).run P w = .ok (.bool (!b)) w)) ∧ (eqGuard op t ox oy u v).run P w = .ok () w := by
  have key : (Op.equal t u v).run P w = .ok b w ∧ ((∀ k n, u ≠ .int k n) ∧ (∀ k n, u ≠ .float k n) ∧ (∀ k n m, u ≠ .complex k n m) ∧ (∀ s, u ≠ .string s)) ∧ (u ≠ .nilIface) ∧ (∀ c, u ≠ .agg c) := by
    have hu := ht.u
    unfold anil at h
    unfold Op.equal Op.maxDepth
    rw [show (10000 : Nat) = 9999 + 1 from rfl, Op.equalIn]
    split at h <;> simp at h <;> subst h <;> rename_i hd <;> rw [hd] at hu
    · cases hx; cases hy; refine ⟨by simp [run_underlying hu], by simp, by simp, by simp⟩
    · cases hx; cases hy; refine ⟨by simp [run_underlying hu], by simp, by simp, by simp⟩
    · cases hx; cases hy; refine ⟨by simp [run_underlying hu], by simp, by simp, by simp⟩
    · cases hx; cases hy; refine ⟨by simp [run_underlying hu], by simp, by simp, by simp⟩
    · cases hx; cases hy; refine ⟨by simp [run_underlying hu], by simp, by simp, by simp⟩
    · cases hy
      rcases hx.slice_inv with ⟨_, h⟩ | ⟨b, off, cap, sz, rfl, _⟩ | ⟨_, _, _, h⟩
      · cases h
      · refine ⟨by simp [run_underlying hu], by simp, by simp, by simp⟩
      · cases h
    · cases hy
      rcases (hx.forget : Rep G (.slice _) u).slice_inv with ⟨_, h⟩ | ⟨b, off, cap, sz, rfl, _⟩ | ⟨_, _, _, h⟩
      · cases h
      · refine ⟨by simp [run_underlying hu], by simp, by simp, by simp⟩
      · cases h
    · cases hx; cases hy; refine ⟨by simp [run_underlying hu], by simp, by simp, by simp⟩
    · cases hx; cases hy; refine ⟨by simp [run_underlying hu], by simp, by simp, by simp⟩
    · cases hx; cases hy; refine ⟨by simp [run_underlying hu], by simp, by simp, by simp⟩
    · cases hx; cases hy; refine ⟨by simp [run_underlying hu], by simp, by simp, by simp⟩
  obtain ⟨h1, h2, h3⟩ := key
  exact ⟨⟨fun e => by subst e; exact (binOp_eq h2 h1).1, fun e => by subst e; exact (binOp_eq h2 h1).2⟩, run_eqGuard_flat h3⟩

/-- The cells of two values that are held against each other. -/
theorem cellsV {G : Gh} {X Y : AV} {u v : Value} {b g : Bool} (hx : Rep G X u) (hy : Rep G Y v) (h : aeqs X.cells Y.cells = some b) (hX : X.isAgg = g) (hY : Y.isAgg = g) :
    ∃ vs us : List Value, RepL G X.cells vs ∧ RepL G Y.cells us ∧ u = mkV g vs ∧ v = mkV g us := by
  have one : ∀ {Z : AV} {z : Value}, Rep G Z z → Z.isAgg = g → ∃ vs : List Value, RepL G Z.cells vs ∧ z = mkV g vs := by
    intro Z z hz hZ
    cases g
    · have hc : Z.cells = [Z] := by cases Z <;> simp_all [AV.cells, AV.isAgg]
      exact ⟨[z], by rw [hc]; exact .cons hz (.nil _), rfl⟩
    · cases Z <;> simp [AV.isAgg] at hZ
      cases hz with | agg cs vs hl hr => exact ⟨vs, ⟨hl, hr⟩, rfl⟩
  obtain ⟨vs, h1, h2⟩ := one hx hX
  obtain ⟨us, h3, h4⟩ := one hy hY
  exact ⟨vs, us, h1, h3, h2, h4⟩

theorem ok_bin (htt : TtOk P tt) (op : BinOp) (t yt : TypeId) (x y : Operand) (r : AV) (h : abin tt op t (aev env x) (aev env y) = some r) : OpOk P w0 env H (.binOp op t x y yt) ty r H := .pure fun G N a w o hS hE ho ht => by
  have hx := hE.eval x
  have hy := hE.eval y
  revert h hx hy
  generalize aev env x = X
  generalize aev env y = Y
  intro h hx hy
  unfold abin at h
  split at h
  · -- integers
    obtain ⟨e1, w1⟩ := hx.int_inv
    obtain ⟨e2, w2⟩ := hy.int_inv
    split at h
    · rename_i k m k' n ek
      subst ek
      have hg : (eqGuard op t x y (a.eval x) (a.eval y)).run P w = .ok () w := run_eqGuard_flat ⟨by rw [e1]; simp, by rw [e1]; simp⟩
      split at h <;> simp at h <;> subst h
      · exact ⟨_, exec_binOp ho hg (by rw [e1, e2]; simp [binOp, Op.intArith]), .int _ _ (wrap_wrap _ _)⟩
      · exact ⟨_, exec_binOp ho hg (by rw [e1, e2]; simp [binOp, Op.intArith]), .int _ _ (wrap_wrap _ _)⟩
      · exact ⟨_, exec_binOp ho hg (by rw [e1, e2]; simp [binOp, Op.intArith]), .int _ _ (wrap_wrap _ _)⟩
      · exact ⟨.bool (decide (m = n)), exec_binOp ho hg (by rw [e1, e2]; simp [binOp, Op.intCmp]; rfl), .bool _⟩
      · exact ⟨.bool (!decide (m = n)), exec_binOp ho hg (by rw [e1, e2]; simp [binOp, Op.intCmp]; rfl), .bool _⟩
      · exact ⟨.bool (decide (m < n)), exec_binOp ho hg (by rw [e1, e2]; simp [binOp, Op.intCmp]), .bool _⟩
      · exact ⟨.bool (decide (m ≤ n)), exec_binOp ho hg (by rw [e1, e2]; simp [binOp, Op.intCmp]), .bool _⟩
      · exact ⟨.bool (decide (n < m)), exec_binOp ho hg (by rw [e1, e2]; simp [binOp, Op.intCmp]), .bool _⟩
      · exact ⟨.bool (decide (n ≤ m)), exec_binOp ho hg (by rw [e1, e2]; simp [binOp, Op.intCmp]), .bool _⟩
    · cases h
  · -- strings
    obtain ⟨e1, w1⟩ := hx.str_inv
    obtain ⟨e2, w2⟩ := hy.str_inv
    rename_i m n
    have hg : (eqGuard op t x y (a.eval x) (a.eval y)).run P w = .ok () w := run_eqGuard_flat ⟨by rw [e1]; simp, by rw [e1]; simp⟩
    split at h
    · simp at h; subst h
      exact ⟨.bool (decide (m = n)), exec_binOp ho hg (by rw [e1, e2]; simp only [binOp, Op.stringOp, toList_inj]; rfl), .bool _⟩
    · simp at h; subst h
      exact ⟨.bool (!decide (m = n)), exec_binOp ho hg (by rw [e1, e2]; simp only [binOp, Op.stringOp, toList_inj]; rfl), .bool _⟩
    · split at h
      · rename_i hsz
        simp at h; subst h
        refine ⟨.string (m ++ n), exec_binOp ho hg ?_, .str _ (by simpa using hsz)⟩
        rw [e1, e2]
        have : ¬ (((m.size + n.size : Nat) : Int) > IntKind.i64.max) := by simp [IntKind.max, IntKind.signed, IntKind.bits]; omega
        simp only [binOp, Op.stringOp, if_neg this]
        rfl
      · cases h
    · cases h
  · -- all else: against nil, or cell by cell
    split at h
    · rename_i _ _ hni hns _ i hi
      split at h
      · rename_i b hn
        obtain ⟨hrun, hg⟩ := nil_run (htt t i hi) hx hy hn (op := op) (ox := x) (oy := y) (w := w)
        split at h <;> simp at h <;> subst h
        · exact ⟨_, exec_binOp ho hg (hrun.1 rfl), .bool _⟩
        · exact ⟨_, exec_binOp ho hg (hrun.2 rfl), .bool _⟩
      · split at h
        · rename_i b hb
          split at h
          · rename_i hc
            obtain ⟨h1, h2, h3, h4⟩ := hc
            obtain ⟨hgt, heq⟩ := (htt t i hi).eqs h1
            obtain ⟨vs, us, r1, r2, e1, e2⟩ := cellsV hx hy hb h3 h4
            have hr := heq G _ _ _ _ b w hb h2 r1 r2
            rw [← e1, ← e2] at hr
            cases hag : i.agg
            · -- one cell: an integer, a bool or a string
              have hX : X.isAgg = false := by rw [h3, hag]
              have hY : Y.isAgg = false := by rw [h4, hag]
              have hcx : X.cells = [X] := by cases X <;> simp_all [AV.cells, AV.isAgg]
              have hcy : Y.cells = [Y] := by cases Y <;> simp_all [AV.cells, AV.isAgg]
              rw [hcx, hcy] at hb
              have hb1 : ∃ b', aeq1 X Y = some b' := by
                simp only [aeqs] at hb
                cases hq : aeq1 X Y with
                | none => rw [hq] at hb; simp at hb
                | some b' => exact ⟨b', rfl⟩
              obtain ⟨b', hb1⟩ := hb1
              rcases aeq1_scal hb1 with ⟨k, m, n, rfl, rfl, _⟩ | ⟨m, n, rfl, rfl, _⟩ | ⟨m, n, rfl, rfl, _⟩
              · exact (hni _ _ _ _ rfl rfl).elim
              · have ex := hx.bool_inv
                rw [ex] at hr
                have hbo := binOp_eq (t := t) (u := .bool m) (by simp) hr
                have hg : (eqGuard op t x y (a.eval x) (a.eval y)).run P w = .ok () w := run_eqGuard_flat ⟨by rw [ex]; simp, by rw [ex]; simp⟩
                split at h <;> simp at h <;> subst h
                · exact ⟨_, exec_binOp ho hg (by rw [ex]; exact hbo.1), .bool _⟩
                · exact ⟨_, exec_binOp ho hg (by rw [ex]; exact hbo.2), .bool _⟩
              · exact (hns _ _ rfl rfl).elim
            · have hX : X.isAgg = true := by rw [h3, hag]
              have ea : ∃ cs, a.eval x = .agg cs := by
                cases X <;> simp [AV.isAgg] at hX
                exact hx.agg_inv
              obtain ⟨cs, ea⟩ := ea
              rw [ea] at hr
              have hbo := binOp_eq (t := t) (u := .agg cs) (by simp) hr
              have hg : (eqGuard op t x y (a.eval x) (a.eval y)).run P w = .ok () w := run_eqGuard_agg hgt (by rw [ea]; simp)
              split at h <;> simp at h <;> subst h
              · exact ⟨_, exec_binOp ho hg (by rw [ea]; exact hbo.1), .bool _⟩
              · exact ⟨_, exec_binOp ho hg (by rw [ea]; exact hbo.2), .bool _⟩
          · cases h
        · cases h
    · cases h
end
end Go.Ai
