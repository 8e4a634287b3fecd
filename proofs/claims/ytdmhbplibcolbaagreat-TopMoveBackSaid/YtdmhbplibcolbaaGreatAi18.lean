/- A part of the proof: no statement of the seat is proved in this text. -/
import Derived.Test.YtdmhbplibcolbaaGreatAi17
set_option linter.unusedVariables false
set_option linter.unusedSimpArgs false
namespace Go.Ai
open Go Go.RowKit
attribute [go_sem] tlook Touch.indep
abbrev TL := List (Nat × Touch)
def dstepC (d : Option Nat) (T : TL) (env : Env) (K : KT) (v : AV) (H : AH) : Prop := K T (eput d v env) H
@[go_sem] theorem dstepC_eq (d : Option Nat) (T : TL) (env : Env) (K : KT) (v : AV) (H : AH) : dstepC d T env K v H = K T (eput d v env) H := tr rfl
def dvalC (d : Option Nat) (T : TL) (env : Env) (K : KT) (H : AH) (v : AV) : Prop := K T (eput d v env) H
@[go_sem] theorem dvalC_eq (d : Option Nat) (T : TL) (env : Env) (K : KT) (v : AV) (H : AH) : dvalC d T env K H v = K T (eput d v env) H := tr rfl
@[go_sem] theorem touchRd_ptr (i id off : Nat) (T : TL) : touchRd i (.ptr id off) T = (i, .rd id) :: T := rfl
@[go_sem] theorem touchRd_rptr (i : Nat) (cs : List AV) (T : TL) : touchRd i (.rptr cs) T = T := rfl
@[go_sem] theorem touchWr_ptr (i id off : Nat) (T : TL) : touchWr i (.ptr id off) T = (i, .wr id) :: T := rfl
@[go_sem] theorem touchAp_own (i t m : Nat) (l : List AV) (T : TL) : touchAp i (.own l t) m T = (i, .tw t) :: T := rfl
@[go_sem] theorem touchAp_nil (i m : Nat) (T : TL) : touchAp i .nilS m T = (i, .ta m) :: T := rfl
@[go_sem] theorem touchAp_lit (i m : Nat) (l : List AV) (T : TL) : touchAp i (.lit l) m T = T := rfl
@[go_sem] theorem dclear_nil (T : TL) : dclear T [] = True := rfl
@[go_sem] theorem dclear_cons (T : TL) (i j : Nat) (r : List (Nat × Nat)) : dclear T ((j, i) :: r) = ((tlook j T).indep (tlook i T) ∧ dclear T r) := tr rfl
def dendC (ps : List (Nat × Nat)) (K : KE) (T : TL) (env : Env) (H : AH) : Prop := dclear T ps ∧ K env H
@[go_sem] theorem dendC_eq (ps : List (Nat × Nat)) (K : KE) (T : TL) (env : Env) (H : AH) : dendC ps K T env H = (dclear T ps ∧ K env H) := tr rfl
theorem PCalls.of {P : Program} {w0 : World} {f : FuncId} {args : List AV} {K : AV → Prop} {r : AV} (h : ∀ H, ACalls P w0 f args H fun r' H' => r' = r ∧ H' = H) (k : K r) : PCalls P w0 f args K := ⟨r, h, k⟩
def pvC (P : Program) (w0 : World) (x : AV) (args : List AV) (K : AV → Prop) : Prop := withFn x fun f caps => PCalls P w0 f (args ++ caps) K
@[go_sem] theorem pvC_fn (P : Program) (w0 : World) (f : FuncId) (caps args : List AV) (K : AV → Prop) : pvC P w0 (.fn f caps) args K = PCalls P w0 f (args ++ caps) K := tr rfl
section
variable (P : Program) (w0 : World) (tt : TT) (N : Nat)
def drunC (i : Nat) (l : List XOp) (K : KT) (T : TL) (env : Env) (H : AH) : Prop := drun P w0 tt i l T env H K
def dexC (i : Nat) (xo : XO) (d : Option Nat) (K : KT) (T : TL) (env : Env) (H : AH) : Prop := dexec P w0 tt i T xo d env H K
def dguardC (i : Nat) (xo : XO) (d : Option Nat) (k : Nat) (b : Bool) (l : List XOp) (K : KT) (T : TL) (env : Env) (H : AH) (c : Bool) : Prop :=
  aguard c b (dexC P w0 tt i xo d (drunC P w0 tt (i + 1) l K) T ((k, .bool b) :: env) H) (drunC P w0 tt (i + 1) l K T (eput d (.tup []) ((k, .bool (!b)) :: env)) H)
def dgrdC (v : AV) (i : Nat) (xo : XO) (d : Option Nat) (k : Nat) (b : Bool) (l : List XOp) (K : KT) (T : TL) (env : Env) (H : AH) : Prop := withGuard v (dguardC P w0 tt i xo d k b l K T env H) (drunC P w0 tt (i + 1) l K T (eput d (.tup []) env) H)
theorem awp_draw {l : List XOp} {af : List (List Nat)} {ps : List (Nat × Nat)} (h0 : dtail l = false) (h1 : dcheck l af = true) (h2 : dpairs2 l af = ps) (h3 : P.follows .mixedOrders = true) (env : Env) (H : AH) (Q : APost) :
    awpC P w0 tt N (.draw l af) Q env H = drunC P w0 tt 0 l (dendC ps (Q .normal)) [] env H := by
  subst h2
  show (if dtail l = true then _ else (dcheck l af = true ∧ P.follows .mixedOrders = true) ∧ _) = _
  rw [if_neg (by rw [h0]; simp), h1, h3]
  simp only [true_and]
  rfl
def dtailC (ps : List (Nat × Nat)) (d p s z n x q : Nat) (e : TypeId) (j : TyI) (K : KE) (T : TL) (env : Env) (H : AH) : Prop := dclear T ps ∧ TailK d p s z n x q e j env H K
@[go_sem] theorem dtailC_eq (ps : List (Nat × Nat)) (d p s z n x q : Nat) (e : TypeId) (j : TyI) (K : KE) (T : TL) (env : Env) (H : AH) : dtailC ps d p s z n x q e j K T env H = (dclear T ps ∧ TailK d p s z n x q e j env H K) := tr rfl
theorem awp_drawE (htt : TtOk P tt) (h3 : P.follows .mixedOrders = true) {l lp : List XOp} {af : List (List Nat)} {ps : List (Nat × Nat)} {d p s z n x q : Nat} {t e : TypeId} {i j : TyI} (hl : l = lp ++ tends d p s z n x q t e) (h0 : dtail l = true)
    (h1 : dcheck lp (af.take lp.length) = true) (hta : tafter lp.length af = true) (hne : tne d p n x q = true) (h2 : dpairs lp (af.take lp.length) = ps) (hi : tt t = some i) (hu : i.u = .slice e) (hj : tt e = some j) (hi1 : i.size = 1) (hj0 : 0 < j.size)
    (env : Env) (H : AH) (Q : APost) (h : drunC P w0 tt 0 lp (dtailC ps d p s z n x q e j (Q .normal)) [] env H) : awpC P w0 tt N (.draw l af) Q env H := by
  show (if dtail l = true then _ else _)
  rw [if_pos h0]
  subst hl; subst h2
  exact AX.drawE htt h3 h1 hta hne hi hu hj hi1 hj0 h
@[go_sem] theorem drun_nil (i : Nat) (T : TL) (env : Env) (H : AH) (K : KT) : drunC P w0 tt i [] K T env H = K T env H := tr rfl
@[go_sem] theorem drun_none (i : Nat) (d : Option Nat) (xo : XO) (l : List XOp) (T : TL) (env : Env) (H : AH) (K : KT) : drunC P w0 tt i (⟨d, xo, none⟩ :: l) K T env H = dexC P w0 tt i xo d (drunC P w0 tt (i + 1) l K) T env H := tr rfl
@[go_sem] theorem drun_some (i : Nat) (d : Option Nat) (xo : XO) (k : Nat) (b : Bool) (l : List XOp) (T : TL) (env : Env) (H : AH) (K : KT) : drunC P w0 tt i (⟨d, xo, some (some k, b)⟩ :: l) K T env H = dgrdC P w0 tt (look k env) i xo d k b l K T env H := tr rfl
@[go_sem] theorem dgrdC_un (i : Nat) (d : Option Nat) (xo : XO) (k : Nat) (b : Bool) (l : List XOp) (T : TL) (env : Env) (H : AH) (K : KT) : dgrdC P w0 tt (.tup []) i xo d k b l K T env H = drunC P w0 tt (i + 1) l K T (eput d (.tup []) env) H := by simp [dgrdC, withGuard]
@[go_sem] theorem dgrdC_tt (i : Nat) (d : Option Nat) (xo : XO) (k : Nat) (l : List XOp) (T : TL) (env : Env) (H : AH) (K : KT) : dgrdC P w0 tt (.bool true) i xo d k true l K T env H = dexC P w0 tt i xo d (drunC P w0 tt (i + 1) l K) T ((k, .bool true) :: env) H := by simp [dgrdC, withGuard, dguardC, aguard]
@[go_sem] theorem dgrdC_ff (i : Nat) (d : Option Nat) (xo : XO) (k : Nat) (l : List XOp) (T : TL) (env : Env) (H : AH) (K : KT) : dgrdC P w0 tt (.bool false) i xo d k false l K T env H = dexC P w0 tt i xo d (drunC P w0 tt (i + 1) l K) T ((k, .bool false) :: env) H := by simp [dgrdC, withGuard, dguardC, aguard]
@[go_sem] theorem dgrdC_tf (i : Nat) (d : Option Nat) (xo : XO) (k : Nat) (l : List XOp) (T : TL) (env : Env) (H : AH) (K : KT) : dgrdC P w0 tt (.bool true) i xo d k false l K T env H = drunC P w0 tt (i + 1) l K T (eput d (.tup []) ((k, .bool true) :: env)) H := by simp [dgrdC, withGuard, dguardC, aguard]
@[go_sem] theorem dgrdC_ft (i : Nat) (d : Option Nat) (xo : XO) (k : Nat) (l : List XOp) (T : TL) (env : Env) (H : AH) (K : KT) : dgrdC P w0 tt (.bool false) i xo d k true l K T env H = drunC P w0 tt (i + 1) l K T (eput d (.tup []) ((k, .bool false) :: env)) H := by simp [dgrdC, withGuard, dguardC, aguard]
@[go_sem low] theorem dgrdC_t (c : Bool) (i : Nat) (d : Option Nat) (xo : XO) (k : Nat) (l : List XOp) (T : TL) (env : Env) (H : AH) (K : KT) : dgrdC P w0 tt (.bool c) i xo d k true l K T env H =
  ((c = true → dexC P w0 tt i xo d (drunC P w0 tt (i + 1) l K) T ((k, .bool true) :: env) H) ∧ (c = false → drunC P w0 tt (i + 1) l K T (eput d (.tup []) ((k, .bool false) :: env)) H)) := by simp [dgrdC, withGuard, dguardC, aguard]
@[go_sem low] theorem dgrdC_f (c : Bool) (i : Nat) (d : Option Nat) (xo : XO) (k : Nat) (l : List XOp) (T : TL) (env : Env) (H : AH) (K : KT) : dgrdC P w0 tt (.bool c) i xo d k false l K T env H =
  ((c = false → dexC P w0 tt i xo d (drunC P w0 tt (i + 1) l K) T ((k, .bool false) :: env) H) ∧ (c = true → drunC P w0 tt (i + 1) l K T (eput d (.tup []) ((k, .bool true) :: env)) H)) := by simp [dgrdC, withGuard, dguardC, aguard]
variable (i : Nat) (d : Option Nat) (T : TL) (env : Env) (H : AH) (K : KT)
@[go_sem] theorem dexec_call (f : FuncId) (args : List Operand) : dexC P w0 tt i (.call f args) d K T env H = PCalls P w0 f (args.map (aev env)) (dvalC d T env K H) := tr rfl
@[go_sem] theorem dexec_callv (x : Operand) (args : List Operand) : dexC P w0 tt i (.callv x args) d K T env H = pvC P w0 (aev env x) (args.map (aev env)) (dvalC d T env K H) := tr rfl
@[go_sem] theorem dexec_move (x : Operand) : dexC P w0 tt i (.move x) d K T env H = dstepC d T env K (aev env x) H := tr rfl
@[go_sem] theorem dexec_pick (c a b : Operand) : dexC P w0 tt i (.pick c a b) d K T env H = pickC (aev env c) (aev env a) (aev env b) (dstepC d T env K) H := tr rfl
@[go_sem] theorem dexec_alloc (e : TypeId) : dexC P w0 tt i (.alloc e) d K T env H = allocC e (tt e) (dstepC d ((i, .al H.n) :: T) env K) H := tr rfl
@[go_sem] theorem dexec_box (e : TypeId) (x : Operand) : dexC P w0 tt i (.box e x) d K T env H = boxC e (aev env x).cells (dstepC d ((i, .al H.n) :: T) env K) H := tr rfl
@[go_sem] theorem dexec_load (t : TypeId) (a : Operand) : dexC P w0 tt i (.load t a) d K T env H = loadC (tt t) (aev env a) (dstepC d (touchRd i (aev env a) T) env K) H := tr rfl
@[go_sem] theorem dexec_store (t : TypeId) (a x : Operand) : dexC P w0 tt i (.store t a x) d K T env H = storeC (tt t) (aev env a) (aev env x).cells (dstepC d (touchWr i (aev env a) T) env K) H := tr rfl
@[go_sem] theorem dexec_bin (op : BinOp) (t : TypeId) (x y : Operand) : dexC P w0 tt i (.bin op t x y) d K T env H = valC (abin tt op t (aev env x) (aev env y)) (dstepC d T env K) H := tr rfl
@[go_sem] theorem dexec_un (op : UnOp) (x : Operand) : dexC P w0 tt i (.un op x) d K T env H = valC (aun op (aev env x)) (dstepC d T env K) H := tr rfl
@[go_sem] theorem dexec_conv (s t : TypeId) (x : Operand) : dexC P w0 tt i (.conv s t x) d K T env H = convC (tt s) (tt t) (aev env x) (dstepC d T env K) H := tr rfl
@[go_sem] theorem dexec_fieldAddr (s : TypeId) (x : Operand) (f : Nat) : dexC P w0 tt i (.fieldAddr s x f) d K T env H = faC (tt s) f (aev env x) (dstepC d T env K) H := tr rfl
@[go_sem] theorem dexec_field (s : TypeId) (x : Operand) (f : Nat) : dexC P w0 tt i (.field s x f) d K T env H = fiC (tt s) f (aev env x).isAgg (aev env x).cells (dstepC d T env K) H := tr rfl
@[go_sem] theorem dexec_indexAddr (t : TypeId) (x ix : Operand) : dexC P w0 tt i (.indexAddr t x ix) d K T env H = iaC tt (tt t) (aev env x) (aev env ix) (dstepC d T env K) H := tr rfl
@[go_sem] theorem dexec_index (t : TypeId) (x ix : Operand) : dexC P w0 tt i (.index t x ix) d K T env H = ixC tt (tt t) (aev env x) (aev env ix) (dstepC d T env K) H := tr rfl
@[go_sem] theorem dexec_slice (t : TypeId) (x : Operand) (lo hi : Option Operand) : dexC P w0 tt i (.slice t x lo hi) d K T env H = slC tt (tt t) (aev env x) lo hi env (dstepC d T env K) H := tr rfl
@[go_sem] theorem dexec_extract (x : Operand) (n : Nat) : dexC P w0 tt i (.extract x n) d K T env H = extC (aev env x) n (dstepC d T env K) H := tr rfl
@[go_sem] theorem dexec_mkfn (f : FuncId) (caps : List Operand) : dexC P w0 tt i (.mkfn f caps) d K T env H = dstepC d T env K (.fn f (caps.map (aev env))) H := tr rfl
@[go_sem] theorem dexec_empty (t : TypeId) : dexC P w0 tt i (.empty t) d K T env H = bsoC tt (tt t) 0 [] [] (dstepC d ((i, .ta H.m) :: T) env K) H := tr rfl
@[go_sem] theorem dexec_buildSlice (t : TypeId) (n : Nat) (ps : List (Nat × Operand)) : dexC P w0 tt i (.buildSlice t n ps) d K T env H = bsC tt (tt t) n (ps.map (·.1)) (ps.map fun p => aev env p.2) (dstepC d T env K) H := tr rfl
@[go_sem] theorem dexec_build (t : TypeId) (ps : List (Nat × Operand)) : dexC P w0 tt i (.build t ps) d K T env H = buC tt (tt t) (ps.map fun p => (p.1, aev env p.2)) (dstepC d T env K) H := tr rfl
@[go_sem] theorem dexec_len (t : TypeId) (x : Operand) : dexC P w0 tt i (.len t x) d K T env H = lnC (tt t) (aev env x) (dstepC d T env K) H := tr rfl
@[go_sem] theorem dexec_max (x y : Operand) : dexC P w0 tt i (.max x y) d K T env H = mxC (aev env x) (aev env y) (dstepC d T env K) H := tr rfl
@[go_sem] theorem dexec_append (t : TypeId) (x y : Operand) : dexC P w0 tt i (.append t x y) d K T env H = apC tt (tt t) (aev env x) (aev env y) (dstepC d (touchAp i (aev env x) H.m T) env K) H := tr rfl
end
end Go.Ai
