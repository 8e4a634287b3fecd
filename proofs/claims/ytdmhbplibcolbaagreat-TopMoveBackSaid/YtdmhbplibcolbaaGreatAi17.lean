/- A part of the proof: no statement of the seat is proved in this text. -/
import Derived.Test.YtdmhbplibcolbaaGreatAi15
set_option linter.unusedVariables false
set_option linter.unusedSimpArgs false
namespace Go.Ai
open Go Go.RowKit
attribute [go_sem] enumF aev look eput aun apick ares ares1 aresL abound afill anil aeqs aeq1 AV.elems AV.isAgg AV.kc AV.forget AV.scal mkA
theorem tr {p q : Prop} (h : p = q) : p = q := Eq.trans h rfl
abbrev KV := AV → AH → Prop
abbrev KE := Env → AH → Prop
def stepC (d : Option Nat) (env : Env) (K : KE) (v : AV) (H : AH) : Prop := K (eput d v env) H
@[go_sem] theorem stepC_eq (d : Option Nat) (env : Env) (K : KE) (v : AV) (H : AH) : stepC d env K v H = K (eput d v env) H := tr rfl
def pickC (c a b : AV) (K : KV) (H : AH) : Prop := withBool c fun t => K (apick t a b) H
@[go_sem] theorem pickC_bool (t : Bool) (a b : AV) (K : KV) (H : AH) : pickC (.bool t) a b K H = K (apick t a b) H := tr rfl
def allocC (e : TypeId) (o : Option TyI) (K : KV) (H : AH) : Prop := withT o fun i => K (.ptr H.n 0) (H.push (.cells i.zero e))
@[go_sem] theorem allocC_some (e : TypeId) (i : TyI) (K : KV) (H : AH) : allocC e (some i) K H = K (.ptr H.n 0) (H.push (.cells i.zero e)) := tr rfl
def boxC (e : TypeId) (cs : List AV) (K : KV) (H : AH) : Prop := cs.all AV.scal = true ∧ K (.ptr H.n 0) (H.push (.cells cs e))
@[go_sem] theorem boxC_eq (e : TypeId) (cs : List AV) (K : KV) (H : AH) : boxC e cs K H = (cs.all AV.scal = true ∧ K (.ptr H.n 0) (H.push (.cells cs e))) := tr rfl
def load2 (i : TyI) (off : Nat) (o : Option AObj) (K : KV) (H : AH) : Prop := withObj o fun cs _ => (0 < i.size ∧ off + i.size ≤ cs.length) ∧ K (mkA i.agg ((cs.drop off).take i.size)) H
def load3 (i : TyI) (cs : List AV) (K : KV) (H : AH) : Prop := (0 < i.size ∧ i.size ≤ cs.length) ∧ K (mkA i.agg (cs.take i.size)) H
def loadC (o : Option TyI) (a : AV) (K : KV) (H : AH) : Prop := withT o fun i => withPtr a (fun id off => load2 i off (H.obj id) K H) (fun cs => load3 i cs K H)
@[go_sem] theorem loadC_ptr (i : TyI) (id off : Nat) (K : KV) (H : AH) : loadC (some i) (.ptr id off) K H = load2 i off (H.obj id) K H := tr rfl
@[go_sem] theorem loadC_rptr (i : TyI) (cs : List AV) (K : KV) (H : AH) : loadC (some i) (.rptr cs) K H = load3 i cs K H := tr rfl
@[go_sem] theorem load2_some (i : TyI) (off : Nat) (cs : List AV) (e : TypeId) (K : KV) (H : AH) : load2 i off (some (.cells cs e)) K H = ((0 < i.size ∧ off + i.size ≤ cs.length) ∧ K (mkA i.agg ((cs.drop off).take i.size)) H) := tr rfl
@[go_sem] theorem load3_eq (i : TyI) (cs : List AV) (K : KV) (H : AH) : load3 i cs K H = ((0 < i.size ∧ i.size ≤ cs.length) ∧ K (mkA i.agg (cs.take i.size)) H) := tr rfl
def store2 (i : TyI) (id off : Nat) (xs : List AV) (o : Option AObj) (K : KV) (H : AH) : Prop := withObj o fun cs e => (off + i.size ≤ cs.length ∧ xs.length = i.size ∧ xs.all AV.scal = true) ∧ K .any (H.put id (.cells (cs.take off ++ xs ++ cs.drop (off + i.size)) e))
def storeC (o : Option TyI) (a : AV) (xs : List AV) (K : KV) (H : AH) : Prop := withT o fun i => withPtr a (fun id off => store2 i id off xs (H.obj id) K H) (fun _ => False)
@[go_sem] theorem storeC_ptr (i : TyI) (id off : Nat) (xs : List AV) (K : KV) (H : AH) : storeC (some i) (.ptr id off) xs K H = store2 i id off xs (H.obj id) K H := tr rfl
@[go_sem] theorem store2_some (i : TyI) (id off : Nat) (xs cs : List AV) (e : TypeId) (K : KV) (H : AH) : store2 i id off xs (some (.cells cs e)) K H =
  ((off + i.size ≤ cs.length ∧ xs.length = i.size ∧ xs.all AV.scal = true) ∧ K .any (H.put id (.cells (cs.take off ++ xs ++ cs.drop (off + i.size)) e))) := tr rfl
def valC (o : Option AV) (K : KV) (H : AH) : Prop := withAV o fun v => K v H
@[go_sem] theorem valC_some (v : AV) (K : KV) (H : AH) : valC (some v) K H = K v H := tr rfl
def conv2 (u : TypeDesc) (v : AV) (K : KV) (H : AH) : Prop := withDesc u (fun _ => False) (fun _ _ => False) False False fun k => withInt v fun _ n => K (.int k (k.wrap n)) H
def convC (o1 o2 : Option TyI) (v : AV) (K : KV) (H : AH) : Prop := withT o1 fun _ => withT o2 fun j => conv2 j.u v K H
@[go_sem] theorem convC_some (i j : TyI) (v : AV) (K : KV) (H : AH) : convC (some i) (some j) v K H = conv2 j.u v K H := tr rfl
@[go_sem] theorem conv2_int (k k' : IntKind) (n : Int) (K : KV) (H : AH) : conv2 (.int k) (.int k' n) K H = K (.int k (k.wrap n)) H := tr rfl
def fa2 (o : Option (Nat × Nat × Bool)) (x : AV) (K : KV) (H : AH) : Prop := withF o fun o _ _ => withPtr x (fun id off => K (.ptr id (off + o)) H) (fun cs => K (.rptr (cs.drop o)) H)
def faC (o : Option TyI) (f : Nat) (x : AV) (K : KV) (H : AH) : Prop := withT o fun i => fa2 (i.fields[f]?) x K H
@[go_sem] theorem faC_some (i : TyI) (f : Nat) (x : AV) (K : KV) (H : AH) : faC (some i) f x K H = fa2 (i.fields[f]?) x K H := tr rfl
@[go_sem] theorem fa2_ptr (o z : Nat) (g : Bool) (id off : Nat) (K : KV) (H : AH) : fa2 (some (o, z, g)) (.ptr id off) K H = K (.ptr id (off + o)) H := tr rfl
@[go_sem] theorem fa2_rptr (o z : Nat) (g : Bool) (cs : List AV) (K : KV) (H : AH) : fa2 (some (o, z, g)) (.rptr cs) K H = K (.rptr (cs.drop o)) H := tr rfl
def fi2 (o : Option (Nat × Nat × Bool)) (b : Bool) (cs : List AV) (K : KV) (H : AH) : Prop := withF o fun o z g => withTrue b (o + z ≤ cs.length ∧ K (mkA g ((cs.drop o).take z)) H)
def fiC (o : Option TyI) (f : Nat) (b : Bool) (cs : List AV) (K : KV) (H : AH) : Prop := withT o fun i => fi2 (i.fields[f]?) b cs K H
@[go_sem] theorem fiC_some (i : TyI) (f : Nat) (b : Bool) (cs : List AV) (K : KV) (H : AH) : fiC (some i) f b cs K H = fi2 (i.fields[f]?) b cs K H := tr rfl
@[go_sem] theorem fi2_some (o z : Nat) (g : Bool) (cs : List AV) (K : KV) (H : AH) : fi2 (some (o, z, g)) true cs K H = (o + z ≤ cs.length ∧ K (mkA g ((cs.drop o).take z)) H) := tr rfl
def ia4 (j : TyI) (n : Int) (y : Option AV) (K : KV) (H : AH) : Prop := withAV y fun y => (0 ≤ n ∧ y.cells.length = j.size) ∧ K (.rptr y.cells) H
def ia3 (o : Option TyI) (l : Option (List AV)) (n : Int) (K : KV) (H : AH) : Prop := withT o fun j => withL l fun l => ia4 j n (l[n.toNat]?) K H
def ia5 (m : Nat) (o : Option TyI) (x : AV) (n : Int) (K : KV) (H : AH) : Prop := withT o fun j => withPtr x (fun id off => (0 ≤ n ∧ n < m) ∧ K (.ptr id (off + n.toNat * j.size)) H) (fun _ => False)
def ia2 (tt : TT) (u : TypeDesc) (x : AV) (n : Int) (K : KV) (H : AH) : Prop := withDesc u (fun e => ia3 (tt e) x.elems n K H) (fun m e => ia5 m (tt e) x n K H) False False (fun _ => False)
def iaC (tt : TT) (o : Option TyI) (x ix : AV) (K : KV) (H : AH) : Prop := withT o fun i => withInt ix fun _ n => ia2 tt i.u x n K H
@[go_sem] theorem iaC_some (tt : TT) (i : TyI) (x : AV) (k : IntKind) (n : Int) (K : KV) (H : AH) : iaC tt (some i) x (.int k n) K H = ia2 tt i.u x n K H := tr rfl
@[go_sem] theorem ia2_slice (tt : TT) (e : TypeId) (x : AV) (n : Int) (K : KV) (H : AH) : ia2 tt (.slice e) x n K H = ia3 (tt e) x.elems n K H := tr rfl
@[go_sem] theorem ia2_array (tt : TT) (m : Nat) (e : TypeId) (x : AV) (n : Int) (K : KV) (H : AH) : ia2 tt (.array m e) x n K H = ia5 m (tt e) x n K H := tr rfl
@[go_sem] theorem ia3_some (j : TyI) (l : List AV) (n : Int) (K : KV) (H : AH) : ia3 (some j) (some l) n K H = ia4 j n (l[n.toNat]?) K H := tr rfl
@[go_sem] theorem ia4_some (j : TyI) (n : Int) (y : AV) (K : KV) (H : AH) : ia4 j n (some y) K H = ((0 ≤ n ∧ y.cells.length = j.size) ∧ K (.rptr y.cells) H) := tr rfl
@[go_sem] theorem ia5_some (m : Nat) (j : TyI) (id off : Nat) (n : Int) (K : KV) (H : AH) : ia5 m (some j) (.ptr id off) n K H = ((0 ≤ n ∧ n < m) ∧ K (.ptr id (off + n.toNat * j.size)) H) := tr rfl
def ix3 (x : AV) (n : Int) (K : KV) (H : AH) : Prop := withStr x fun s => (0 ≤ n ∧ n < s.size) ∧ K (.int .u8 (byteAt s n.toNat)) H
def ix5 (m : Nat) (o : Option TyI) (b : Bool) (cs : List AV) (n : Int) (K : KV) (H : AH) : Prop := withT o fun j => withTrue b ((0 ≤ n ∧ n < m ∧ n.toNat * j.size + j.size ≤ cs.length ∧ 0 < j.size) ∧ K (mkA j.agg ((cs.drop (n.toNat * j.size)).take j.size)) H)
def ix2 (tt : TT) (u : TypeDesc) (x : AV) (n : Int) (K : KV) (H : AH) : Prop := withDesc u (fun _ => False) (fun m e => ix5 m (tt e) x.isAgg x.cells n K H) (ix3 x n K H) False (fun _ => False)
def ixC (tt : TT) (o : Option TyI) (x ix : AV) (K : KV) (H : AH) : Prop := withT o fun i => withInt ix fun _ n => ix2 tt i.u x n K H
@[go_sem] theorem ixC_some (tt : TT) (i : TyI) (x : AV) (k : IntKind) (n : Int) (K : KV) (H : AH) : ixC tt (some i) x (.int k n) K H = ix2 tt i.u x n K H := tr rfl
@[go_sem] theorem ix2_string (tt : TT) (x : AV) (n : Int) (K : KV) (H : AH) : ix2 tt .string x n K H = ix3 x n K H := tr rfl
@[go_sem] theorem ix2_array (tt : TT) (m : Nat) (e : TypeId) (x : AV) (n : Int) (K : KV) (H : AH) : ix2 tt (.array m e) x n K H = ix5 m (tt e) x.isAgg x.cells n K H := tr rfl
@[go_sem] theorem ix3_str (s : ByteArray) (n : Int) (K : KV) (H : AH) : ix3 (.str s) n K H = ((0 ≤ n ∧ n < s.size) ∧ K (.int .u8 (byteAt s n.toNat)) H) := tr rfl
@[go_sem] theorem ix5_some (m : Nat) (j : TyI) (cs : List AV) (n : Int) (K : KV) (H : AH) : ix5 m (some j) true cs n K H = ((0 ≤ n ∧ n < m ∧ n.toNat * j.size + j.size ≤ cs.length ∧ 0 < j.size) ∧ K (mkA j.agg ((cs.drop (n.toNat * j.size)).take j.size)) H) := tr rfl
def sl4 (j : TyI) (l : List AV) (a b : Option Int) (K : KV) (H : AH) : Prop := withI a fun a => withI b fun b => (0 ≤ a ∧ a ≤ b ∧ b ≤ l.length) ∧ (∀ y, y ∈ l → y.cells.length = j.size) ∧ K (.slice ((l.drop a.toNat).take (b.toNat - a.toNat))) H
def sl6 (s : ByteArray) (a b : Option Int) (K : KV) (H : AH) : Prop := withI a fun a => withI b fun b => (0 ≤ a ∧ a ≤ b ∧ b ≤ s.size) ∧ K (.str (s.extract a.toNat b.toNat)) H
def sl3 (o : Option TyI) (l : Option (List AV)) (lo hi : Option Operand) (env : Env) (K : KV) (H : AH) : Prop := withT o fun j => withL l fun l => sl4 j l (abound env 0 lo) (abound env l.length hi) K H
def sl5 (x : AV) (lo hi : Option Operand) (env : Env) (K : KV) (H : AH) : Prop := withStr x fun s => sl6 s (abound env 0 lo) (abound env s.size hi) K H
def sl2 (tt : TT) (u : TypeDesc) (x : AV) (lo hi : Option Operand) (env : Env) (K : KV) (H : AH) : Prop := withDesc u (fun e => sl3 (tt e) x.elems lo hi env K H) (fun _ _ => False) (sl5 x lo hi env K H) False (fun _ => False)
def slC (tt : TT) (o : Option TyI) (x : AV) (lo hi : Option Operand) (env : Env) (K : KV) (H : AH) : Prop := withT o fun i => sl2 tt i.u x lo hi env K H
@[go_sem] theorem slC_some (tt : TT) (i : TyI) (x : AV) (lo hi : Option Operand) (env : Env) (K : KV) (H : AH) : slC tt (some i) x lo hi env K H = sl2 tt i.u x lo hi env K H := tr rfl
@[go_sem] theorem sl2_slice (tt : TT) (e : TypeId) (x : AV) (lo hi : Option Operand) (env : Env) (K : KV) (H : AH) : sl2 tt (.slice e) x lo hi env K H = sl3 (tt e) x.elems lo hi env K H := tr rfl
@[go_sem] theorem sl2_string (tt : TT) (x : AV) (lo hi : Option Operand) (env : Env) (K : KV) (H : AH) : sl2 tt .string x lo hi env K H = sl5 x lo hi env K H := tr rfl
@[go_sem] theorem sl3_some (j : TyI) (l : List AV) (lo hi : Option Operand) (env : Env) (K : KV) (H : AH) : sl3 (some j) (some l) lo hi env K H = sl4 j l (abound env 0 lo) (abound env l.length hi) K H := tr rfl
@[go_sem] theorem sl5_str (s : ByteArray) (lo hi : Option Operand) (env : Env) (K : KV) (H : AH) : sl5 (.str s) lo hi env K H = sl6 s (abound env 0 lo) (abound env s.size hi) K H := tr rfl
@[go_sem] theorem sl4_some (j : TyI) (l : List AV) (a b : Int) (K : KV) (H : AH) : sl4 j l (some a) (some b) K H = ((0 ≤ a ∧ a ≤ b ∧ b ≤ l.length) ∧ (∀ y, y ∈ l → y.cells.length = j.size) ∧ K (.slice ((l.drop a.toNat).take (b.toNat - a.toNat))) H) := tr rfl
@[go_sem] theorem sl6_some (s : ByteArray) (a b : Int) (K : KV) (H : AH) : sl6 s (some a) (some b) K H = ((0 ≤ a ∧ a ≤ b ∧ b ≤ s.size) ∧ K (.str (s.extract a.toNat b.toNat)) H) := tr rfl
def extC (x : AV) (n : Nat) (K : KV) (H : AH) : Prop := withTup x fun vs => valC (vs[n]?) K H
@[go_sem] theorem extC_tup (vs : List AV) (n : Nat) (K : KV) (H : AH) : extC (.tup vs) n K H = valC (vs[n]?) K H := tr rfl
def bs3 (o : Option TyI) (n : Nat) (is : List Nat) (vs : List AV) (K : KV) (H : AH) : Prop := withT o fun j => (is = List.range' 0 n ∧ (∀ x, x ∈ vs → x.cells.length = j.size ∧ x.cells.all AV.scal = true) ∧ n * j.size ≤ 16777216 ∧ 0 < j.size) ∧ K (.lit vs) H
def bs2 (tt : TT) (u : TypeDesc) (n : Nat) (is : List Nat) (vs : List AV) (K : KV) (H : AH) : Prop := withDesc u (fun e => bs3 (tt e) n is vs K H) (fun _ _ => False) False False (fun _ => False)
def bsC (tt : TT) (o : Option TyI) (n : Nat) (is : List Nat) (vs : List AV) (K : KV) (H : AH) : Prop := withT o fun i => bs2 tt i.u n is vs K H
@[go_sem] theorem bsC_some (tt : TT) (i : TyI) (n : Nat) (is : List Nat) (vs : List AV) (K : KV) (H : AH) : bsC tt (some i) n is vs K H = bs2 tt i.u n is vs K H := tr rfl
@[go_sem] theorem bs2_slice (tt : TT) (e : TypeId) (n : Nat) (is : List Nat) (vs : List AV) (K : KV) (H : AH) : bs2 tt (.slice e) n is vs K H = bs3 (tt e) n is vs K H := tr rfl
@[go_sem] theorem bs3_some (j : TyI) (n : Nat) (is : List Nat) (vs : List AV) (K : KV) (H : AH) : bs3 (some j) n is vs K H = ((is = List.range' 0 n ∧ (∀ x, x ∈ vs → x.cells.length = j.size ∧ x.cells.all AV.scal = true) ∧ n * j.size ≤ 16777216 ∧ 0 < j.size) ∧ K (.lit vs) H) := tr rfl
def bso3 (e : TypeId) (o : Option TyI) (n : Nat) (is : List Nat) (vs : List AV) (K : KV) (H : AH) : Prop := withT o fun j => (is = List.range' 0 n ∧ (∀ x, x ∈ vs → x.cells.length = j.size ∧ x.cells.all AV.scal = true) ∧ n * j.size ≤ 16777216 ∧ 0 < j.size) ∧ K (.own vs H.m) (H.pushTok ⟨vs.length, e, j.size⟩)
def bso2 (tt : TT) (u : TypeDesc) (n : Nat) (is : List Nat) (vs : List AV) (K : KV) (H : AH) : Prop := withDesc u (fun e => bso3 e (tt e) n is vs K H) (fun _ _ => False) False False (fun _ => False)
def bsoC (tt : TT) (o : Option TyI) (n : Nat) (is : List Nat) (vs : List AV) (K : KV) (H : AH) : Prop := withT o fun i => bso2 tt i.u n is vs K H
@[go_sem] theorem bsoC_some (tt : TT) (i : TyI) (n : Nat) (is : List Nat) (vs : List AV) (K : KV) (H : AH) : bsoC tt (some i) n is vs K H = bso2 tt i.u n is vs K H := tr rfl
@[go_sem] theorem bso2_slice (tt : TT) (e : TypeId) (n : Nat) (is : List Nat) (vs : List AV) (K : KV) (H : AH) : bso2 tt (.slice e) n is vs K H = bso3 e (tt e) n is vs K H := tr rfl
@[go_sem] theorem bso3_some (e : TypeId) (j : TyI) (n : Nat) (is : List Nat) (vs : List AV) (K : KV) (H : AH) : bso3 e (some j) n is vs K H = ((is = List.range' 0 n ∧ (∀ x, x ∈ vs → x.cells.length = j.size ∧ x.cells.all AV.scal = true) ∧ n * j.size ≤ 16777216 ∧ 0 < j.size) ∧ K (.own vs H.m) (H.pushTok ⟨vs.length, e, j.size⟩)) := tr rfl
def fplace (l : List (Nat × Nat × Bool)) (k : Nat) : Option (Nat × Nat) := (l[k]?).map fun x => (x.1, x.2.1)
def aplace (s : Nat) (k : Nat) : Option (Nat × Nat) := some (k * s, s)
def bu3 (o : Option (List AV)) (K : KV) (H : AH) : Prop := withL o fun ds => K (.agg ds) H
def bu4 (o : Option TyI) (z : List AV) (ps : List (Nat × AV)) (K : KV) (H : AH) : Prop := withT o fun j => bu3 (afill (aplace j.size) z ps) K H
def bu2 (tt : TT) (u : TypeDesc) (i : TyI) (ps : List (Nat × AV)) (K : KV) (H : AH) : Prop := withDesc u (fun _ => False) (fun _ e => bu4 (tt e) i.zero ps K H) False (bu3 (afill (fplace i.fields) i.zero ps) K H) (fun _ => False)
def buC (tt : TT) (o : Option TyI) (ps : List (Nat × AV)) (K : KV) (H : AH) : Prop := withT o fun i => bu2 tt i.u i ps K H
@[go_sem] theorem fplace_eq (l : List (Nat × Nat × Bool)) (k : Nat) : fplace l k = (l[k]?).map fun x => (x.1, x.2.1) := rfl
@[go_sem] theorem aplace_eq (s k : Nat) : aplace s k = some (k * s, s) := rfl
@[go_sem] theorem buC_some (tt : TT) (i : TyI) (ps : List (Nat × AV)) (K : KV) (H : AH) : buC tt (some i) ps K H = bu2 tt i.u i ps K H := tr rfl
@[go_sem] theorem bu2_struct (tt : TT) (fs : Array Field) (i : TyI) (ps : List (Nat × AV)) (K : KV) (H : AH) : bu2 tt (.struct fs) i ps K H = bu3 (afill (fplace i.fields) i.zero ps) K H := tr rfl
@[go_sem] theorem bu2_array (tt : TT) (n : Nat) (e : TypeId) (i : TyI) (ps : List (Nat × AV)) (K : KV) (H : AH) : bu2 tt (.array n e) i ps K H = bu4 (tt e) i.zero ps K H := tr rfl
@[go_sem] theorem bu4_some (j : TyI) (z : List AV) (ps : List (Nat × AV)) (K : KV) (H : AH) : bu4 (some j) z ps K H = bu3 (afill (aplace j.size) z ps) K H := tr rfl
@[go_sem] theorem bu3_some (ds : List AV) (K : KV) (H : AH) : bu3 (some ds) K H = K (.agg ds) H := tr rfl
def ln3 (l : Option (List AV)) (K : KV) (H : AH) : Prop := withL l fun l => K (.int .i64 l.length) H
def ln4 (x : AV) (K : KV) (H : AH) : Prop := withStr x fun s => K (.int .i64 s.size) H
def ln2 (u : TypeDesc) (x : AV) (K : KV) (H : AH) : Prop := withDesc u (fun _ => ln3 x.elems K H) (fun _ _ => False) (ln4 x K H) False (fun _ => False)
def lnC (o : Option TyI) (x : AV) (K : KV) (H : AH) : Prop := withT o fun i => ln2 i.u x K H
@[go_sem] theorem lnC_some (i : TyI) (x : AV) (K : KV) (H : AH) : lnC (some i) x K H = ln2 i.u x K H := tr rfl
@[go_sem] theorem ln2_slice (e : TypeId) (x : AV) (K : KV) (H : AH) : ln2 (.slice e) x K H = ln3 x.elems K H := tr rfl
@[go_sem] theorem ln2_string (x : AV) (K : KV) (H : AH) : ln2 .string x K H = ln4 x K H := tr rfl
@[go_sem] theorem ln3_some (l : List AV) (K : KV) (H : AH) : ln3 (some l) K H = K (.int .i64 l.length) H := tr rfl
@[go_sem] theorem ln4_str (s : ByteArray) (K : KV) (H : AH) : ln4 (.str s) K H = K (.int .i64 s.size) H := tr rfl
def ap4 (e : TypeId) (j : TyI) (ys : List AV) (x : AV) (K : KV) (H : AH) : Prop := withOwn x
        (fun l tk => H.tok tk = some ⟨l.length, e, j.size⟩ ∧ ((l.length + ys.length) * j.bytes ≤ 140737488355328 ∧ l.length + ys.length ≤ 281474976710656) ∧
          K (.own (l ++ ys) tk) (H.putTok tk ⟨(l ++ ys).length, e, j.size⟩))
        ((ys.length * j.bytes ≤ 140737488355328 ∧ ys.length ≤ 281474976710656) ∧ K (.own ys H.m) (H.pushTok ⟨ys.length, e, j.size⟩))
        (fun l => (∀ z, z ∈ l → z.cells.length = j.size) ∧ ((l.length + ys.length) * j.bytes ≤ 140737488355328 ∧ l.length + ys.length ≤ 281474976710656) ∧ K (.slice (l ++ ys)) H)
def ap3 (e : TypeId) (o : Option TyI) (x : AV) (ys : Option (List AV)) (K : KV) (H : AH) : Prop := withT o fun j => withL ys fun ys => ((∀ z, z ∈ ys → z.cells.length = j.size ∧ z.cells.all AV.scal = true) ∧ 0 < j.size) ∧ ap4 e j ys x K H
def ap2 (tt : TT) (u : TypeDesc) (x y : AV) (K : KV) (H : AH) : Prop := withDesc u (fun e => ap3 e (tt e) x y.elems K H) (fun _ _ => False) False False (fun _ => False)
def apC (tt : TT) (o : Option TyI) (x y : AV) (K : KV) (H : AH) : Prop := withT o fun i => ap2 tt i.u x y K H
@[go_sem] theorem apC_some (tt : TT) (i : TyI) (x y : AV) (K : KV) (H : AH) : apC tt (some i) x y K H = ap2 tt i.u x y K H := tr rfl
@[go_sem] theorem ap2_slice (tt : TT) (e : TypeId) (x y : AV) (K : KV) (H : AH) : ap2 tt (.slice e) x y K H = ap3 e (tt e) x y.elems K H := tr rfl
@[go_sem] theorem ap3_some (e : TypeId) (j : TyI) (x : AV) (ys : List AV) (K : KV) (H : AH) : ap3 e (some j) x (some ys) K H = (((∀ z, z ∈ ys → z.cells.length = j.size ∧ z.cells.all AV.scal = true) ∧ 0 < j.size) ∧ ap4 e j ys x K H) := tr rfl
@[go_sem] theorem ap4_own (e : TypeId) (j : TyI) (ys l : List AV) (tk : Nat) (K : KV) (H : AH) : ap4 e j ys (.own l tk) K H = (H.tok tk = some ⟨l.length, e, j.size⟩ ∧ ((l.length + ys.length) * j.bytes ≤ 140737488355328 ∧ l.length + ys.length ≤ 281474976710656) ∧
          K (.own (l ++ ys) tk) (H.putTok tk ⟨(l ++ ys).length, e, j.size⟩)) := tr rfl
@[go_sem] theorem ap4_nil (e : TypeId) (j : TyI) (ys : List AV) (K : KV) (H : AH) : ap4 e j ys .nilS K H = ((ys.length * j.bytes ≤ 140737488355328 ∧ ys.length ≤ 281474976710656) ∧ K (.own ys H.m) (H.pushTok ⟨ys.length, e, j.size⟩)) := tr rfl
@[go_sem] theorem ap4_lit (e : TypeId) (j : TyI) (ys l : List AV) (K : KV) (H : AH) : ap4 e j ys (.lit l) K H = ((∀ z, z ∈ l → z.cells.length = j.size) ∧ ((l.length + ys.length) * j.bytes ≤ 140737488355328 ∧ l.length + ys.length ≤ 281474976710656) ∧ K (.slice (l ++ ys)) H) := tr rfl
def rg2 (u : TypeDesc) (x : AV) (K : KV) (H : AH) : Prop := withDesc u (fun _ => False) (fun _ _ => False) (withStr x fun s => K (.ptr H.n 0) (H.push (.iter s 0))) False (fun _ => False)
def rgC (o : Option TyI) (x : AV) (K : KV) (H : AH) : Prop := withT o fun i => rg2 i.u x K H
@[go_sem] theorem rgC_some (i : TyI) (x : AV) (K : KV) (H : AH) : rgC (some i) x K H = rg2 i.u x K H := tr rfl
@[go_sem] theorem rg2_str (s : ByteArray) (K : KV) (H : AH) : rg2 .string (.str s) K H = K (.ptr H.n 0) (H.push (.iter s 0)) := tr rfl
def nx2 (id off : Nat) (o : Option AObj) (K : KV) (H : AH) : Prop := off = 0 ∧ withIter o fun s pos => s.size ≤ 281474976710656 ∧ (pos < s.size → K (.tup [.bool true, .int .i64 pos, .int .i32 (Utf8.decode s pos).1]) (H.put id (.iter s (pos + (Utf8.decode s pos).2)))) ∧ (¬ pos < s.size → K (.tup [.bool false]) H)
def nxC (x : AV) (K : KV) (H : AH) : Prop := withPtr x (fun id off => nx2 id off (H.obj id) K H) (fun _ => False)
@[go_sem] theorem nxC_ptr (id off : Nat) (K : KV) (H : AH) : nxC (.ptr id off) K H = nx2 id off (H.obj id) K H := tr rfl
@[go_sem] theorem nx2_some (id : Nat) (s : ByteArray) (pos : Nat) (K : KV) (H : AH) : nx2 id 0 (some (.iter s pos)) K H = (s.size ≤ 281474976710656 ∧ (pos < s.size → K (.tup [.bool true, .int .i64 pos, .int .i32 (Utf8.decode s pos).1]) (H.put id (.iter s (pos + (Utf8.decode s pos).2)))) ∧ (¬ pos < s.size → K (.tup [.bool false]) H)) := by simp [nx2, withIter]
def mxC (x y : AV) (K : KV) (H : AH) : Prop := withInt x fun k n => withInt y fun k' m => k' = k ∧ K (.int k (if m > n then m else n)) H
@[go_sem] theorem mxC_int (k : IntKind) (n m : Int) (K : KV) (H : AH) : mxC (.int k n) (.int k m) K H = K (.int k (if m > n then m else n)) H := by simp [mxC, withInt]
def cvC (P : Program) (w0 : World) (x : AV) (args : List AV) (K : KV) (H : AH) : Prop := withFn x fun f caps => ACalls P w0 f (args ++ caps) H K
@[go_sem] theorem cvC_fn (P : Program) (w0 : World) (f : FuncId) (caps args : List AV) (K : KV) (H : AH) : cvC P w0 (.fn f caps) args K H = ACalls P w0 f (args ++ caps) H K := tr rfl
section
variable (P : Program) (w0 : World) (tt : TT) (N : Nat)
def arunC (l : List XOp) (K : KE) (env : Env) (H : AH) : Prop := arun P w0 tt l env H K
def aexC (xo : XO) (d : Option Nat) (K : KE) (env : Env) (H : AH) : Prop := aexec P w0 tt xo d env H K
def awpC (x : XCode) (Q : APost) (env : Env) (H : AH) : Prop := awp P w0 tt N x env H Q
def guardC (xo : XO) (d : Option Nat) (k : Nat) (b : Bool) (l : List XOp) (K : KE) (env : Env) (H : AH) (c : Bool) : Prop := aguard c b (aexC P w0 tt xo d (arunC P w0 tt l K) ((k, .bool b) :: env) H) (arunC P w0 tt l K (eput d (.tup []) ((k, .bool (!b)) :: env)) H)
def grdC (v : AV) (xo : XO) (d : Option Nat) (k : Nat) (b : Bool) (l : List XOp) (K : KE) (env : Env) (H : AH) : Prop := withGuard v (guardC P w0 tt xo d k b l K env H) (arunC P w0 tt l K (eput d (.tup []) env) H)
def cndC (v : AV) (a b : XCode) (Q : APost) (env : Env) (H : AH) : Prop := withBool v fun t => aguard t true (awpC P w0 tt N a Q env H) (awpC P w0 tt N b Q env H)
@[go_sem] theorem awp_C (x : XCode) (env : Env) (H : AH) (Q : APost) : awp P w0 tt N x env H Q = awpC P w0 tt N x Q env H := tr rfl
@[go_sem] theorem awp_skip (env : Env) (H : AH) (Q : APost) : awpC P w0 tt N .skip Q env H = Q .normal env H := tr rfl
@[go_sem] theorem awp_ret (env : Env) (H : AH) (Q : APost) : awpC P w0 tt N .ret Q env H = Q .ret env H := tr rfl
@[go_sem] theorem awp_exit (id : Nat) (env : Env) (H : AH) (Q : APost) : awpC P w0 tt N (.exit id) Q env H = Q (.exit id) env H := tr rfl
@[go_sem] theorem awp_region (l : List XOp) (env : Env) (H : AH) (Q : APost) : awpC P w0 tt N (.region l) Q env H = arunC P w0 tt l (Q .normal) env H := tr rfl
@[go_sem] theorem awp_seq (a b : XCode) (env : Env) (H : AH) (Q : APost) : awpC P w0 tt N (.seq a b) Q env H = awpC P w0 tt N a (athen (awpC P w0 tt N b Q) Q) env H := tr rfl
@[go_sem] theorem awp_cond (c : Operand) (a b : XCode) (env : Env) (H : AH) (Q : APost) : awpC P w0 tt N (.cond c a b) Q env H = cndC P w0 tt N (aev env c) a b Q env H := tr rfl
@[go_sem] theorem cndC_true (a b : XCode) (env : Env) (H : AH) (Q : APost) : cndC P w0 tt N (.bool true) a b Q env H = awpC P w0 tt N a Q env H := by simp [cndC, withBool, aguard]
@[go_sem] theorem cndC_false (a b : XCode) (env : Env) (H : AH) (Q : APost) : cndC P w0 tt N (.bool false) a b Q env H = awpC P w0 tt N b Q env H := by simp [cndC, withBool, aguard]
@[go_sem low] theorem cndC_bool (t : Bool) (a b : XCode) (env : Env) (H : AH) (Q : APost) : cndC P w0 tt N (.bool t) a b Q env H = ((t = true → awpC P w0 tt N a Q env H) ∧ (t = false → awpC P w0 tt N b Q env H)) := by simp [cndC, withBool, aguard]
@[go_sem] theorem awp_block (id : Nat) (b : XCode) (env : Env) (H : AH) (Q : APost) : awpC P w0 tt N (.block id b) Q env H = awpC P w0 tt N b (ablock id Q) env H := tr rfl
@[go_sem] theorem awp_loop (b : XCode) (env : Env) (H : AH) (Q : APost) : awpC P w0 tt N (.loop b) Q env H = AX P w0 N (.loop b) env H Q := tr rfl
@[go_sem] theorem athen_normal (K : KE) (Q : APost) (env : Env) (H : AH) : athen K Q .normal env H = K env H := tr rfl
@[go_sem] theorem athen_ret (K : KE) (Q : APost) (env : Env) (H : AH) : athen K Q .ret env H = Q .ret env H := tr rfl
@[go_sem] theorem athen_exit (K : KE) (Q : APost) (env : Env) (H : AH) (i : Nat) : athen K Q (.exit i) env H = Q (.exit i) env H := tr rfl
@[go_sem] theorem ablock_normal (id : Nat) (Q : APost) (env : Env) (H : AH) : ablock id Q .normal env H = Q .normal env H := tr rfl
@[go_sem] theorem ablock_ret (id : Nat) (Q : APost) (env : Env) (H : AH) : ablock id Q .ret env H = Q .ret env H := tr rfl
@[go_sem] theorem ablock_exit (id j : Nat) (Q : APost) (env : Env) (H : AH) : ablock id Q (.exit j) env H = if j = id then Q .normal env H else Q (.exit j) env H := tr rfl
@[go_sem] theorem arun_nil (env : Env) (H : AH) (K : KE) : arunC P w0 tt [] K env H = K env H := tr rfl
@[go_sem] theorem arun_none (d : Option Nat) (xo : XO) (l : List XOp) (env : Env) (H : AH) (K : KE) : arunC P w0 tt (⟨d, xo, none⟩ :: l) K env H = aexC P w0 tt xo d (arunC P w0 tt l K) env H := tr rfl
@[go_sem] theorem arun_some (d : Option Nat) (xo : XO) (k : Nat) (b : Bool) (l : List XOp) (env : Env) (H : AH) (K : KE) : arunC P w0 tt (⟨d, xo, some (some k, b)⟩ :: l) K env H = grdC P w0 tt (look k env) xo d k b l K env H := tr rfl
@[go_sem] theorem grdC_un (d : Option Nat) (xo : XO) (k : Nat) (b : Bool) (l : List XOp) (env : Env) (H : AH) (K : KE) : grdC P w0 tt (.tup []) xo d k b l K env H = arunC P w0 tt l K (eput d (.tup []) env) H := by simp [grdC, withGuard]
@[go_sem] theorem grdC_tt (d : Option Nat) (xo : XO) (k : Nat) (l : List XOp) (env : Env) (H : AH) (K : KE) : grdC P w0 tt (.bool true) xo d k true l K env H = aexC P w0 tt xo d (arunC P w0 tt l K) ((k, .bool true) :: env) H := by simp [grdC, withGuard, guardC, aguard]
@[go_sem] theorem grdC_ff (d : Option Nat) (xo : XO) (k : Nat) (l : List XOp) (env : Env) (H : AH) (K : KE) : grdC P w0 tt (.bool false) xo d k false l K env H = aexC P w0 tt xo d (arunC P w0 tt l K) ((k, .bool false) :: env) H := by simp [grdC, withGuard, guardC, aguard]
@[go_sem] theorem grdC_tf (d : Option Nat) (xo : XO) (k : Nat) (l : List XOp) (env : Env) (H : AH) (K : KE) : grdC P w0 tt (.bool true) xo d k false l K env H = arunC P w0 tt l K (eput d (.tup []) ((k, .bool true) :: env)) H := by simp [grdC, withGuard, guardC, aguard]
@[go_sem] theorem grdC_ft (d : Option Nat) (xo : XO) (k : Nat) (l : List XOp) (env : Env) (H : AH) (K : KE) : grdC P w0 tt (.bool false) xo d k true l K env H = arunC P w0 tt l K (eput d (.tup []) ((k, .bool false) :: env)) H := by simp [grdC, withGuard, guardC, aguard]
@[go_sem low] theorem grdC_t (c : Bool) (d : Option Nat) (xo : XO) (k : Nat) (l : List XOp) (env : Env) (H : AH) (K : KE) : grdC P w0 tt (.bool c) xo d k true l K env H =
  ((c = true → aexC P w0 tt xo d (arunC P w0 tt l K) ((k, .bool true) :: env) H) ∧ (c = false → arunC P w0 tt l K (eput d (.tup []) ((k, .bool false) :: env)) H)) := by simp [grdC, withGuard, guardC, aguard]
@[go_sem low] theorem grdC_f (c : Bool) (d : Option Nat) (xo : XO) (k : Nat) (l : List XOp) (env : Env) (H : AH) (K : KE) : grdC P w0 tt (.bool c) xo d k false l K env H =
  ((c = false → aexC P w0 tt xo d (arunC P w0 tt l K) ((k, .bool false) :: env) H) ∧ (c = true → arunC P w0 tt l K (eput d (.tup []) ((k, .bool true) :: env)) H)) := by simp [grdC, withGuard, guardC, aguard]
variable (d : Option Nat) (env : Env) (H : AH) (K : KE)
@[go_sem] theorem aexec_call (f : FuncId) (args : List Operand) : aexC P w0 tt (.call f args) d K env H = ACalls P w0 f (args.map (aev env)) H (stepC d env K) := tr rfl
@[go_sem] theorem aexec_callv (x : Operand) (args : List Operand) : aexC P w0 tt (.callv x args) d K env H = cvC P w0 (aev env x) (args.map (aev env)) (stepC d env K) H := tr rfl
@[go_sem] theorem aexec_move (x : Operand) : aexC P w0 tt (.move x) d K env H = stepC d env K (aev env x) H := tr rfl
@[go_sem] theorem aexec_pick (c a b : Operand) : aexC P w0 tt (.pick c a b) d K env H = pickC (aev env c) (aev env a) (aev env b) (stepC d env K) H := tr rfl
@[go_sem] theorem aexec_alloc (e : TypeId) : aexC P w0 tt (.alloc e) d K env H = allocC e (tt e) (stepC d env K) H := tr rfl
@[go_sem] theorem aexec_box (e : TypeId) (x : Operand) : aexC P w0 tt (.box e x) d K env H = boxC e (aev env x).cells (stepC d env K) H := tr rfl
@[go_sem] theorem aexec_load (t : TypeId) (a : Operand) : aexC P w0 tt (.load t a) d K env H = loadC (tt t) (aev env a) (stepC d env K) H := tr rfl
@[go_sem] theorem aexec_store (t : TypeId) (a x : Operand) : aexC P w0 tt (.store t a x) d K env H = storeC (tt t) (aev env a) (aev env x).cells (stepC d env K) H := tr rfl
@[go_sem] theorem aexec_bin (op : BinOp) (t : TypeId) (x y : Operand) : aexC P w0 tt (.bin op t x y) d K env H = valC (abin tt op t (aev env x) (aev env y)) (stepC d env K) H := tr rfl
@[go_sem] theorem aexec_un (op : UnOp) (x : Operand) : aexC P w0 tt (.un op x) d K env H = valC (aun op (aev env x)) (stepC d env K) H := tr rfl
@[go_sem] theorem aexec_conv (s t : TypeId) (x : Operand) : aexC P w0 tt (.conv s t x) d K env H = convC (tt s) (tt t) (aev env x) (stepC d env K) H := tr rfl
@[go_sem] theorem aexec_fieldAddr (s : TypeId) (x : Operand) (f : Nat) : aexC P w0 tt (.fieldAddr s x f) d K env H = faC (tt s) f (aev env x) (stepC d env K) H := tr rfl
@[go_sem] theorem aexec_field (s : TypeId) (x : Operand) (f : Nat) : aexC P w0 tt (.field s x f) d K env H = fiC (tt s) f (aev env x).isAgg (aev env x).cells (stepC d env K) H := tr rfl
@[go_sem] theorem aexec_indexAddr (t : TypeId) (x ix : Operand) : aexC P w0 tt (.indexAddr t x ix) d K env H = iaC tt (tt t) (aev env x) (aev env ix) (stepC d env K) H := tr rfl
@[go_sem] theorem aexec_index (t : TypeId) (x ix : Operand) : aexC P w0 tt (.index t x ix) d K env H = ixC tt (tt t) (aev env x) (aev env ix) (stepC d env K) H := tr rfl
@[go_sem] theorem aexec_slice (t : TypeId) (x : Operand) (lo hi : Option Operand) : aexC P w0 tt (.slice t x lo hi) d K env H = slC tt (tt t) (aev env x) lo hi env (stepC d env K) H := tr rfl
@[go_sem] theorem aexec_extract (x : Operand) (n : Nat) : aexC P w0 tt (.extract x n) d K env H = extC (aev env x) n (stepC d env K) H := tr rfl
@[go_sem] theorem aexec_mkfn (f : FuncId) (caps : List Operand) : aexC P w0 tt (.mkfn f caps) d K env H = stepC d env K (.fn f (caps.map (aev env))) H := tr rfl
@[go_sem] theorem aexec_empty (t : TypeId) : aexC P w0 tt (.empty t) d K env H = bsoC tt (tt t) 0 [] [] (stepC d env K) H := tr rfl
@[go_sem] theorem aexec_buildSlice (t : TypeId) (n : Nat) (ps : List (Nat × Operand)) : aexC P w0 tt (.buildSlice t n ps) d K env H = bsoC tt (tt t) n (ps.map (·.1)) (ps.map fun p => aev env p.2) (stepC d env K) H := tr rfl
@[go_sem] theorem aexec_build (t : TypeId) (ps : List (Nat × Operand)) : aexC P w0 tt (.build t ps) d K env H = buC tt (tt t) (ps.map fun p => (p.1, aev env p.2)) (stepC d env K) H := tr rfl
@[go_sem] theorem aexec_len (t : TypeId) (x : Operand) : aexC P w0 tt (.len t x) d K env H = lnC (tt t) (aev env x) (stepC d env K) H := tr rfl
@[go_sem] theorem aexec_range (t : TypeId) (x : Operand) : aexC P w0 tt (.range t x) d K env H = rgC (tt t) (aev env x) (stepC d env K) H := tr rfl
@[go_sem] theorem aexec_next (x : Operand) : aexC P w0 tt (.next x) d K env H = nxC (aev env x) (stepC d env K) H := tr rfl
@[go_sem] theorem aexec_max (x y : Operand) : aexC P w0 tt (.max x y) d K env H = mxC (aev env x) (aev env y) (stepC d env K) H := tr rfl
@[go_sem] theorem aexec_append (t : TypeId) (x y : Operand) : aexC P w0 tt (.append t x y) d K env H = apC tt (tt t) (aev env x) (aev env y) (stepC d env K) H := tr rfl
end
attribute [go_sem] AV.fit AV.fitL
theorem wrap_i64 {n : Int} : IntKind.i64.wrap n = n ↔ (-9223372036854775808 ≤ n ∧ n ≤ 9223372036854775807) := by
  simp [IntKind.wrap, IntKind.bits, IntKind.signed]
  split <;> omega
theorem wrap_u8 {n : Int} : IntKind.u8.wrap n = n ↔ (0 ≤ n ∧ n ≤ 255) := by
  simp [IntKind.wrap, IntKind.bits, IntKind.signed]
  omega
theorem wrap_i32 {n : Int} : IntKind.i32.wrap n = n ↔ (-2147483648 ≤ n ∧ n ≤ 2147483647) := by
  simp [IntKind.wrap, IntKind.bits, IntKind.signed]
  split <;> omega
@[go_sem] theorem aconst0_i64 (n : Int) : aconst0 (.int .i64 n) = if -9223372036854775808 ≤ n ∧ n ≤ 9223372036854775807 then .int .i64 n else .any := by simp only [aconst0, wrap_i64]
@[go_sem] theorem aconst0_u8 (n : Int) : aconst0 (.int .u8 n) = if 0 ≤ n ∧ n ≤ 255 then .int .u8 n else .any := by simp only [aconst0, wrap_u8]
@[go_sem] theorem aconst0_i32 (n : Int) : aconst0 (.int .i32 n) = if -2147483648 ≤ n ∧ n ≤ 2147483647 then .int .i32 n else .any := by simp only [aconst0, wrap_i32]
@[go_sem] theorem aconst0_bool (b : Bool) : aconst0 (.bool b) = .bool b := rfl
@[go_sem] theorem aconst0_str (s : ByteArray) : aconst0 (.string s) = if s.size ≤ 281474976710656 then .str s else .any := rfl
@[go_sem] theorem aconst0_nilS : aconst0 (.slice none 0 0) = .nilS := rfl
@[go_sem] theorem aconst0_nilP : aconst0 (.pointer none) = .nilP := rfl
@[go_sem] theorem aconst0_nilF : aconst0 .nilFunc = .nilF := rfl
@[go_sem] theorem aconst0_nilM : aconst0 (.map none) = .nilM := rfl
@[go_sem] theorem aconst_i64 (n : Int) : aconst (.int .i64 n) = if -9223372036854775808 ≤ n ∧ n ≤ 9223372036854775807 then .int .i64 n else .any := by simp only [aconst, aconst0, wrap_i64]
@[go_sem] theorem aconst_u8 (n : Int) : aconst (.int .u8 n) = if 0 ≤ n ∧ n ≤ 255 then .int .u8 n else .any := by simp only [aconst, aconst0, wrap_u8]
@[go_sem] theorem aconst_i32 (n : Int) : aconst (.int .i32 n) = if -2147483648 ≤ n ∧ n ≤ 2147483647 then .int .i32 n else .any := by simp only [aconst, aconst0, wrap_i32]
@[go_sem] theorem aconst_bool (b : Bool) : aconst (.bool b) = .bool b := rfl
@[go_sem] theorem aconst_str (s : ByteArray) : aconst (.string s) = if s.size ≤ 281474976710656 then .str s else .any := rfl
@[go_sem] theorem aconst_nilS : aconst (.slice none 0 0) = .nilS := rfl
@[go_sem] theorem aconst_nilP : aconst (.pointer none) = .nilP := rfl
@[go_sem] theorem aconst_nilF : aconst .nilFunc = .nilF := rfl
@[go_sem] theorem aconst_nilM : aconst (.map none) = .nilM := rfl
@[go_sem] theorem aconst_agg (vs : List Value) : aconst (.agg vs.toArray) = .agg (vs.map aconst0) := by simp [aconst]
@[go_sem] theorem cells_agg (cs : List AV) : (AV.agg cs).cells = cs := rfl
@[go_sem] theorem cells_int (k : IntKind) (n : Int) : (AV.int k n).cells = [.int k n] := rfl
@[go_sem] theorem cells_bool (b : Bool) : (AV.bool b).cells = [.bool b] := rfl
@[go_sem] theorem cells_str (s : ByteArray) : (AV.str s).cells = [.str s] := rfl
@[go_sem] theorem cells_slice (l : List AV) : (AV.slice l).cells = [.slice l] := rfl
@[go_sem] theorem cells_own (l : List AV) (t : Nat) : (AV.own l t).cells = [.own l t] := rfl
@[go_sem] theorem cells_lit (l : List AV) : (AV.lit l).cells = [.lit l] := rfl
@[go_sem] theorem cells_nilS : AV.nilS.cells = [.nilS] := rfl
@[go_sem] theorem cells_ptr (i o : Nat) : (AV.ptr i o).cells = [.ptr i o] := rfl
@[go_sem] theorem cells_rptr (l : List AV) : (AV.rptr l).cells = [.rptr l] := rfl
@[go_sem] theorem cells_nilP : AV.nilP.cells = [.nilP] := rfl
@[go_sem] theorem cells_fn (f : FuncId) (l : List AV) : (AV.fn f l).cells = [.fn f l] := rfl
@[go_sem] theorem cells_nilF : AV.nilF.cells = [.nilF] := rfl
@[go_sem] theorem cells_map (i : Nat) : (AV.map i).cells = [.map i] := rfl
@[go_sem] theorem cells_nilM : AV.nilM.cells = [.nilM] := rfl
@[go_sem] theorem cells_any : AV.any.cells = [.any] := rfl
@[go_sem] theorem push_obj (H : AH) (o : AObj) (i : Nat) : (H.push o).obj i = if i = H.n then some o else H.obj i := obj_push H o i
@[go_sem] theorem push_n (H : AH) (o : AObj) : (H.push o).n = H.n + 1 := rfl
@[go_sem] theorem push_m (H : AH) (o : AObj) : (H.push o).m = H.m := rfl
@[go_sem] theorem push_tok (H : AH) (o : AObj) (t : Nat) : (H.push o).tok t = H.tok t := rfl
@[go_sem] theorem put_n (H : AH) (i : Nat) (o : AObj) : (H.put i o).n = H.n := rfl
@[go_sem] theorem put_m (H : AH) (i : Nat) (o : AObj) : (H.put i o).m = H.m := rfl
@[go_sem] theorem put_tok (H : AH) (i : Nat) (o : AObj) (t : Nat) : (H.put i o).tok t = H.tok t := rfl
@[go_sem] theorem put_obj (H : AH) (i : Nat) (o : AObj) (j : Nat) : (H.put i o).obj j = if j = i then (H.obj i).map (fun _ => o) else H.obj j := obj_put H i o j
@[go_sem] theorem pushTok_obj (H : AH) (a : ATok) (i : Nat) : (H.pushTok a).obj i = H.obj i := rfl
@[go_sem] theorem pushTok_n (H : AH) (a : ATok) : (H.pushTok a).n = H.n := rfl
@[go_sem] theorem pushTok_m (H : AH) (a : ATok) : (H.pushTok a).m = H.m + 1 := rfl
@[go_sem] theorem pushTok_tok (H : AH) (a : ATok) (t : Nat) : (H.pushTok a).tok t = if t = H.m then some a else H.tok t := tok_pushTok H a t
@[go_sem] theorem putTok_obj (H : AH) (t : Nat) (a : ATok) (i : Nat) : (H.putTok t a).obj i = H.obj i := rfl
@[go_sem] theorem putTok_n (H : AH) (t : Nat) (a : ATok) : (H.putTok t a).n = H.n := rfl
@[go_sem] theorem putTok_m (H : AH) (t : Nat) (a : ATok) : (H.putTok t a).m = H.m := rfl
@[go_sem] theorem putTok_tok (H : AH) (t : Nat) (a : ATok) (s : Nat) : (H.putTok t a).tok s = if s = t then (H.tok t).map (fun _ => a) else H.tok s := tok_putTok H t a s
attribute [go_sem] List.map_cons List.map_nil List.drop_succ_cons List.drop_zero List.take_succ_cons List.take_zero List.length_cons List.length_nil List.all_cons List.all_nil List.nil_append List.cons_append List.append_nil List.headD_cons
  Option.map_some Option.map_none Bool.and_true Bool.true_and Bool.not_true Bool.not_false true_and and_true forall_const if_true if_false ne_eq not_false_eq_true reduceCtorEq cond_true cond_false List.drop_nil List.take_nil
@[go_sem] theorem get_zero {α : Type} (x : α) (l : List α) : (x :: l)[0]? = some x := rfl
@[go_sem] theorem get_succ {α : Type} (x : α) (l : List α) (n : Nat) : (x :: l)[n + 1]? = l[n]? := rfl
@[go_sem] theorem true_imp (p : Prop) : (True → p) = p := by simp
@[go_sem] theorem false_imp (p : Prop) : (False → p) = True := by simp
@[go_sem] theorem tf : (true = false) = False := by simp
@[go_sem] theorem ft : (false = true) = False := by simp
@[go_sem] theorem tt_ (b : Bool) : (b = b) = True := by simp
def abin2 (tt : TT) (op : BinOp) (t : TypeId) (x y : AV) : Option AV := abin tt op t x y
theorem abin2_eq (tt : TT) (op : BinOp) (t : TypeId) (x y : AV) (h1 : ∀ k a, x ≠ .int k a) (h2 : ∀ a, x ≠ .str a) : abin2 tt op t x y = match tt t with | some i => (match anil i.u x y with | some b => (match op with | .eql => some (.bool b) | .neq => some (.bool (!b)) | _ => none) | none => (match aeqs x.cells y.cells with | some b => if i.eqs ≠ [] ∧ x.cells.map AV.kc = i.eqs ∧ x.isAgg = i.agg ∧ y.isAgg = i.agg then (match op with | .eql => some (.bool b) | .neq => some (.bool (!b)) | _ => none) else none | none => none)) | none => none := by
  unfold abin2 abin
  cases x <;> first | (exact absurd rfl (h1 _ _)) | (exact absurd rfl (h2 _)) | rfl
@[go_sem] theorem abin_int_add (tt : TT) (t : TypeId) (k : IntKind) (a b : Int) : abin tt .add t (.int k a) (.int k b) = some (.int k (k.wrap (a + b))) := by simp [abin]
@[go_sem] theorem abin_int_sub (tt : TT) (t : TypeId) (k : IntKind) (a b : Int) : abin tt .sub t (.int k a) (.int k b) = some (.int k (k.wrap (a - b))) := by simp [abin]
@[go_sem] theorem abin_int_mul (tt : TT) (t : TypeId) (k : IntKind) (a b : Int) : abin tt .mul t (.int k a) (.int k b) = some (.int k (k.wrap (a * b))) := by simp [abin]
@[go_sem] theorem abin_int_eql (tt : TT) (t : TypeId) (k : IntKind) (a b : Int) : abin tt .eql t (.int k a) (.int k b) = some (.bool (decide (a = b))) := by simp [abin]
@[go_sem] theorem abin_int_neq (tt : TT) (t : TypeId) (k : IntKind) (a b : Int) : abin tt .neq t (.int k a) (.int k b) = some (.bool (!decide (a = b))) := by simp [abin]
@[go_sem] theorem abin_int_lss (tt : TT) (t : TypeId) (k : IntKind) (a b : Int) : abin tt .lss t (.int k a) (.int k b) = some (.bool (decide (a < b))) := by simp [abin]
@[go_sem] theorem abin_int_leq (tt : TT) (t : TypeId) (k : IntKind) (a b : Int) : abin tt .leq t (.int k a) (.int k b) = some (.bool (decide (a ≤ b))) := by simp [abin]
@[go_sem] theorem abin_int_gtr (tt : TT) (t : TypeId) (k : IntKind) (a b : Int) : abin tt .gtr t (.int k a) (.int k b) = some (.bool (decide (b < a))) := by simp [abin]
@[go_sem] theorem abin_int_geq (tt : TT) (t : TypeId) (k : IntKind) (a b : Int) : abin tt .geq t (.int k a) (.int k b) = some (.bool (decide (b ≤ a))) := by simp [abin]
@[go_sem] theorem abin_str_eql (tt : TT) (t : TypeId) (a b : ByteArray) : abin tt .eql t (.str a) (.str b) = some (.bool (decide (a = b))) := rfl
@[go_sem] theorem abin_str_neq (tt : TT) (t : TypeId) (a b : ByteArray) : abin tt .neq t (.str a) (.str b) = some (.bool (!decide (a = b))) := rfl
@[go_sem] theorem abin_str_add (tt : TT) (t : TypeId) (a b : ByteArray) : abin tt .add t (.str a) (.str b) = if a.size + b.size ≤ 281474976710656 then some (.str (a ++ b)) else none := rfl
@[go_sem] theorem abin_slice_c_lnilS (tt : TT) (op : BinOp) (t : TypeId) (c : AV) (l : List AV) : abin tt op t (.slice (c :: l)) (.nilS) = abin2 tt op t (.slice (c :: l)) (.nilS) := rfl
@[go_sem] theorem abin2_slice_c_lnilS (tt : TT) (op : BinOp) (t : TypeId) (c : AV) (l : List AV) : abin2 tt op t (.slice (c :: l)) (.nilS) = match tt t with | some ti => (match anil ti.u (.slice (c :: l)) (.nilS) with | some b => (match op with | .eql => some (.bool b) | .neq => some (.bool (!b)) | _ => none) | none => (match aeqs (.slice (c :: l) : AV).cells (.nilS : AV).cells with | some b => if ti.eqs ≠ [] ∧ (.slice (c :: l) : AV).cells.map AV.kc = ti.eqs ∧ (.slice (c :: l) : AV).isAgg = ti.agg ∧ (.nilS : AV).isAgg = ti.agg then (match op with | .eql => some (.bool b) | .neq => some (.bool (!b)) | _ => none) else none | none => none)) | none => none := abin2_eq _ _ _ _ _ (by simp) (by simp)
@[go_sem] theorem abin_own_c_l_inilS (tt : TT) (op : BinOp) (t : TypeId) (c : AV) (l : List AV) (i : Nat) : abin tt op t (.own (c :: l) i) (.nilS) = abin2 tt op t (.own (c :: l) i) (.nilS) := rfl
@[go_sem] theorem abin2_own_c_l_inilS (tt : TT) (op : BinOp) (t : TypeId) (c : AV) (l : List AV) (i : Nat) : abin2 tt op t (.own (c :: l) i) (.nilS) = match tt t with | some ti => (match anil ti.u (.own (c :: l) i) (.nilS) with | some b => (match op with | .eql => some (.bool b) | .neq => some (.bool (!b)) | _ => none) | none => (match aeqs (.own (c :: l) i : AV).cells (.nilS : AV).cells with | some b => if ti.eqs ≠ [] ∧ (.own (c :: l) i : AV).cells.map AV.kc = ti.eqs ∧ (.own (c :: l) i : AV).isAgg = ti.agg ∧ (.nilS : AV).isAgg = ti.agg then (match op with | .eql => some (.bool b) | .neq => some (.bool (!b)) | _ => none) else none | none => none)) | none => none := abin2_eq _ _ _ _ _ (by simp) (by simp)
@[go_sem] theorem abin_raw_vnilS (tt : TT) (op : BinOp) (t : TypeId) (v : Value) : abin tt op t (.raw v) (.nilS) = abin2 tt op t (.raw v) (.nilS) := rfl
@[go_sem] theorem abin2_raw_vnilS (tt : TT) (op : BinOp) (t : TypeId) (v : Value) : abin2 tt op t (.raw v) (.nilS) = match tt t with | some ti => (match anil ti.u (.raw v) (.nilS) with | some b => (match op with | .eql => some (.bool b) | .neq => some (.bool (!b)) | _ => none) | none => (match aeqs (.raw v : AV).cells (.nilS : AV).cells with | some b => if ti.eqs ≠ [] ∧ (.raw v : AV).cells.map AV.kc = ti.eqs ∧ (.raw v : AV).isAgg = ti.agg ∧ (.nilS : AV).isAgg = ti.agg then (match op with | .eql => some (.bool b) | .neq => some (.bool (!b)) | _ => none) else none | none => none)) | none => none := abin2_eq _ _ _ _ _ (by simp) (by simp)
@[go_sem] theorem abin_nilSnilS (tt : TT) (op : BinOp) (t : TypeId)  : abin tt op t (.nilS) (.nilS) = abin2 tt op t (.nilS) (.nilS) := rfl
@[go_sem] theorem abin2_nilSnilS (tt : TT) (op : BinOp) (t : TypeId)  : abin2 tt op t (.nilS) (.nilS) = match tt t with | some ti => (match anil ti.u (.nilS) (.nilS) with | some b => (match op with | .eql => some (.bool b) | .neq => some (.bool (!b)) | _ => none) | none => (match aeqs (.nilS : AV).cells (.nilS : AV).cells with | some b => if ti.eqs ≠ [] ∧ (.nilS : AV).cells.map AV.kc = ti.eqs ∧ (.nilS : AV).isAgg = ti.agg ∧ (.nilS : AV).isAgg = ti.agg then (match op with | .eql => some (.bool b) | .neq => some (.bool (!b)) | _ => none) else none | none => none)) | none => none := abin2_eq _ _ _ _ _ (by simp) (by simp)
@[go_sem] theorem abin_ptr_i_jnilP (tt : TT) (op : BinOp) (t : TypeId) (i : Nat) (j : Nat) : abin tt op t (.ptr i j) (.nilP) = abin2 tt op t (.ptr i j) (.nilP) := rfl
@[go_sem] theorem abin2_ptr_i_jnilP (tt : TT) (op : BinOp) (t : TypeId) (i : Nat) (j : Nat) : abin2 tt op t (.ptr i j) (.nilP) = match tt t with | some ti => (match anil ti.u (.ptr i j) (.nilP) with | some b => (match op with | .eql => some (.bool b) | .neq => some (.bool (!b)) | _ => none) | none => (match aeqs (.ptr i j : AV).cells (.nilP : AV).cells with | some b => if ti.eqs ≠ [] ∧ (.ptr i j : AV).cells.map AV.kc = ti.eqs ∧ (.ptr i j : AV).isAgg = ti.agg ∧ (.nilP : AV).isAgg = ti.agg then (match op with | .eql => some (.bool b) | .neq => some (.bool (!b)) | _ => none) else none | none => none)) | none => none := abin2_eq _ _ _ _ _ (by simp) (by simp)
@[go_sem] theorem abin_rptr_lnilP (tt : TT) (op : BinOp) (t : TypeId) (l : List AV) : abin tt op t (.rptr l) (.nilP) = abin2 tt op t (.rptr l) (.nilP) := rfl
@[go_sem] theorem abin2_rptr_lnilP (tt : TT) (op : BinOp) (t : TypeId) (l : List AV) : abin2 tt op t (.rptr l) (.nilP) = match tt t with | some ti => (match anil ti.u (.rptr l) (.nilP) with | some b => (match op with | .eql => some (.bool b) | .neq => some (.bool (!b)) | _ => none) | none => (match aeqs (.rptr l : AV).cells (.nilP : AV).cells with | some b => if ti.eqs ≠ [] ∧ (.rptr l : AV).cells.map AV.kc = ti.eqs ∧ (.rptr l : AV).isAgg = ti.agg ∧ (.nilP : AV).isAgg = ti.agg then (match op with | .eql => some (.bool b) | .neq => some (.bool (!b)) | _ => none) else none | none => none)) | none => none := abin2_eq _ _ _ _ _ (by simp) (by simp)
@[go_sem] theorem abin_nilPnilP (tt : TT) (op : BinOp) (t : TypeId)  : abin tt op t (.nilP) (.nilP) = abin2 tt op t (.nilP) (.nilP) := rfl
@[go_sem] theorem abin2_nilPnilP (tt : TT) (op : BinOp) (t : TypeId)  : abin2 tt op t (.nilP) (.nilP) = match tt t with | some ti => (match anil ti.u (.nilP) (.nilP) with | some b => (match op with | .eql => some (.bool b) | .neq => some (.bool (!b)) | _ => none) | none => (match aeqs (.nilP : AV).cells (.nilP : AV).cells with | some b => if ti.eqs ≠ [] ∧ (.nilP : AV).cells.map AV.kc = ti.eqs ∧ (.nilP : AV).isAgg = ti.agg ∧ (.nilP : AV).isAgg = ti.agg then (match op with | .eql => some (.bool b) | .neq => some (.bool (!b)) | _ => none) else none | none => none)) | none => none := abin2_eq _ _ _ _ _ (by simp) (by simp)
@[go_sem] theorem abin_fn_i_lnilF (tt : TT) (op : BinOp) (t : TypeId) (l : List AV) (i : Nat) : abin tt op t (.fn i l) (.nilF) = abin2 tt op t (.fn i l) (.nilF) := rfl
@[go_sem] theorem abin2_fn_i_lnilF (tt : TT) (op : BinOp) (t : TypeId) (l : List AV) (i : Nat) : abin2 tt op t (.fn i l) (.nilF) = match tt t with | some ti => (match anil ti.u (.fn i l) (.nilF) with | some b => (match op with | .eql => some (.bool b) | .neq => some (.bool (!b)) | _ => none) | none => (match aeqs (.fn i l : AV).cells (.nilF : AV).cells with | some b => if ti.eqs ≠ [] ∧ (.fn i l : AV).cells.map AV.kc = ti.eqs ∧ (.fn i l : AV).isAgg = ti.agg ∧ (.nilF : AV).isAgg = ti.agg then (match op with | .eql => some (.bool b) | .neq => some (.bool (!b)) | _ => none) else none | none => none)) | none => none := abin2_eq _ _ _ _ _ (by simp) (by simp)
@[go_sem] theorem abin_nilFnilF (tt : TT) (op : BinOp) (t : TypeId)  : abin tt op t (.nilF) (.nilF) = abin2 tt op t (.nilF) (.nilF) := rfl
@[go_sem] theorem abin2_nilFnilF (tt : TT) (op : BinOp) (t : TypeId)  : abin2 tt op t (.nilF) (.nilF) = match tt t with | some ti => (match anil ti.u (.nilF) (.nilF) with | some b => (match op with | .eql => some (.bool b) | .neq => some (.bool (!b)) | _ => none) | none => (match aeqs (.nilF : AV).cells (.nilF : AV).cells with | some b => if ti.eqs ≠ [] ∧ (.nilF : AV).cells.map AV.kc = ti.eqs ∧ (.nilF : AV).isAgg = ti.agg ∧ (.nilF : AV).isAgg = ti.agg then (match op with | .eql => some (.bool b) | .neq => some (.bool (!b)) | _ => none) else none | none => none)) | none => none := abin2_eq _ _ _ _ _ (by simp) (by simp)
@[go_sem] theorem abin_map_inilM (tt : TT) (op : BinOp) (t : TypeId) (i : Nat) : abin tt op t (.map i) (.nilM) = abin2 tt op t (.map i) (.nilM) := rfl
@[go_sem] theorem abin2_map_inilM (tt : TT) (op : BinOp) (t : TypeId) (i : Nat) : abin2 tt op t (.map i) (.nilM) = match tt t with | some ti => (match anil ti.u (.map i) (.nilM) with | some b => (match op with | .eql => some (.bool b) | .neq => some (.bool (!b)) | _ => none) | none => (match aeqs (.map i : AV).cells (.nilM : AV).cells with | some b => if ti.eqs ≠ [] ∧ (.map i : AV).cells.map AV.kc = ti.eqs ∧ (.map i : AV).isAgg = ti.agg ∧ (.nilM : AV).isAgg = ti.agg then (match op with | .eql => some (.bool b) | .neq => some (.bool (!b)) | _ => none) else none | none => none)) | none => none := abin2_eq _ _ _ _ _ (by simp) (by simp)
@[go_sem] theorem abin_nilMnilM (tt : TT) (op : BinOp) (t : TypeId)  : abin tt op t (.nilM) (.nilM) = abin2 tt op t (.nilM) (.nilM) := rfl
@[go_sem] theorem abin2_nilMnilM (tt : TT) (op : BinOp) (t : TypeId)  : abin2 tt op t (.nilM) (.nilM) = match tt t with | some ti => (match anil ti.u (.nilM) (.nilM) with | some b => (match op with | .eql => some (.bool b) | .neq => some (.bool (!b)) | _ => none) | none => (match aeqs (.nilM : AV).cells (.nilM : AV).cells with | some b => if ti.eqs ≠ [] ∧ (.nilM : AV).cells.map AV.kc = ti.eqs ∧ (.nilM : AV).isAgg = ti.agg ∧ (.nilM : AV).isAgg = ti.agg then (match op with | .eql => some (.bool b) | .neq => some (.bool (!b)) | _ => none) else none | none => none)) | none => none := abin2_eq _ _ _ _ _ (by simp) (by simp)
@[go_sem] theorem abin_agg_lagg_l2 (tt : TT) (op : BinOp) (t : TypeId) (l : List AV) (l2 : List AV) : abin tt op t (.agg l) (.agg l2) = abin2 tt op t (.agg l) (.agg l2) := rfl
@[go_sem] theorem abin2_agg_lagg_l2 (tt : TT) (op : BinOp) (t : TypeId) (l : List AV) (l2 : List AV) : abin2 tt op t (.agg l) (.agg l2) = match tt t with | some ti => (match anil ti.u (.agg l) (.agg l2) with | some b => (match op with | .eql => some (.bool b) | .neq => some (.bool (!b)) | _ => none) | none => (match aeqs (.agg l : AV).cells (.agg l2 : AV).cells with | some b => if ti.eqs ≠ [] ∧ (.agg l : AV).cells.map AV.kc = ti.eqs ∧ (.agg l : AV).isAgg = ti.agg ∧ (.agg l2 : AV).isAgg = ti.agg then (match op with | .eql => some (.bool b) | .neq => some (.bool (!b)) | _ => none) else none | none => none)) | none => none := abin2_eq _ _ _ _ _ (by simp) (by simp)
@[go_sem] theorem abin_bool_pbool_q (tt : TT) (op : BinOp) (t : TypeId) (p : Bool) (q : Bool) : abin tt op t (.bool p) (.bool q) = abin2 tt op t (.bool p) (.bool q) := rfl
@[go_sem] theorem abin2_bool_pbool_q (tt : TT) (op : BinOp) (t : TypeId) (p : Bool) (q : Bool) : abin2 tt op t (.bool p) (.bool q) = match tt t with | some ti => (match anil ti.u (.bool p) (.bool q) with | some b => (match op with | .eql => some (.bool b) | .neq => some (.bool (!b)) | _ => none) | none => (match aeqs (.bool p : AV).cells (.bool q : AV).cells with | some b => if ti.eqs ≠ [] ∧ (.bool p : AV).cells.map AV.kc = ti.eqs ∧ (.bool p : AV).isAgg = ti.agg ∧ (.bool q : AV).isAgg = ti.agg then (match op with | .eql => some (.bool b) | .neq => some (.bool (!b)) | _ => none) else none | none => none)) | none => none := abin2_eq _ _ _ _ _ (by simp) (by simp)
end Go.Ai
