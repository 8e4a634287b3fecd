/- A part of the proof: no statement of the seat is proved in this text. -/
import Derived.Test.YtdmhbplibcolbaaGreatAi10
set_option linter.unusedVariables false
set_option linter.unusedSimpArgs false
namespace Go.Ai
open Go Go.RowKit
inductive XO where
  | move (x : Operand)
  | pick (c a b : Operand)
  | alloc (e : TypeId)
  | box (e : TypeId) (x : Operand)
  | load (t : TypeId) (a : Operand)
  | store (t : TypeId) (a x : Operand)
  | bin (op : BinOp) (t : TypeId) (x y : Operand)
  | un (op : UnOp) (x : Operand)
  | conv (s t : TypeId) (x : Operand)
  | fieldAddr (s : TypeId) (x : Operand) (f : Nat)
  | field (s : TypeId) (x : Operand) (f : Nat)
  | indexAddr (t : TypeId) (x i : Operand)
  | index (t : TypeId) (x i : Operand)
  | slice (t : TypeId) (x : Operand) (lo hi : Option Operand)
  | extract (x : Operand) (n : Nat)
  | mkfn (f : FuncId) (caps : List Operand)
  | buildSlice (t : TypeId) (n : Nat) (ps : List (Nat × Operand))
  | empty (t : TypeId)
  | build (t : TypeId) (ps : List (Nat × Operand))
  | len (t : TypeId) (x : Operand)
  | append (t : TypeId) (x y : Operand)
  | range (t : TypeId) (x : Operand)
  | next (x : Operand)
  | max (x y : Operand)
  | call (f : FuncId) (args : List Operand)
  | callv (x : Operand) (args : List Operand)
  | raw (op : Op) (ty : TypeId)
  deriving Inhabited
def XO.of (op : Op) (ty : TypeId) : XO :=
  match op with
  | .move x => .move x
  | .assign x => .move x
  | .pick c a b => .pick c a b
  | .alloc e => .alloc e
  | .box e x => .box e x
  | .load t a => .load t a
  | .store t a x => .store t a x
  | .binOp op t x y _ => .bin op t x y
  | .unOp op _ x => .un op x
  | .convert s t x => .conv s t x
  | .fieldAddr s x f => .fieldAddr s x f
  | .field s x f => .field s x f
  | .indexAddr t x i => .indexAddr t x i
  | .index t x i => .index t x i
  | .slice t x lo hi none => .slice t x lo hi
  | .extract x n => .extract x n
  | .makeFunc (.func f) first caps => if first.size = 0 then .mkfn f caps.toList else .raw op ty
  | .buildSlice t n ps => if n = 0 ∧ ps.size = 0 then .empty t else .buildSlice t n ps.toList
  | .build t ps => .build t ps.toList
  | .range t x => .range t x
  | .next x true => .next x
  | .call c => match c.callee, c.args.toList, c.argTypes.toList with
    | .builtin .len, [x], [t] => .len t x
    | .builtin .append, [x, y], [t, u] => if t = u then .append t x y else .raw op ty
    | .builtin .max, [x, y], _ => .max x y
    | .value (.func f), args, _ => .call f args
    | .value x, args, _ => .callv x args
    | _, _, _ => .raw op ty
  | op => .raw op ty
structure XOp where
  dst : Option Nat
  xo : XO
  guard : Option (Option Nat × Bool)
  deriving Inhabited
def xop (ops : Array Oper) (o : Oper) : XOp := { dst := o.dst, xo := XO.of o.op o.type, guard := o.guard.map fun p => ((ops[p.1]?).bind (·.dst), p.2) }
inductive XCode where
  | skip
  | ret
  | exit (id : Nat)
  | region (l : List XOp)
  | draw (l : List XOp) (af : List (List Nat))
  | seq (a b : XCode)
  | cond (c : Operand) (a b : XCode)
  | block (id : Nat) (b : XCode)
  | loop (b : XCode)
  | scope (b : XCode)
  | other (c : Code)
  deriving Inhabited
def afters (o : Oper) : List Nat := (o.after.toList.filter (Region.binds .any)).map (·.on)
def xc : Code → XCode
  | .skip => .skip
  | .ret => .ret
  | .exit id => .exit id
  | .region id ops draw => if draw then .draw (ops.toList.map (xop ops)) (ops.toList.map afters) else .region (ops.toList.map (xop ops))
  | .seq a b => .seq (xc a) (xc b)
  | .cond c a b => .cond c (xc a) (xc b)
  | .block id b => .block id (xc b)
  | .loop b => .loop (xc b)
  | c => .other c
def dstOk (N : Nat) : Code → Bool
  | .region _ ops _ => ops.toList.all fun o => o.dst.all (· < N)
  | .seq a b => dstOk N a && dstOk N b
  | .cond _ a b => dstOk N a && dstOk N b
  | .block _ b => dstOk N b
  | .loop b => dstOk N b
  | .scope b => dstOk N b
  | .skip | .ret | .exit _ => true
  | _ => false
def astep (tt : TT) (env : Env) (H : AH) (op : XO) (v : AV) (H' : AH) : Prop :=
  match op with
  | .move x => aev env x = v ∧ H = H'
  | .pick c a b => ∃ t, aev env c = .bool t ∧ apick t (aev env a) (aev env b) = v ∧ H = H'
  | .alloc e => ∃ i, tt e = some i ∧ .ptr H.n 0 = v ∧ H.push (.cells i.zero e) = H'
  | .box e x => (aev env x).cells.all AV.scal = true ∧ .ptr H.n 0 = v ∧ H.push (.cells (aev env x).cells e) = H'
  | .load t a => ∃ i, tt t = some i ∧ 0 < i.size ∧ match aev env a with
    | .ptr id off => ∃ cs e, H.obj id = some (.cells cs e) ∧ off + i.size ≤ cs.length ∧ mkA i.agg ((cs.drop off).take i.size) = v ∧ H = H'
    | .rptr cs => i.size ≤ cs.length ∧ mkA i.agg (cs.take i.size) = v ∧ H = H'
    | _ => False
  | .store t a x => ∃ i, tt t = some i ∧ match aev env a with
    | .ptr id off => ∃ cs e, H.obj id = some (.cells cs e) ∧ off + i.size ≤ cs.length ∧ (aev env x).cells.length = i.size ∧ (aev env x).cells.all AV.scal = true ∧
        .any = v ∧ H.put id (.cells (cs.take off ++ (aev env x).cells ++ cs.drop (off + i.size)) e) = H'
    | _ => False
  | .bin op t x y => abin tt op t (aev env x) (aev env y) = some v ∧ H = H'
  | .un op x => aun op (aev env x) = some v ∧ H = H'
  | .conv s t x => ∃ i j k, tt s = some i ∧ tt t = some j ∧ j.u = .int k ∧ match aev env x with
    | .int _ n => .int k (k.wrap n) = v ∧ H = H'
    | _ => False
  | .fieldAddr s x f => ∃ i o z g, tt s = some i ∧ i.fields[f]? = some (o, z, g) ∧ match aev env x with
    | .ptr id off => .ptr id (off + o) = v ∧ H = H'
    | .rptr cs => .rptr (cs.drop o) = v ∧ H = H'
    | _ => False
  | .field s x f => ∃ i o z g, tt s = some i ∧ i.fields[f]? = some (o, z, g) ∧ ∃ cs, aev env x = .agg cs ∧ o + z ≤ cs.length ∧ mkA g ((cs.drop o).take z) = v ∧ H = H'
  | .indexAddr t x ix => ∃ i k n, tt t = some i ∧ aev env ix = .int k n ∧ 0 ≤ n ∧ match i.u with
    | .slice e => ∃ j l y, tt e = some j ∧ (aev env x).elems = some l ∧ l[n.toNat]? = some y ∧ y.cells.length = j.size ∧ .rptr y.cells = v ∧ H = H'
    | .array m e => ∃ j, tt e = some j ∧ n < m ∧ match aev env x with
      | .ptr id off => .ptr id (off + n.toNat * j.size) = v ∧ H = H'
      | _ => False
    | _ => False
  | .index t x ix => ∃ i k n, tt t = some i ∧ aev env ix = .int k n ∧ 0 ≤ n ∧ match i.u with
    | .string => ∃ s, aev env x = .str s ∧ n < s.size ∧ .int .u8 (byteAt s n.toNat) = v ∧ H = H'
    | .array m e => ∃ j cs, tt e = some j ∧ aev env x = .agg cs ∧ n < m ∧ n.toNat * j.size + j.size ≤ cs.length ∧ 0 < j.size ∧ mkA j.agg ((cs.drop (n.toNat * j.size)).take j.size) = v ∧ H = H'
    | _ => False
  | .slice t x lo hi => ∃ i, tt t = some i ∧ match i.u with
    | .slice e => ∃ j l a b, tt e = some j ∧ (aev env x).elems = some l ∧ abound env 0 lo = some a ∧ abound env l.length hi = some b ∧ 0 ≤ a ∧ a ≤ b ∧ b ≤ l.length ∧ (∀ y, y ∈ l → y.cells.length = j.size) ∧
        .slice ((l.drop a.toNat).take (b.toNat - a.toNat)) = v ∧ H = H'
    | .string => ∃ s a b, aev env x = .str s ∧ abound env 0 lo = some a ∧ abound env s.size hi = some b ∧ 0 ≤ a ∧ a ≤ b ∧ b ≤ s.size ∧ .str (s.extract a.toNat b.toNat) = v ∧ H = H'
    | _ => False
  | .extract x n => ∃ vs, aev env x = .tup vs ∧ vs[n]? = some v ∧ H = H'
  | .mkfn f caps => .fn f (caps.map (aev env)) = v ∧ H = H'
  | .buildSlice t n ps => ∃ i, tt t = some i ∧ match i.u with
    | .slice e => ∃ j, tt e = some j ∧ ps.map (·.1) = List.range' 0 n ∧ (∀ x, x ∈ ps.map (fun p => aev env p.2) → x.cells.length = j.size ∧ x.cells.all AV.scal = true) ∧ n * j.size ≤ 16777216 ∧ 0 < j.size ∧
        .lit (ps.map fun p => aev env p.2) = v ∧ H = H'
    | _ => False
  | .empty t => ∃ i, tt t = some i ∧ match i.u with
    | .slice e => ∃ j, tt e = some j ∧ 0 < j.size ∧ .own [] H.m = v ∧ H.pushTok ⟨0, e, j.size⟩ = H'
    | _ => False
  | .build t ps => ∃ i ds, tt t = some i ∧ (match i.u with
    | .struct _ => afill (fun k => (i.fields[k]?).map fun x => (x.1, x.2.1)) i.zero (ps.map fun p => (p.1, aev env p.2)) = some ds
    | .array m e => ∃ j, tt e = some j ∧ afill (fun k => some (k * j.size, j.size)) i.zero (ps.map fun p => (p.1, aev env p.2)) = some ds
    | _ => False) ∧ .agg ds = v ∧ H = H'
  | .len t x => ∃ i, tt t = some i ∧ match i.u with
    | .slice e => ∃ l, (aev env x).elems = some l ∧ .int .i64 l.length = v ∧ H = H'
    | .string => ∃ s, aev env x = .str s ∧ .int .i64 s.size = v ∧ H = H'
    | _ => False
  | .append t x y => ∃ i, tt t = some i ∧ match i.u with
    | .slice e => ∃ j ys, tt e = some j ∧ (aev env y).elems = some ys ∧ (∀ z, z ∈ ys → z.cells.length = j.size ∧ z.cells.all AV.scal = true) ∧ 0 < j.size ∧ match aev env x with
      | .own l tk => H.tok tk = some ⟨l.length, e, j.size⟩ ∧ (l.length + ys.length) * j.bytes ≤ 140737488355328 ∧ l.length + ys.length ≤ 281474976710656 ∧
          .own (l ++ ys) tk = v ∧ H.putTok tk ⟨(l ++ ys).length, e, j.size⟩ = H'
      | .nilS => ys.length * j.bytes ≤ 140737488355328 ∧ ys.length ≤ 281474976710656 ∧ .own ys H.m = v ∧ H.pushTok ⟨ys.length, e, j.size⟩ = H'
      | .lit l => (∀ z, z ∈ l → z.cells.length = j.size) ∧ (l.length + ys.length) * j.bytes ≤ 140737488355328 ∧ l.length + ys.length ≤ 281474976710656 ∧ .slice (l ++ ys) = v ∧ H = H'
      | _ => False
    | _ => False
  | .range t x => ∃ i s, tt t = some i ∧ i.u = .string ∧ aev env x = .str s ∧ .ptr H.n 0 = v ∧ H.push (.iter s 0) = H'
  | .next x => ∃ id s pos, aev env x = .ptr id 0 ∧ H.obj id = some (.iter s pos) ∧ s.size ≤ 281474976710656 ∧
      ((pos < s.size ∧ .tup [.bool true, .int .i64 pos, .int .i32 (Utf8.decode s pos).1] = v ∧ H.put id (.iter s (pos + (Utf8.decode s pos).2)) = H') ∨ (¬ pos < s.size ∧ .tup [.bool false] = v ∧ H = H'))
  | .max x y => ∃ k n m, aev env x = .int k n ∧ aev env y = .int k m ∧ .int k (if m > n then m else n) = v ∧ H = H'
  | .call _ _ | .callv _ _ | .raw _ _ => False
section
variable {P : Program} {w0 : World} {tt : TT} {env : Env} {H H' : AH} {ty : TypeId} {v : AV}
theorem astep_ok (htt : TtOk P tt) {op : Op} (h : astep tt env H (XO.of op ty) v H') : OpOk P w0 env H op ty v H' := by
  unfold XO.of at h
  split at h
  · obtain ⟨rfl, rfl⟩ := h; exact ok_move _
  · obtain ⟨rfl, rfl⟩ := h; exact ok_assign _
  · obtain ⟨t, h1, rfl, rfl⟩ := h; exact ok_pick _ _ _ t h1
  · obtain ⟨i, h1, rfl, rfl⟩ := h; exact ok_alloc htt _ i h1
  · obtain ⟨h1, rfl, rfl⟩ := h; exact ok_box _ _ h1
  · obtain ⟨i, h1, h2, h⟩ := h
    split at h
    · rename_i hx; obtain ⟨cs, e, h3, h4, rfl, rfl⟩ := h; exact ok_load_ptr htt _ _ i h1 _ _ hx cs e h3 h4 h2
    · rename_i hx; obtain ⟨h3, rfl, rfl⟩ := h; exact ok_load_rptr htt _ _ i h1 _ hx h3 h2
    · cases h
  · obtain ⟨i, h1, h⟩ := h
    split at h
    · rename_i hx; obtain ⟨cs, e, h3, h4, h5, h6, rfl, rfl⟩ := h; exact ok_store htt _ _ _ i h1 _ _ hx cs e h3 h4 h5 h6
    · cases h
  · obtain ⟨h, rfl⟩ := h; exact ok_bin htt _ _ _ _ _ _ h
  · obtain ⟨h, rfl⟩ := h; exact ok_un _ _ _ _ h
  · obtain ⟨i, j, k, h1, h2, h3, h⟩ := h
    split at h
    · rename_i hx; obtain ⟨rfl, rfl⟩ := h; exact ok_conv_int htt _ _ _ i j k _ _ h1 h2 h3 hx
    · cases h
  · obtain ⟨i, o, z, g, h1, h2, h⟩ := h
    split at h
    · rename_i hx; obtain ⟨rfl, rfl⟩ := h; exact ok_fieldAddr_ptr htt _ _ _ i h1 _ _ o z g hx h2
    · rename_i hx; obtain ⟨rfl, rfl⟩ := h; exact ok_fieldAddr_rptr htt _ _ _ i h1 _ o z g hx h2
    · cases h
  · obtain ⟨i, o, z, g, h1, h2, cs, h3, h4, rfl, rfl⟩ := h; exact ok_field htt _ _ _ i h1 cs o z g h3 h2 h4
  · obtain ⟨i, k, n, h1, h2, h3, h⟩ := h
    split at h
    · rename_i hu; obtain ⟨j, l, y, h4, h5, h6, h7, rfl, rfl⟩ := h; exact ok_indexAddr htt _ _ _ i j _ h1 hu h4 l h5 k n h2 h3 y h6 h7
    · rename_i hu; obtain ⟨j, h4, h5, h⟩ := h
      split at h
      · rename_i hx; obtain ⟨rfl, rfl⟩ := h; exact ok_indexAddr_arr htt _ _ _ i j _ _ h1 hu h4 _ _ hx k n h2 h3 h5
      · cases h
    · cases h
  · obtain ⟨i, k, n, h1, h2, h3, h⟩ := h
    split at h
    · rename_i hu; obtain ⟨s, h4, h5, rfl, rfl⟩ := h; exact ok_index_str htt _ _ _ i h1 hu s h4 k n h2 h3 h5
    · rename_i hu; obtain ⟨j, cs, h4, h5, h6, h7, h8, rfl, rfl⟩ := h; exact ok_index_arr htt _ _ _ i j _ _ h1 hu h4 cs h5 k n h2 h3 h6 h7 h8
    · cases h
  · obtain ⟨i, h1, h⟩ := h
    split at h
    · rename_i hu; obtain ⟨j, l, a, b, h2, h3, h4, h5, h6, h7, h8, h9, rfl, rfl⟩ := h; exact ok_slice htt _ _ _ _ i j _ h1 hu h2 l h3 a b h4 h5 h6 h7 h8 h9
    · rename_i hu; obtain ⟨s, a, b, h2, h3, h4, h5, h6, h7, rfl, rfl⟩ := h; exact ok_slice_str htt _ _ _ _ i h1 hu s h2 a b h3 h4 h5 h6 h7
    · cases h
  · obtain ⟨vs, h1, h2, rfl⟩ := h; exact ok_extract _ _ vs h1 v h2
  · split at h
    · rename_i f first caps hz
      obtain ⟨rfl, rfl⟩ := h
      have : first = #[] := Array.eq_empty_of_size_eq_zero hz
      subst this
      exact ok_makeFunc _ _
    · cases h
  · split at h
    · rename_i t n ps hz
      obtain ⟨rfl, hz⟩ := hz
      have : ps = #[] := Array.eq_empty_of_size_eq_zero hz
      subst this
      obtain ⟨i, h1, h⟩ := h
      split at h
      · rename_i hu; obtain ⟨j, h2, h3, rfl, rfl⟩ := h; exact ok_buildSlice_own htt _ i h1 _ j h2 hu 0 #[] rfl (by simp) (by simp) h3
      · cases h
    · obtain ⟨i, h1, h⟩ := h
      split at h
      · rename_i hu; obtain ⟨j, h2, h3, h4, h5, h6, rfl, rfl⟩ := h; exact ok_buildSlice htt _ i h1 _ j h2 hu _ _ h3 h4 h5 h6
      · cases h
  · obtain ⟨i, ds, h1, h, rfl, rfl⟩ := h
    split at h
    · rename_i hu; exact ok_build_struct htt _ i h1 _ hu _ ds h
    · rename_i hu; obtain ⟨j, h2, h⟩ := h; exact ok_build_array htt _ i h1 _ _ j h2 hu _ ds h
    · cases h
  · obtain ⟨i, s, h1, hu, h2, rfl, rfl⟩ := h; exact ok_range htt _ _ i h1 hu s h2
  · obtain ⟨id, s, pos, h1, h2, h3, ⟨h4, rfl, rfl⟩ | ⟨h4, rfl, rfl⟩⟩ := h
    · exact ok_next_more _ id h1 s pos h2 h4 h3
    · exact ok_next_end _ id h1 s pos h2 h4
  · rename_i c
    obtain ⟨callee, args, argTypes⟩ := c
    simp only at h
    split at h
    · rename_i x t ha ht
      obtain rfl : args = #[x] := by apply Array.ext'; simpa using ha
      obtain rfl : argTypes = #[t] := by apply Array.ext'; simpa using ht
      obtain ⟨i, h1, h⟩ := h
      split at h
      · rename_i hu; obtain ⟨l, h2, rfl, rfl⟩ := h; exact ok_len_slice htt _ _ i h1 _ hu l h2
      · rename_i hu; obtain ⟨s, h2, rfl, rfl⟩ := h; exact ok_len_str htt _ _ i h1 hu s h2
      · cases h
    · rename_i x y t u ha ht
      obtain rfl : args = #[x, y] := by apply Array.ext'; simpa using ha
      obtain rfl : argTypes = #[t, u] := by apply Array.ext'; simpa using ht
      split at h
      · rename_i e
        subst e
        obtain ⟨i, h1, h⟩ := h
        split at h
        · rename_i hu
          obtain ⟨j, ys, h2, h3, h4, h5, h⟩ := h
          split at h
          · rename_i hx; obtain ⟨h6, h7, h8, rfl, rfl⟩ := h; exact ok_append_own htt _ _ _ i j _ h1 hu h2 _ ys _ hx h3 h6 h4 h5 h7 h8
          · rename_i hx; obtain ⟨h6, h7, rfl, rfl⟩ := h; exact ok_append_nil htt _ _ _ i j _ h1 hu h2 ys hx h3 h4 h5 h6 h7
          · rename_i hx; obtain ⟨h6, h7, h8, rfl, rfl⟩ := h; exact ok_append_lit htt _ _ _ i j _ h1 hu h2 _ ys hx h3 h6 h4 h5 h7 h8
          · cases h
        · cases h
      · cases h
    · rename_i x y ha
      obtain rfl : args = #[x, y] := by apply Array.ext'; simpa using ha
      obtain ⟨k, n, m, h1, h2, rfl, rfl⟩ := h
      exact ok_max _ _ k n m h1 h2 argTypes
    · cases h
    · cases h
    · cases h
  · cases h
end
def withT (o : Option TyI) (K : TyI → Prop) : Prop := match o with | some i => K i | none => False
def withAV (o : Option AV) (K : AV → Prop) : Prop := match o with | some i => K i | none => False
def withL (o : Option (List AV)) (K : List AV → Prop) : Prop := match o with | some i => K i | none => False
def withI (o : Option Int) (K : Int → Prop) : Prop := match o with | some i => K i | none => False
def withF (o : Option (Nat × Nat × Bool)) (K : Nat → Nat → Bool → Prop) : Prop := match o with | some (a, b, c) => K a b c | none => False
def withPtr (v : AV) (Kp : Nat → Nat → Prop) (Kr : List AV → Prop) : Prop := match v with | .ptr id off => Kp id off | .rptr cs => Kr cs | _ => False
def withObj (o : Option AObj) (K : List AV → TypeId → Prop) : Prop := match o with | some (.cells cs e) => K cs e | _ => False
def withIter (o : Option AObj) (K : ByteArray → Nat → Prop) : Prop := match o with | some (.iter s pos) => K s pos | _ => False
def withBool (v : AV) (K : Bool → Prop) : Prop := match v with | .bool b => K b | _ => False
def withInt (v : AV) (K : IntKind → Int → Prop) : Prop := match v with | .int k n => K k n | _ => False
def withStr (v : AV) (K : ByteArray → Prop) : Prop := match v with | .str s => K s | _ => False
def withTup (v : AV) (K : List AV → Prop) : Prop := match v with | .tup s => K s | _ => False
def withFn (v : AV) (K : FuncId → List AV → Prop) : Prop := match v with | .fn f cs => K f cs | _ => False
def withDesc (u : TypeDesc) (Ks : TypeId → Prop) (Ka : Nat → TypeId → Prop) (Kstr Kst : Prop) (Ki : IntKind → Prop) : Prop :=
  match u with | .slice e => Ks e | .array n e => Ka n e | .string => Kstr | .struct _ => Kst | .int k => Ki k | _ => False
def withOwn (v : AV) (Ko : List AV → Nat → Prop) (Kn : Prop) (Kl : List AV → Prop) : Prop := match v with | .own l t => Ko l t | .nilS => Kn | .lit l => Kl l | _ => False
def withTrue (b : Bool) (K : Prop) : Prop := match b with | true => K | false => False
def astepK (tt : TT) (env : Env) (H : AH) (op : XO) (K : AV → AH → Prop) : Prop :=
  match op with
  | .move x => K (aev env x) H
  | .pick c a b => withBool (aev env c) fun t => K (apick t (aev env a) (aev env b)) H
  | .alloc e => withT (tt e) fun i => K (.ptr H.n 0) (H.push (.cells i.zero e))
  | .box e x => (aev env x).cells.all AV.scal = true ∧ K (.ptr H.n 0) (H.push (.cells (aev env x).cells e))
  | .load t a => withT (tt t) fun i => withPtr (aev env a)
      (fun id off => withObj (H.obj id) fun cs _ => (0 < i.size ∧ off + i.size ≤ cs.length) ∧ K (mkA i.agg ((cs.drop off).take i.size)) H)
      (fun cs => (0 < i.size ∧ i.size ≤ cs.length) ∧ K (mkA i.agg (cs.take i.size)) H)
  | .store t a x => withT (tt t) fun i => withPtr (aev env a)
      (fun id off => withObj (H.obj id) fun cs e => (off + i.size ≤ cs.length ∧ (aev env x).cells.length = i.size ∧ (aev env x).cells.all AV.scal = true) ∧
            K .any (H.put id (.cells (cs.take off ++ (aev env x).cells ++ cs.drop (off + i.size)) e)))
      (fun _ => False)
  | .bin op t x y => withAV (abin tt op t (aev env x) (aev env y)) fun v => K v H
  | .un op x => withAV (aun op (aev env x)) fun v => K v H
  | .conv s t x => withT (tt s) fun _ => withT (tt t) fun j => withDesc j.u (fun _ => False) (fun _ _ => False) False False fun k => withInt (aev env x) fun _ n => K (.int k (k.wrap n)) H
  | .fieldAddr s x f => withT (tt s) fun i => withF (i.fields[f]?) fun o _ _ => withPtr (aev env x) (fun id off => K (.ptr id (off + o)) H) (fun cs => K (.rptr (cs.drop o)) H)
  | .field s x f => withT (tt s) fun i => withF (i.fields[f]?) fun o z g => withTrue (aev env x).isAgg (o + z ≤ (aev env x).cells.length ∧ K (mkA g (((aev env x).cells.drop o).take z)) H)
  | .indexAddr t x ix => withT (tt t) fun i => withInt (aev env ix) fun _ n => withDesc i.u
      (fun e => withT (tt e) fun j => withL (aev env x).elems fun l => withAV (l[n.toNat]?) fun y => (0 ≤ n ∧ y.cells.length = j.size) ∧ K (.rptr y.cells) H)
      (fun m e => withT (tt e) fun j => withPtr (aev env x) (fun id off => (0 ≤ n ∧ n < m) ∧ K (.ptr id (off + n.toNat * j.size)) H) (fun _ => False))
      False False (fun _ => False)
  | .index t x ix => withT (tt t) fun i => withInt (aev env ix) fun _ n => withDesc i.u
      (fun _ => False)
      (fun m e => withT (tt e) fun j => withTrue (aev env x).isAgg ((0 ≤ n ∧ n < m ∧ n.toNat * j.size + j.size ≤ (aev env x).cells.length ∧ 0 < j.size) ∧ K (mkA j.agg (((aev env x).cells.drop (n.toNat * j.size)).take j.size)) H))
      (withStr (aev env x) fun s => (0 ≤ n ∧ n < s.size) ∧ K (.int .u8 (byteAt s n.toNat)) H) False (fun _ => False)
  | .slice t x lo hi => withT (tt t) fun i => withDesc i.u
      (fun e => withT (tt e) fun j => withL (aev env x).elems fun l => withI (abound env 0 lo) fun a => withI (abound env l.length hi) fun b =>
        (0 ≤ a ∧ a ≤ b ∧ b ≤ l.length) ∧ (∀ y, y ∈ l → y.cells.length = j.size) ∧ K (.slice ((l.drop a.toNat).take (b.toNat - a.toNat))) H)
      (fun _ _ => False)
      (withStr (aev env x) fun s => withI (abound env 0 lo) fun a => withI (abound env s.size hi) fun b => (0 ≤ a ∧ a ≤ b ∧ b ≤ s.size) ∧ K (.str (s.extract a.toNat b.toNat)) H)
      False (fun _ => False)
  | .extract x n => withTup (aev env x) fun vs => withAV (vs[n]?) fun v => K v H
  | .mkfn f caps => K (.fn f (caps.map (aev env))) H
  | .buildSlice t n ps => withT (tt t) fun i => withDesc i.u
      (fun e => withT (tt e) fun j => (ps.map (·.1) = List.range' 0 n ∧ (∀ x, x ∈ ps.map (fun p => aev env p.2) → x.cells.length = j.size ∧ x.cells.all AV.scal = true) ∧ n * j.size ≤ 16777216 ∧ 0 < j.size) ∧ K (.lit (ps.map fun p => aev env p.2)) H)
      (fun _ _ => False) False False (fun _ => False)
  | .empty t => withT (tt t) fun i => withDesc i.u
      (fun e => withT (tt e) fun j => (([] : List Nat) = List.range' 0 0 ∧ (∀ x, x ∈ ([] : List AV) → x.cells.length = j.size ∧ x.cells.all AV.scal = true) ∧ 0 * j.size ≤ 16777216 ∧ 0 < j.size) ∧ K (.own [] H.m) (H.pushTok ⟨([] : List AV).length, e, j.size⟩))
      (fun _ _ => False) False False (fun _ => False)
  | .build t ps => withT (tt t) fun i => withDesc i.u (fun _ => False)
      (fun _ e => withT (tt e) fun j => withL (afill (fun k => some (k * j.size, j.size)) i.zero (ps.map fun p => (p.1, aev env p.2))) fun ds => K (.agg ds) H)
      False
      (withL (afill (fun k => (i.fields[k]?).map fun x => (x.1, x.2.1)) i.zero (ps.map fun p => (p.1, aev env p.2))) fun ds => K (.agg ds) H)
      (fun _ => False)
  | .len t x => withT (tt t) fun i => withDesc i.u (fun _ => withL (aev env x).elems fun l => K (.int .i64 l.length) H) (fun _ _ => False)
      (withStr (aev env x) fun s => K (.int .i64 s.size) H) False (fun _ => False)
  | .append t x y => withT (tt t) fun i => withDesc i.u
      (fun e => withT (tt e) fun j => withL (aev env y).elems fun ys => ((∀ z, z ∈ ys → z.cells.length = j.size ∧ z.cells.all AV.scal = true) ∧ 0 < j.size) ∧ withOwn (aev env x)
        (fun l tk => H.tok tk = some ⟨l.length, e, j.size⟩ ∧ ((l.length + ys.length) * j.bytes ≤ 140737488355328 ∧ l.length + ys.length ≤ 281474976710656) ∧
          K (.own (l ++ ys) tk) (H.putTok tk ⟨(l ++ ys).length, e, j.size⟩))
        ((ys.length * j.bytes ≤ 140737488355328 ∧ ys.length ≤ 281474976710656) ∧ K (.own ys H.m) (H.pushTok ⟨ys.length, e, j.size⟩))
        (fun l => (∀ z, z ∈ l → z.cells.length = j.size) ∧ ((l.length + ys.length) * j.bytes ≤ 140737488355328 ∧ l.length + ys.length ≤ 281474976710656) ∧ K (.slice (l ++ ys)) H))
      (fun _ _ => False) False False (fun _ => False)
  | .range t x => withT (tt t) fun i => withDesc i.u (fun _ => False) (fun _ _ => False) (withStr (aev env x) fun s => K (.ptr H.n 0) (H.push (.iter s 0))) False (fun _ => False)
  | .next x => withPtr (aev env x) (fun id off => off = 0 ∧ withIter (H.obj id) fun s pos => s.size ≤ 281474976710656 ∧ (pos < s.size → K (.tup [.bool true, .int .i64 pos, .int .i32 (Utf8.decode s pos).1]) (H.put id (.iter s (pos + (Utf8.decode s pos).2)))) ∧ (¬ pos < s.size → K (.tup [.bool false]) H)) (fun _ => False)
  | .max x y => withInt (aev env x) fun k n => withInt (aev env y) fun k' m => k' = k ∧ K (.int k (if m > n then m else n)) H
  | .call _ _ | .callv _ _ | .raw _ _ => False
theorem withIter_iff {o : Option AObj} {K : ByteArray → Nat → Prop} (h : withIter o K) : ∃ s pos, o = some (.iter s pos) ∧ K s pos := by
  cases o with
  | none => cases h
  | some x => cases x <;> simp [withIter] at h; exact ⟨_, _, rfl, h⟩
theorem withT_iff {o : Option TyI} {K : TyI → Prop} (h : withT o K) : ∃ i, o = some i ∧ K i := by cases o <;> simp [withT] at h; exact ⟨_, rfl, h⟩
theorem withAV_iff {o : Option AV} {K : AV → Prop} (h : withAV o K) : ∃ i, o = some i ∧ K i := by cases o <;> simp [withAV] at h; exact ⟨_, rfl, h⟩
theorem withL_iff {o : Option (List AV)} {K : List AV → Prop} (h : withL o K) : ∃ i, o = some i ∧ K i := by cases o <;> simp [withL] at h; exact ⟨_, rfl, h⟩
theorem withI_iff {o : Option Int} {K : Int → Prop} (h : withI o K) : ∃ i, o = some i ∧ K i := by cases o <;> simp [withI] at h; exact ⟨_, rfl, h⟩
theorem withF_iff {o : Option (Nat × Nat × Bool)} {K : Nat → Nat → Bool → Prop} (h : withF o K) : ∃ a b c, o = some (a, b, c) ∧ K a b c := by
  cases o with
  | none => cases h
  | some p => obtain ⟨a, b, c⟩ := p; exact ⟨a, b, c, rfl, h⟩
theorem withPtr_iff {v : AV} {Kp : Nat → Nat → Prop} {Kr : List AV → Prop} (h : withPtr v Kp Kr) : (∃ id off, v = .ptr id off ∧ Kp id off) ∨ ∃ cs, v = .rptr cs ∧ Kr cs := by
  cases v <;> simp [withPtr] at h
  · exact .inl ⟨_, _, rfl, h⟩
  · exact .inr ⟨_, rfl, h⟩
theorem withObj_iff {o : Option AObj} {K : List AV → TypeId → Prop} (h : withObj o K) : ∃ cs e, o = some (.cells cs e) ∧ K cs e := by
  cases o with
  | none => cases h
  | some x => cases x <;> simp [withObj] at h; exact ⟨_, _, rfl, h⟩
def withGuard (v : AV) (K : Bool → Prop) (S : Prop) : Prop := match v with | .bool b => K b | .tup [] => S | _ => False
theorem withGuard_iff {v : AV} {K : Bool → Prop} {S : Prop} (h : withGuard v K S) : (∃ b, v = .bool b ∧ K b) ∨ (v = .tup [] ∧ S) := by
  unfold withGuard at h
  split at h
  · exact .inl ⟨_, rfl, h⟩
  · exact .inr ⟨rfl, h⟩
  · exact h.elim
theorem Rep.undef {G : Gh} : Rep G (.tup []) Go.undef := .tup [] [] rfl (by simp)
theorem Rep.undef_inv {G : Gh} {v : Value} (h : Rep G (.tup []) v) : v = Go.undef := by
  cases h with
  | tup _ vs hl hr => cases vs with | nil => rfl | cons _ _ => simp at hl
theorem withBool_iff {v : AV} {K : Bool → Prop} (h : withBool v K) : ∃ b, v = .bool b ∧ K b := by cases v <;> simp [withBool] at h; exact ⟨_, rfl, h⟩
theorem withInt_iff {v : AV} {K : IntKind → Int → Prop} (h : withInt v K) : ∃ k n, v = .int k n ∧ K k n := by cases v <;> simp [withInt] at h; exact ⟨_, _, rfl, h⟩
theorem withStr_iff {v : AV} {K : ByteArray → Prop} (h : withStr v K) : ∃ k, v = .str k ∧ K k := by cases v <;> simp [withStr] at h; exact ⟨_, rfl, h⟩
theorem withTup_iff {v : AV} {K : List AV → Prop} (h : withTup v K) : ∃ k, v = .tup k ∧ K k := by cases v <;> simp [withTup] at h; exact ⟨_, rfl, h⟩
theorem withFn_iff {v : AV} {K : FuncId → List AV → Prop} (h : withFn v K) : ∃ f cs, v = .fn f cs ∧ K f cs := by cases v <;> simp [withFn] at h; exact ⟨_, _, rfl, h⟩
theorem withOwn_iff {v : AV} {Ko : List AV → Nat → Prop} {Kn : Prop} {Kl : List AV → Prop} (h : withOwn v Ko Kn Kl) : (∃ l t, v = .own l t ∧ Ko l t) ∨ (v = .nilS ∧ Kn) ∨ ∃ l, v = .lit l ∧ Kl l := by
  cases v <;> simp [withOwn] at h
  · exact .inr (.inl ⟨rfl, h⟩)
  · exact .inl ⟨_, _, rfl, h⟩
  · exact .inr (.inr ⟨_, rfl, h⟩)
theorem withTrue_iff {b : Bool} {K : Prop} (h : withTrue b K) : b = true ∧ K := by
  cases b
  · cases h
  · exact ⟨rfl, h⟩
theorem withDesc_iff {u : TypeDesc} {Ks : TypeId → Prop} {Ka : Nat → TypeId → Prop} {Kstr Kst : Prop} {Ki : IntKind → Prop} (h : withDesc u Ks Ka Kstr Kst Ki) :
    (∃ e, u = .slice e ∧ Ks e) ∨ (∃ n e, u = .array n e ∧ Ka n e) ∨ (u = .string ∧ Kstr) ∨ (∃ fs, u = .struct fs ∧ Kst) ∨ ∃ k, u = .int k ∧ Ki k := by
  cases u <;> simp [withDesc] at h
  · exact .inr (.inr (.inr (.inr ⟨_, rfl, h⟩)))
  · exact .inr (.inr (.inl ⟨rfl, h⟩))
  · exact .inl ⟨_, rfl, h⟩
  · exact .inr (.inl ⟨_, _, rfl, h⟩)
  · exact .inr (.inr (.inr (.inl ⟨_, rfl, h⟩)))
theorem isAgg_form {x : AV} (h : x.isAgg = true) : ∃ cs, x = .agg cs ∧ x.cells = cs := by
  cases x <;> simp [AV.isAgg] at h
  exact ⟨_, rfl, rfl⟩
theorem astepK_rel {tt : TT} {env : Env} {H : AH} {op : XO} {K : AV → AH → Prop} (h : astepK tt env H op K) : ∃ v H', astep tt env H op v H' ∧ K v H' := by
  cases op with
  | move x => exact ⟨_, _, ⟨rfl, rfl⟩, h⟩
  | pick c a b => obtain ⟨t, h1, h⟩ := withBool_iff h; exact ⟨_, _, ⟨t, h1, rfl, rfl⟩, h⟩
  | alloc e => obtain ⟨i, h1, h⟩ := withT_iff h; exact ⟨_, _, ⟨i, h1, rfl, rfl⟩, h⟩
  | box e x => exact ⟨_, _, ⟨h.1, rfl, rfl⟩, h.2⟩
  | load t a =>
    obtain ⟨i, h1, h⟩ := withT_iff h
    rcases withPtr_iff h with ⟨id, off, hx, h⟩ | ⟨cs, hx, h⟩
    · obtain ⟨cs, e, h2, h⟩ := withObj_iff h
      refine ⟨_, _, ⟨i, h1, h.1.1, ?_⟩, h.2⟩
      rw [hx]; exact ⟨_, _, h2, h.1.2, rfl, rfl⟩
    · refine ⟨_, _, ⟨i, h1, h.1.1, ?_⟩, h.2⟩
      rw [hx]; exact ⟨h.1.2, rfl, rfl⟩
  | store t a x =>
    obtain ⟨i, h1, h⟩ := withT_iff h
    rcases withPtr_iff h with ⟨id, off, hx, h⟩ | ⟨cs, hx, h⟩
    · obtain ⟨cs, e, h2, h⟩ := withObj_iff h
      refine ⟨_, _, ⟨i, h1, ?_⟩, h.2⟩
      rw [hx]; exact ⟨_, _, h2, h.1.1, h.1.2.1, h.1.2.2, rfl, rfl⟩
    · cases h
  | bin op t x y => obtain ⟨v, h1, h⟩ := withAV_iff h; exact ⟨_, _, ⟨h1, rfl⟩, h⟩
  | un op x => obtain ⟨v, h1, h⟩ := withAV_iff h; exact ⟨_, _, ⟨h1, rfl⟩, h⟩
  | conv s t x =>
    obtain ⟨i, h1, h⟩ := withT_iff h
    obtain ⟨j, h2, h⟩ := withT_iff h
    rcases withDesc_iff h with ⟨_, _, h⟩ | ⟨_, _, _, h⟩ | ⟨_, h⟩ | ⟨_, _, h⟩ | ⟨k, h3, h⟩ <;> (try cases h; done)
    obtain ⟨k', n, hx, h⟩ := withInt_iff h
    refine ⟨_, _, ⟨i, j, k, h1, h2, h3, ?_⟩, h⟩
    rw [hx]; exact ⟨rfl, rfl⟩
  | fieldAddr s x f =>
    obtain ⟨i, h1, h⟩ := withT_iff h
    obtain ⟨o, z, g, h2, h⟩ := withF_iff h
    rcases withPtr_iff h with ⟨id, off, hx, h⟩ | ⟨cs, hx, h⟩
    · refine ⟨_, _, ⟨i, o, z, g, h1, h2, ?_⟩, h⟩
      rw [hx]; exact ⟨rfl, rfl⟩
    · refine ⟨_, _, ⟨i, o, z, g, h1, h2, ?_⟩, h⟩
      rw [hx]; exact ⟨rfl, rfl⟩
  | field s x f =>
    obtain ⟨i, h1, h⟩ := withT_iff h
    obtain ⟨o, z, g, h2, h⟩ := withF_iff h
    obtain ⟨hx, h⟩ := withTrue_iff h
    obtain ⟨cs, h3, h4⟩ := isAgg_form hx
    rw [h4] at h
    exact ⟨_, _, ⟨i, o, z, g, h1, h2, cs, h3, h.1, rfl, rfl⟩, h.2⟩
  | indexAddr t x ix =>
    obtain ⟨i, h1, h⟩ := withT_iff h
    obtain ⟨k, n, h2, h⟩ := withInt_iff h
    rcases withDesc_iff h with ⟨e, hu, h⟩ | ⟨m, e, hu, h⟩ | ⟨_, h⟩ | ⟨_, _, h⟩ | ⟨k, h3, h⟩ <;> (try cases h; done)
    · obtain ⟨j, h3, h⟩ := withT_iff h
      obtain ⟨l, h4, h⟩ := withL_iff h
      obtain ⟨y, h5, ⟨h0, h6⟩, h⟩ := withAV_iff h
      refine ⟨_, _, ⟨i, k, n, h1, h2, h0, ?_⟩, h⟩
      rw [hu]; exact ⟨j, l, y, h3, h4, h5, h6, rfl, rfl⟩
    · obtain ⟨j, h3, h⟩ := withT_iff h
      rcases withPtr_iff h with ⟨id, off, hx, h⟩ | ⟨cs, hx, h⟩
      · refine ⟨_, _, ⟨i, k, n, h1, h2, h.1.1, ?_⟩, h.2⟩
        rw [hu]; refine ⟨j, h3, h.1.2, ?_⟩
        rw [hx]; exact ⟨rfl, rfl⟩
      · cases h
  | index t x ix =>
    obtain ⟨i, h1, h⟩ := withT_iff h
    obtain ⟨k, n, h2, h⟩ := withInt_iff h
    rcases withDesc_iff h with ⟨e, hu, h⟩ | ⟨m, e, hu, h⟩ | ⟨hu, h⟩ | ⟨_, _, h⟩ | ⟨k, h3, h⟩ <;> (try cases h; done)
    · obtain ⟨j, h3, h⟩ := withT_iff h
      obtain ⟨hx, h⟩ := withTrue_iff h
      obtain ⟨cs, h4, h5⟩ := isAgg_form hx
      rw [h5] at h
      refine ⟨_, _, ⟨i, k, n, h1, h2, h.1.1, ?_⟩, h.2⟩
      rw [hu]; exact ⟨j, cs, h3, h4, h.1.2.1, h.1.2.2.1, h.1.2.2.2, rfl, rfl⟩
    · obtain ⟨s, h3, h⟩ := withStr_iff h
      refine ⟨_, _, ⟨i, k, n, h1, h2, h.1.1, ?_⟩, h.2⟩
      rw [hu]; exact ⟨s, h3, h.1.2, rfl, rfl⟩
  | slice t x lo hi =>
    obtain ⟨i, h1, h⟩ := withT_iff h
    rcases withDesc_iff h with ⟨e, hu, h⟩ | ⟨m, e, hu, h⟩ | ⟨hu, h⟩ | ⟨_, _, h⟩ | ⟨k, h3, h⟩ <;> (try cases h; done)
    · obtain ⟨j, h3, h⟩ := withT_iff h
      obtain ⟨l, h4, h⟩ := withL_iff h
      obtain ⟨a, h5, h⟩ := withI_iff h
      obtain ⟨b, h6, h⟩ := withI_iff h
      refine ⟨_, _, ⟨i, h1, ?_⟩, h.2.2⟩
      rw [hu]; exact ⟨j, l, a, b, h3, h4, h5, h6, h.1.1, h.1.2.1, h.1.2.2, h.2.1, rfl, rfl⟩
    · obtain ⟨s, h4, h⟩ := withStr_iff h
      obtain ⟨a, h5, h⟩ := withI_iff h
      obtain ⟨b, h6, h⟩ := withI_iff h
      refine ⟨_, _, ⟨i, h1, ?_⟩, h.2⟩
      rw [hu]; exact ⟨s, a, b, h4, h5, h6, h.1.1, h.1.2.1, h.1.2.2, rfl, rfl⟩
  | extract x n =>
    obtain ⟨vs, h1, h⟩ := withTup_iff h
    obtain ⟨v, h2, h⟩ := withAV_iff h
    exact ⟨_, _, ⟨vs, h1, h2, rfl⟩, h⟩
  | mkfn f caps => exact ⟨_, _, ⟨rfl, rfl⟩, h⟩
  | buildSlice t n ps =>
    obtain ⟨i, h1, h⟩ := withT_iff h
    rcases withDesc_iff h with ⟨e, hu, h⟩ | ⟨m, e, hu, h⟩ | ⟨hu, h⟩ | ⟨_, _, h⟩ | ⟨k, h3, h⟩ <;> (try cases h; done)
    obtain ⟨j, h3, h⟩ := withT_iff h
    refine ⟨_, _, ⟨i, h1, ?_⟩, h.2⟩
    rw [hu]; exact ⟨j, h3, h.1.1, h.1.2.1, h.1.2.2.1, h.1.2.2.2, rfl, rfl⟩
  | empty t =>
    obtain ⟨i, h1, h⟩ := withT_iff h
    rcases withDesc_iff h with ⟨e, hu, h⟩ | ⟨m, e, hu, h⟩ | ⟨hu, h⟩ | ⟨_, _, h⟩ | ⟨k, h3, h⟩ <;> (try cases h; done)
    obtain ⟨j, h3, h⟩ := withT_iff h
    refine ⟨_, _, ⟨i, h1, ?_⟩, h.2⟩
    rw [hu]; exact ⟨j, h3, h.1.2.2.2, rfl, rfl⟩
  | build t ps =>
    obtain ⟨i, h1, h⟩ := withT_iff h
    rcases withDesc_iff h with ⟨e, hu, h⟩ | ⟨m, e, hu, h⟩ | ⟨hu, h⟩ | ⟨_, hu, h⟩ | ⟨k, h3, h⟩ <;> (try cases h; done)
    · obtain ⟨j, h3, h⟩ := withT_iff h
      obtain ⟨ds, h4, h⟩ := withL_iff h
      refine ⟨_, _, ⟨i, ds, h1, ?_, rfl, rfl⟩, h⟩
      rw [hu]; exact ⟨j, h3, h4⟩
    · obtain ⟨ds, h4, h⟩ := withL_iff h
      refine ⟨_, _, ⟨i, ds, h1, ?_, rfl, rfl⟩, h⟩
      rw [hu]; exact h4
  | len t x =>
    obtain ⟨i, h1, h⟩ := withT_iff h
    rcases withDesc_iff h with ⟨e, hu, h⟩ | ⟨m, e, hu, h⟩ | ⟨hu, h⟩ | ⟨_, hu, h⟩ | ⟨k, h3, h⟩ <;> (try cases h; done)
    · obtain ⟨l, h3, h⟩ := withL_iff h
      refine ⟨_, _, ⟨i, h1, ?_⟩, h⟩
      rw [hu]; exact ⟨l, h3, rfl, rfl⟩
    · obtain ⟨s, h3, h⟩ := withStr_iff h
      refine ⟨_, _, ⟨i, h1, ?_⟩, h⟩
      rw [hu]; exact ⟨s, h3, rfl, rfl⟩
  | append t x y =>
    obtain ⟨i, h1, h⟩ := withT_iff h
    rcases withDesc_iff h with ⟨e, hu, h⟩ | ⟨m, e, hu, h⟩ | ⟨hu, h⟩ | ⟨_, hu, h⟩ | ⟨k, h3, h⟩ <;> (try cases h; done)
    obtain ⟨j, h2, h⟩ := withT_iff h
    obtain ⟨ys, h3, h0, h⟩ := withL_iff h
    rcases withOwn_iff h with ⟨l, tk, hx, h⟩ | ⟨hx, h⟩ | ⟨l, hx, h⟩
    · refine ⟨_, _, ⟨i, h1, ?_⟩, h.2.2⟩
      rw [hu]; refine ⟨j, ys, h2, h3, h0.1, h0.2, ?_⟩
      rw [hx]; exact ⟨h.1, h.2.1.1, h.2.1.2, rfl, rfl⟩
    · refine ⟨_, _, ⟨i, h1, ?_⟩, h.2⟩
      rw [hu]; refine ⟨j, ys, h2, h3, h0.1, h0.2, ?_⟩
      rw [hx]; exact ⟨h.1.1, h.1.2, rfl, rfl⟩
    · refine ⟨_, _, ⟨i, h1, ?_⟩, h.2.2⟩
      rw [hu]; refine ⟨j, ys, h2, h3, h0.1, h0.2, ?_⟩
      rw [hx]; exact ⟨h.1, h.2.1.1, h.2.1.2, rfl, rfl⟩
  | range t x =>
    obtain ⟨i, h1, h⟩ := withT_iff h
    rcases withDesc_iff h with ⟨e, hu, h⟩ | ⟨m, e, hu, h⟩ | ⟨hu, h⟩ | ⟨_, hu, h⟩ | ⟨k, h3, h⟩ <;> (try cases h; done)
    obtain ⟨s, h2, h⟩ := withStr_iff h
    exact ⟨_, _, ⟨i, s, h1, hu, h2, rfl, rfl⟩, h⟩
  | next x =>
    rcases withPtr_iff h with ⟨id, off, hx, rfl, h⟩ | ⟨cs, hx, h⟩
    · obtain ⟨s, pos, h1, h2, h3, h4⟩ := withIter_iff h
      by_cases hp : pos < s.size
      · exact ⟨_, _, ⟨id, s, pos, hx, h1, h2, .inl ⟨hp, rfl, rfl⟩⟩, h3 hp⟩
      · exact ⟨_, _, ⟨id, s, pos, hx, h1, h2, .inr ⟨hp, rfl, rfl⟩⟩, h4 hp⟩
    · cases h
  | max x y =>
    obtain ⟨k, n, h1, h⟩ := withInt_iff h
    obtain ⟨k', m, h2, rfl, h⟩ := withInt_iff h
    exact ⟨_, _, ⟨_, n, m, h1, h2, rfl, rfl⟩, h⟩
  | call f args => cases h
  | callv x args => cases h
  | raw op ty => cases h
end Go.Ai
