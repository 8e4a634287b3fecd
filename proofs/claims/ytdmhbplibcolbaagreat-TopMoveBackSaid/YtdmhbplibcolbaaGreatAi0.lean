/- A part of the proof: no statement of the seat is proved in this text. -/
import Derived.Calls
import Derived.Below
import Derived.Laws.OwnMore
set_option linter.unusedVariables false
set_option linter.unusedSimpArgs false
namespace Go.Ai
open Go Go.RowKit
inductive AV where
  | any
  | int (k : IntKind) (n : Int)
  | bool (b : Bool)
  | str (s : ByteArray)
  | slice (l : List AV)
  | nilS
  | own (l : List AV) (t : Nat)
  | lit (l : List AV)
  | ptr (i off : Nat)
  | rptr (cs : List AV)
  | nilP
  | fn (f : FuncId) (caps : List AV)
  | nilF
  | agg (cs : List AV)
  | tup (vs : List AV)
  | map (i : Nat)
  | nilM
  | raw (v : Value)
  deriving Inhabited
def AV.cells : AV → List AV
  | .agg cs => cs
  | x => [x]
def AV.scal : AV → Bool
  | .agg _ | .tup _ | .any | .raw _ => false
  | _ => true
def AV.forget : AV → AV
  | .own l _ => .slice l
  | .lit l => .slice l
  | .nilS => .slice []
  | x => x
def flat (l : List AV) : List AV := l.flatMap AV.cells
structure Tok where
  v : Value
  n : Nat
  e : TypeId
  sz : Nat
  xs : List Value
structure Gh where
  K : Nat → Nat → Option Value
  ob : Nat → Option Nat
  tk : Nat → Option Tok
structure Gh.le (G G' : Gh) : Prop where
  K : ∀ b o v, G.K b o = some v → G'.K b o = some v
  ob : ∀ i b, G.ob i = some b → G'.ob i = some b
  tk : ∀ t x, G.tk t = some x → ∃ x', G'.tk t = some x' ∧ x.n ≤ x'.n ∧ x'.sz = x.sz ∧ (x'.n = x.n → x' = x)
theorem Gh.le.refl (G : Gh) : G.le G := ⟨fun _ _ _ h => h, fun _ _ h => h, fun _ x h => ⟨x, h, Nat.le_refl _, rfl, fun _ => rfl⟩⟩
theorem Gh.le.trans {A B C : Gh} (h : A.le B) (k : B.le C) : A.le C :=
  ⟨fun b o v e => k.K b o v (h.K b o v e), fun i b e => k.ob i b (h.ob i b e), fun t x e => by
    obtain ⟨x', e', hle, hs, heq⟩ := h.tk t x e
    obtain ⟨x'', e'', hle', hs', heq'⟩ := k.tk t x' e'
    refine ⟨x'', e'', Nat.le_trans hle hle', hs'.trans hs, fun hn => ?_⟩
    have h1 : x'.n = x.n := by omega
    have h2 := heq h1
    subst h2
    exact heq' (by omega)⟩
inductive Rep (G : Gh) : AV → Value → Prop
  | any (v : Value) : Rep G .any v
  | int (k : IntKind) (n : Int) (h : k.wrap n = n) : Rep G (.int k n) (.int k n)
  | bool (b : Bool) : Rep G (.bool b) (.bool b)
  | str (s : ByteArray) (h : s.size ≤ 281474976710656) : Rep G (.str s) (.string s)
  | slice (l : List AV) (n b off cap sz : Nat) (ws : Nat → Value) (hn : l.length = n) (hc : n ≤ cap) (hb : n ≤ 281474976710656)
      (hu : ∀ x, x ∈ l → x.cells.length = sz)
      (hk : ∀ (o : Nat) (c : AV), (flat l)[o]? = some c → G.K b (off + o) = some (ws o))
      (hr : ∀ (o : Nat) (c : AV), (flat l)[o]? = some c → Rep G c (ws o)) : Rep G (.slice l) (.slice (some ⟨b, off, none⟩) n cap)
  | sliceNil : Rep G (.slice []) (.slice none 0 0)
  | sliceE (a : Addr) (cap : Nat) : Rep G (.slice []) (.slice (some a) 0 cap)
  | nilS : Rep G .nilS (.slice none 0 0)
  | own (l : List AV) (t : Nat) (v : Value) (tok : Tok) (ht : G.tk t = some tok) (hle : l.length ≤ tok.n) (hv : tok.n = l.length → tok.v = v)
      (hsz : ∀ x, x ∈ l → x.cells.length = tok.sz) (h : Rep G (.slice l) v) : Rep G (.own l t) v
  | lit (l : List AV) (a : Option Addr) (h : Rep G (.slice l) (.slice a l.length l.length)) : Rep G (.lit l) (.slice a l.length l.length)
  | ptr (i off b : Nat) (h : G.ob i = some b) : Rep G (.ptr i off) (.pointer (some ⟨b, off, none⟩))
  | rptr (cs : List AV) (b off : Nat) (vs : Nat → Value) (hk : ∀ (j : Nat) (c : AV), cs[j]? = some c → G.K b (off + j) = some (vs j))
      (hr : ∀ (j : Nat) (c : AV), cs[j]? = some c → Rep G c (vs j)) : Rep G (.rptr cs) (.pointer (some ⟨b, off, none⟩))
  | nilP : Rep G .nilP (.pointer none)
  | fn (f : FuncId) (caps : List AV) (vs : List Value) (hl : caps.length = vs.length) (hr : ∀ (j : Nat) (c : AV) (v : Value), caps[j]? = some c → vs[j]? = some v → Rep G c v) :
      Rep G (.fn f caps) (.func (.func f) #[] vs.toArray)
  | nilF : Rep G .nilF .nilFunc
  | agg (cs : List AV) (vs : List Value) (hl : cs.length = vs.length) (hr : ∀ (j : Nat) (c : AV) (v : Value), cs[j]? = some c → vs[j]? = some v → Rep G c v) :
      Rep G (.agg cs) (.agg vs.toArray)
  | tup (cs : List AV) (vs : List Value) (hl : cs.length = vs.length) (hr : ∀ (j : Nat) (c : AV) (v : Value), cs[j]? = some c → vs[j]? = some v → Rep G c v) :
      Rep G (.tup cs) (.tuple vs.toArray)
  | map (i b : Nat) (h : G.ob i = some b) : Rep G (.map i) (.map (some b))
  | nilM : Rep G .nilM (.map none)
  | raw (v : Value) : Rep G (.raw v) v
def RepL (G : Gh) (cs : List AV) (vs : List Value) : Prop := cs.length = vs.length ∧ ∀ (j : Nat) (c : AV) (v : Value), cs[j]? = some c → vs[j]? = some v → Rep G c v
theorem Rep.mono {G G' : Gh} (hle : G.le G') {a : AV} {v : Value} (h : Rep G a v) : Rep G' a v := by
  induction h with
  | any v => exact .any v
  | int k n h => exact .int k n h
  | bool b => exact .bool b
  | str s h => exact .str s h
  | slice l n b off cap sz ws hn hc hb hu hk hr ih => exact .slice l n b off cap sz ws hn hc hb hu (fun o c h1 => hle.K _ _ _ (hk o c h1)) ih
  | sliceNil => exact .sliceNil
  | sliceE a cap => exact .sliceE a cap
  | nilS => exact .nilS
  | own l t v tok ht hl hv hsz h ih =>
    obtain ⟨tok', ht', hle', hsz', heq⟩ := hle.tk t tok ht
    refine .own l t v tok' ht' (by omega) (fun hn => ?_) (fun x hx => by rw [hsz', hsz x hx]) ih
    have : tok' = tok := heq (by omega)
    subst this
    exact hv hn
  | lit l a h ih => exact .lit l a ih
  | ptr i off b h => exact .ptr i off b (hle.ob _ _ h)
  | rptr cs b off vs hk hr ih => exact .rptr cs b off vs (fun j c h => hle.K _ _ _ (hk j c h)) ih
  | nilP => exact .nilP
  | fn f caps vs hl hr ih => exact .fn f caps vs hl ih
  | nilF => exact .nilF
  | agg cs vs hl hr ih => exact .agg cs vs hl ih
  | tup cs vs hl hr ih => exact .tup cs vs hl ih
  | map i b h => exact .map i b (hle.ob _ _ h)
  | nilM => exact .nilM
  | raw v => exact .raw v
theorem RepL.mono {G G' : Gh} (hle : G.le G') {cs : List AV} {vs : List Value} (h : RepL G cs vs) : RepL G' cs vs :=
  ⟨h.1, fun j c v h1 h2 => (h.2 j c v h1 h2).mono hle⟩
theorem RepL.nil (G : Gh) : RepL G [] [] := ⟨rfl, fun j c v h => by simp at h⟩
theorem RepL.cons {G : Gh} {c : AV} {v : Value} {cs : List AV} {vs : List Value} (h : Rep G c v) (t : RepL G cs vs) : RepL G (c :: cs) (v :: vs) := by
  refine ⟨by simp [t.1], fun j d u h1 h2 => ?_⟩
  cases j with
  | zero => simp at h1 h2; subst h1; subst h2; exact h
  | succ j => simp at h1 h2; exact t.2 j d u h1 h2
theorem RepL.of_cons {G : Gh} {c : AV} {v : Value} {cs : List AV} {vs : List Value} (h : RepL G (c :: cs) (v :: vs)) : Rep G c v ∧ RepL G cs vs :=
  ⟨h.2 0 c v rfl rfl, ⟨by simpa using h.1, fun j d u h1 h2 => h.2 (j + 1) d u (by simpa using h1) (by simpa using h2)⟩⟩
theorem RepL.form {G : Gh} {c : AV} {cs : List AV} {vs : List Value} (h : RepL G (c :: cs) vs) : ∃ v vs', vs = v :: vs' ∧ Rep G c v ∧ RepL G cs vs' := by
  cases vs with
  | nil => simp [RepL] at h
  | cons v vs' => exact ⟨v, vs', rfl, h.of_cons⟩
theorem RepL.form_nil {G : Gh} {vs : List Value} (h : RepL G [] vs) : vs = [] := by
  cases vs with
  | nil => rfl
  | cons v vs' => simp [RepL] at h
theorem RepL.append {G : Gh} {cs ds : List AV} {vs us : List Value} (h : RepL G cs vs) (k : RepL G ds us) : RepL G (cs ++ ds) (vs ++ us) := by
  induction cs generalizing vs with
  | nil => rw [h.form_nil]; simpa using k
  | cons c cs ih =>
    obtain ⟨v, vs', rfl, h1, h2⟩ := h.form
    exact .cons h1 (ih h2)
theorem RepL.drop {G : Gh} {cs : List AV} {vs : List Value} (h : RepL G cs vs) (n : Nat) : RepL G (cs.drop n) (vs.drop n) :=
  ⟨by simp [h.1], fun j c v h1 h2 => h.2 (n + j) c v (by simpa using h1) (by simpa using h2)⟩
theorem RepL.take {G : Gh} {cs : List AV} {vs : List Value} (h : RepL G cs vs) (n : Nat) : RepL G (cs.take n) (vs.take n) :=
  ⟨by simp [h.1], fun j c v h1 h2 => by
    rw [List.getElem?_take] at h1 h2
    split at h1
    · rename_i hj; rw [if_pos hj] at h2; exact h.2 j c v h1 h2
    · simp at h1⟩
theorem RepL.set {G : Gh} {cs : List AV} {vs : List Value} (h : RepL G cs vs) (n : Nat) {c : AV} {v : Value} (hc : Rep G c v) : RepL G (cs.set n c) (vs.set n v) :=
  ⟨by simp [h.1], fun j d u h1 h2 => by
    rw [List.getElem?_set] at h1 h2
    by_cases e : n = j
    · subst e
      simp only [if_true] at h1 h2
      split at h1
      · split at h2
        · simp only [Option.some.injEq] at h1 h2; subst h1; subst h2; exact hc
        · simp at h2
      · simp at h1
    · rw [if_neg e] at h1 h2; exact h.2 j d u h1 h2⟩
theorem Rep.cells {G : Gh} {a : AV} {v : Value} (h : Rep G a v) (hs : a.scal = true ∨ ∃ cs, a = .agg cs) : RepL G a.cells v.cells.toList := by
  cases h with
  | agg cs vs hl hr => simpa [AV.cells, Value.cells, RepL] using ⟨hl, hr⟩
  | any => simp [AV.scal] at hs
  | raw => simp [AV.scal] at hs
  | tup => simp [AV.scal] at hs
  | int k n h => exact .cons (.int k n h) (.nil _)
  | bool b => exact .cons (.bool b) (.nil _)
  | str s h => exact .cons (.str s h) (.nil _)
  | slice l n b off cap sz vs hn hc hb hu hk hr => exact .cons (.slice l n b off cap sz vs hn hc hb hu hk hr) (.nil _)
  | sliceNil => exact .cons .sliceNil (.nil _)
  | sliceE a cap => exact .cons (.sliceE a cap) (.nil _)
  | nilS => exact .cons .nilS (.nil _)
  | own l t _ tok ht hl hv hsz h =>
    have hh := h
    cases hh with
    | slice => exact .cons (.own l t _ tok ht hl hv hsz h) (.nil _)
    | sliceNil => exact .cons (.own _ t _ tok ht hl hv hsz h) (.nil _)
    | sliceE a cap => exact .cons (.own _ t _ tok ht hl hv hsz h) (.nil _)
  | lit l a h => exact .cons (.lit l a h) (.nil _)
  | ptr i off b h => exact .cons (.ptr i off b h) (.nil _)
  | rptr cs b off vs hk hr => exact .cons (.rptr cs b off vs hk hr) (.nil _)
  | nilP => exact .cons .nilP (.nil _)
  | fn f caps vs hl hr => exact .cons (.fn f caps vs hl hr) (.nil _)
  | nilF => exact .cons .nilF (.nil _)
  | map i b h => exact .cons (.map i b h) (.nil _)
  | nilM => exact .cons .nilM (.nil _)
theorem Rep.one {G : Gh} {a : AV} {v : Value} (h : Rep G a v) (hs : a.scal = true) : v.oneCell' = true := by
  cases h with
  | agg => simp [AV.scal] at hs
  | any => simp [AV.scal] at hs
  | raw => simp [AV.scal] at hs
  | tup => simp [AV.scal] at hs
  | own l t _ tok ht hl hv hsz h => cases h <;> rfl
  | _ => rfl
theorem Rep.forget {G : Gh} {a : AV} {v : Value} (h : Rep G a v) : Rep G a.forget v := by
  cases h with
  | own l t _ tok ht hl hv hsz h => exact h
  | nilS => exact .sliceNil
  | lit l a h => exact h
  | any v => exact .any v
  | int k n h => exact .int k n h
  | bool b => exact .bool b
  | str s h => exact .str s h
  | slice l n b off cap sz vs hn hc hb hu hk hr => exact .slice l n b off cap sz vs hn hc hb hu hk hr
  | sliceNil => exact .sliceNil
  | sliceE a cap => exact .sliceE a cap
  | ptr i off b h => exact .ptr i off b h
  | rptr cs b off vs hk hr => exact .rptr cs b off vs hk hr
  | nilP => exact .nilP
  | fn f caps vs hl hr => exact .fn f caps vs hl hr
  | nilF => exact .nilF
  | agg cs vs hl hr => exact .agg cs vs hl hr
  | tup cs vs hl hr => exact .tup cs vs hl hr
  | map i b h => exact .map i b h
  | nilM => exact .nilM
  | raw v => exact .raw v
inductive AObj where
  | cells (cs : List AV) (t : TypeId)
  | amap (es : List (AV × AV))
  | iter (s : ByteArray) (pos : Nat)
  deriving Inhabited
structure ATok where
  n : Nat
  e : TypeId
  sz : Nat
  deriving Inhabited
structure AH where
  n : Nat
  objs : List (Nat × AObj)
  m : Nat
  toks : List (Nat × ATok)
  deriving Inhabited
def alook {α : Type} (k : Nat) : List (Nat × α) → Option α
  | [] => none
  | (j, v) :: e => if k = j then some v else alook k e
def aset {α : Type} (k : Nat) (x : α) : List (Nat × α) → List (Nat × α)
  | [] => []
  | (j, v) :: e => if k = j then (j, x) :: e else (j, v) :: aset k x e
theorem alook_aset {α : Type} (k : Nat) (x : α) (l : List (Nat × α)) (i : Nat) : alook i (aset k x l) = if i = k then (alook k l).map (fun _ => x) else alook i l := by
  induction l with
  | nil => simp [alook, aset]
  | cons p e ih =>
    obtain ⟨j, v⟩ := p
    simp only [aset]
    by_cases h : k = j
    · subst h
      simp only [if_true, alook]
      by_cases h2 : i = k
      · simp [h2]
      · simp [h2]
    · simp only [if_neg h, alook]
      by_cases h2 : i = j
      · subst h2
        have : i ≠ k := fun e => h e.symm
        simp [this]
      · simp only [if_neg h2, ih]
def AH.obj (H : AH) (i : Nat) : Option AObj := alook i H.objs
def AH.tok (H : AH) (t : Nat) : Option ATok := alook t H.toks
def AH.push (H : AH) (o : AObj) : AH := { H with n := H.n + 1, objs := (H.n, o) :: H.objs }
def AH.put (H : AH) (i : Nat) (o : AObj) : AH := { H with objs := aset i o H.objs }
def AH.pushTok (H : AH) (n : ATok) : AH := { H with m := H.m + 1, toks := (H.m, n) :: H.toks }
def AH.putTok (H : AH) (t : Nat) (n : ATok) : AH := { H with toks := aset t n H.toks }
def ObjAt (G : Gh) (w : World) (b : Nat) : AObj → Prop
  | .cells cs t => ∃ vs : List Value, w.heap[b]? = some (.cells vs.toArray t (0, 0)) ∧ RepL G cs vs ∧ ∀ c ∈ cs, c.scal = true
  | .amap es => ∃ (ms : List MapEntry) (clock : Nat), w.heap[b]? = some (.map ms.toArray clock) ∧ es.length = ms.length ∧
      ∀ (j : Nat) (e : AV × AV) (m : MapEntry), es[j]? = some e → ms[j]? = some m → Rep G e.1 m.key ∧ Rep G e.2 m.val
  | .iter s pos => w.heap[b]? = some (.stringIter s pos)
structure Sim (w0 : World) (G : Gh) (H : AH) (w : World) : Prop where
  below : Below w0.heap.size w0 w
  K : ∀ b o v, G.K b o = some v → w.cell? ⟨b, o, none⟩ = some v
  obN : ∀ i, H.n ≤ i → H.obj i = none ∧ G.ob i = none
  obs : ∀ i o, H.obj i = some o → ∃ b, G.ob i = some b ∧ w0.heap.size ≤ b ∧ ObjAt G w b o ∧ ∀ off, G.K b off = none
  inj : ∀ i j b, H.obj i ≠ none → H.obj j ≠ none → G.ob i = some b → G.ob j = some b → i = j
  tkN : ∀ t, H.m ≤ t → H.tok t = none ∧ G.tk t = none
  tks : ∀ t n, H.tok t = some n → ∃ x, G.tk t = some x ∧ (⟨x.n, x.e, x.sz⟩ : ATok) = n ∧ w.ownsRow w0.heap.size x.e x.sz x.v x.n x.xs ∧
      (∀ b, x.v.ownBlock = some b → (∀ o, x.n * x.sz ≤ o → G.K b o = none) ∧ (∀ i, H.obj i ≠ none → G.ob i ≠ some b) ∧
        ∀ t' x', t' ≠ t → H.tok t' ≠ none → G.tk t' = some x' → x'.v.ownBlock ≠ some b)
end Go.Ai
