/- A part of the proof: no statement of the seat is proved in this text. -/
import Derived.Test.YtdmhbplibcolbaaGreatAi19
import Derived.Test.YtdmhbplibcolbaaGreatRows
import Derived.ProofKit
namespace Go.Ai
open Go
structure Id where
  act : Int
  item : Int
  n : Int
  deriving DecidableEq, Inhabited
structure Wd where
  text : ByteArray
  origin : Id
  deriving DecidableEq, Inhabited
structure U where
  id : Id
  kind : Int
  label : ByteArray
  head : List Wd
  words : List Wd
  kids : List U
  deriving Inhabited
structure Step where
  kind : Int
  label : ByteArray
  deriving DecidableEq, Inhabited
def Id.cs (i : Id) : List AV := [.int .i64 i.act, .int .i64 i.item, .int .i64 i.n]
def eId (i : Id) : AV := .agg i.cs
def eW (w : Wd) : AV := .agg (.str w.text :: w.origin.cs)
def eS (s : Step) : AV := .agg [.int .i64 s.kind, .str s.label]
mutual
def eU : U → AV
  | ⟨id, kind, label, head, words, kids⟩ => .agg [.int .i64 id.act, .int .i64 id.item, .int .i64 id.n, .int .i64 kind, .str label, .slice (head.map eW), .slice (words.map eW), .slice (eUs kids)]
def eUs : List U → List AV
  | [] => []
  | u :: us => eU u :: eUs us
end
theorem eUs_eq (l : List U) : eUs l = l.map eU := by induction l with
  | nil => rfl
  | cons u l ih => simp [eUs, ih]
def U.cs (u : U) : List AV := [.int .i64 u.id.act, .int .i64 u.id.item, .int .i64 u.id.n, .int .i64 u.kind, .str u.label, .slice (u.head.map eW), .slice (u.words.map eW), .slice (u.kids.map eU)]
theorem eU_eq (u : U) : eU u = .agg u.cs := by cases u; simp [eU, U.cs, eUs_eq]
@[go_sem] theorem cells_eU (u : U) : (eU u).cells = [.int .i64 u.id.act, .int .i64 u.id.item, .int .i64 u.id.n, .int .i64 u.kind, .str u.label, .slice (u.head.map eW), .slice (u.words.map eW), .slice (u.kids.map eU)] := by rw [eU_eq]; rfl
@[go_sem] theorem fold_eU (u : U) : AV.agg [.int .i64 u.id.act, .int .i64 u.id.item, .int .i64 u.id.n, .int .i64 u.kind, .str u.label, .slice (u.head.map eW), .slice (u.words.map eW), .slice (u.kids.map eU)] = eU u := by rw [eU_eq]; rfl
@[go_sem] theorem cells_eId (i : Id) : (eId i).cells = [.int .i64 i.act, .int .i64 i.item, .int .i64 i.n] := rfl
@[go_sem] theorem fold_eId (i : Id) : AV.agg [.int .i64 i.act, .int .i64 i.item, .int .i64 i.n] = eId i := rfl
@[go_sem] theorem cells_eW (w : Wd) : (eW w).cells = [.str w.text, .int .i64 w.origin.act, .int .i64 w.origin.item, .int .i64 w.origin.n] := rfl
@[go_sem] theorem fold_eW (w : Wd) : AV.agg [.str w.text, .int .i64 w.origin.act, .int .i64 w.origin.item, .int .i64 w.origin.n] = eW w := rfl
@[go_sem] theorem cells_eS (w : Step) : (eS w).cells = [.int .i64 w.kind, .str w.label] := rfl
@[go_sem] theorem fold_eS (w : Step) : AV.agg [.int .i64 w.kind, .str w.label] = eS w := rfl
@[go_sem] theorem agg_eU (u : U) : (eU u).isAgg = true := by rw [eU_eq]; rfl
@[go_sem] theorem agg_eId (i : Id) : (eId i).isAgg = true := rfl
@[go_sem] theorem agg_eW (i : Wd) : (eW i).isAgg = true := rfl
@[go_sem] theorem agg_eS (i : Step) : (eS i).isAgg = true := rfl
theorem fit_map {α : Type} (e : α → AV) {n m : Nat} (h : ∀ x, (e x).fit n m = true) (l : List α) : AV.fitL n m (l.map e) = true := by
  rw [fitL_iff]; intro x hx; simp at hx; obtain ⟨y, _, rfl⟩ := hx; exact h y
@[go_sem] theorem fit_eId (i : Id) (n m : Nat) : (eId i).fit n m = true := by simp [eId, Id.cs, AV.fit, AV.fitL]
@[go_sem] theorem fit_eW (i : Wd) (n m : Nat) : (eW i).fit n m = true := by simp [eW, Id.cs, AV.fit, AV.fitL]
@[go_sem] theorem fit_eS (i : Step) (n m : Nat) : (eS i).fit n m = true := by simp [eS, AV.fit, AV.fitL]
mutual
theorem fit_eU (n m : Nat) : (u : U) → (eU u).fit n m = true
  | ⟨id, kind, label, head, words, kids⟩ => by
    simp only [eU, AV.fit, AV.fitL, fit_map eW (fun w => fit_eW w n m), fit_eUs n m kids, Bool.and_self]
theorem fit_eUs (n m : Nat) : (l : List U) → AV.fitL n m (eUs l) = true
  | [] => rfl
  | u :: us => by simp [eUs, AV.fitL, fit_eU n m u, fit_eUs n m us]
end
attribute [go_sem] fit_eU
@[go_sem] theorem fitL_eU (l : List U) (n m : Nat) : AV.fitL n m (l.map eU) = true := fit_map eU (fit_eU n m) l
@[go_sem] theorem fitL_eId (l : List Id) (n m : Nat) : AV.fitL n m (l.map eId) = true := fit_map eId (fun i => fit_eId i n m) l
@[go_sem] theorem fitL_eW (l : List Wd) (n m : Nat) : AV.fitL n m (l.map eW) = true := fit_map eW (fun i => fit_eW i n m) l
@[go_sem] theorem fitL_eS (l : List Step) (n m : Nat) : AV.fitL n m (l.map eS) = true := fit_map eS (fun i => fit_eS i n m) l
structure U.Good (u : U) : Prop where
  act : -9223372036854775808 ≤ u.id.act ∧ u.id.act ≤ 9223372036854775807
  item : -9223372036854775808 ≤ u.id.item ∧ u.id.item ≤ 9223372036854775807
  n : -9223372036854775808 ≤ u.id.n ∧ u.id.n ≤ 9223372036854775807
  kind : -9223372036854775808 ≤ u.kind ∧ u.kind ≤ 9223372036854775807
  label : u.label.size ≤ 281474976710656
  head : u.head.length ≤ 281474976710656
  words : u.words.length ≤ 281474976710656
  kids : u.kids.length ≤ 281474976710656
  kid : ∀ k ∈ u.kids, (eU k).Ok
theorem U.good {u : U} (h : (eU u).Ok) : u.Good := by
  rw [eU_eq] at h
  refine ⟨(h.agg (c := .int .i64 u.id.act) (by simp [U.cs])).i64, (h.agg (c := .int .i64 u.id.item) (by simp [U.cs])).i64, (h.agg (c := .int .i64 u.id.n) (by simp [U.cs])).i64, (h.agg (c := .int .i64 u.kind) (by simp [U.cs])).i64,
    (h.agg (c := .str u.label) (by simp [U.cs])).str, ?_, ?_, ?_, fun k hk => ?_⟩
  · simpa using (h.agg (c := .slice (u.head.map eW)) (by simp [U.cs])).slice
  · simpa using (h.agg (c := .slice (u.words.map eW)) (by simp [U.cs])).slice
  · simpa using (h.agg (c := .slice (u.kids.map eU)) (by simp [U.cs])).slice
  · have := (h.agg (c := .slice (u.kids.map eU)) (by simp [U.cs]))
    rw [eU_eq]
    exact AV.Ok.elem_agg this (by rw [← eU_eq]; exact List.mem_map_of_mem hk)
theorem kid_lt {u k : U} (h : k ∈ u.kids) : SizeOf.sizeOf k < SizeOf.sizeOf u := by
  have := List.sizeOf_lt_of_mem h
  cases u
  simp at this ⊢
  omega
theorem elem_eU (l : List U) : ∀ z, z ∈ l.map eU → z.cells.length = 8 ∧ z.cells.all AV.scal = true := by
  intro z hz
  obtain ⟨u, _, rfl⟩ := List.mem_map.1 hz
  rw [cells_eU]; exact ⟨rfl, rfl⟩
theorem elem_eId (l : List Id) : ∀ z, z ∈ l.map eId → z.cells.length = 3 ∧ z.cells.all AV.scal = true := by
  intro z hz
  obtain ⟨u, _, rfl⟩ := List.mem_map.1 hz
  rw [cells_eId]; exact ⟨rfl, rfl⟩
theorem elem_eW (l : List Wd) : ∀ z, z ∈ l.map eW → z.cells.length = 4 ∧ z.cells.all AV.scal = true := by
  intro z hz
  obtain ⟨u, _, rfl⟩ := List.mem_map.1 hz
  rw [cells_eW]; exact ⟨rfl, rfl⟩
theorem elem_str (l : List ByteArray) : ∀ z, z ∈ l.map AV.str → z.cells.length = 1 ∧ z.cells.all AV.scal = true := by
  intro z hz
  obtain ⟨u, _, rfl⟩ := List.mem_map.1 hz
  exact ⟨rfl, rfl⟩
end Go.Ai

set_option linter.unusedVariables false
set_option linter.unusedSimpArgs false
namespace Go.Ai
open Go Go.RowKit
def gh0 (w : World) : Gh := { K := fun b o => w.cell? ⟨b, o, none⟩, ob := fun _ => none, tk := fun _ => none }
def ah0 : AH := { n := 0, objs := [], m := 0, toks := [] }
theorem sim0 (w : World) : Sim w (gh0 w) ah0 w :=
  ⟨.refl _ _, (fun _ _ _ h => h), (fun _ _ => ⟨rfl, rfl⟩), (fun _ _ h => by cases h), (fun _ _ _ h => absurd rfl h), (fun _ _ => ⟨rfl, rfl⟩), (fun _ _ h => by cases h)⟩
section
variable {H : Type} {enc : TypeId × Value → H} {P : Program} {w : World} {sp : Nat → Bool} {held : Bool}
def OpensAt (enc : TypeId × Value → H) (P : Program) (w : World) (sp : Nat → Bool) (held : Bool) (fuel : Nat) (t : TypeId) {α : Type} (e : α → List AV) : Prop :=
  ∀ cs x, DataW.trod enc P w 0 sp held fuel t cs = some x → (∀ n ∈ x.1.weights P t, n ≤ reachBytes) → ∃ a : α, RepL (gh0 w) (e a) cs
theorem opens_int {fuel : Nat} {t : TypeId} (ht : P.underlying t = some (.int .i64)) : OpensAt enc P w sp held fuel t (fun n : Int => [.int .i64 n]) := by
  intro cs x h hw
  obtain ⟨n, rfl, rfl, hwf⟩ := DataW.trod_int ht h
  refine ⟨n, .cons (.int _ _ (wrap_i64.2 ?_)) (.nil _)⟩
  simp only [Lit.wf, Bool.and_eq_true, decide_eq_true_eq] at hwf
  have e1 : IntKind.i64.min = -9223372036854775808 := by decide
  have e2 : IntKind.i64.max = 9223372036854775807 := by decide
  rw [e1, e2] at hwf
  exact hwf
theorem opens_str {fuel : Nat} {t : TypeId} (ht : P.underlying t = some .string) : OpensAt enc P w sp held fuel t (fun s : ByteArray => [.str s]) := by
  intro cs x h hw
  obtain ⟨s, rfl, rfl, _⟩ := DataW.trod_string ht h
  refine ⟨s, .cons (.str _ ?_) (.nil _)⟩
  have := hw s.data.toList.length (by simp [DataW.weights])
  have e : s.data.toList.length = s.size := by rw [Array.length_toList]; rfl
  rw [e] at this
  simp only [reachBytes] at this
  omega
theorem weightsEach_get {ts : List TypeId} {ds : List (DataW H)} (h : ∀ n ∈ DataW.weightsEach P ts ds, n ≤ reachBytes) : ∀ {i : Nat} {t : TypeId} {d : DataW H}, ts[i]? = some t → ds[i]? = some d → ∀ n ∈ d.weights P t, n ≤ reachBytes := by
  induction ts generalizing ds with
  | nil => intro i t d h1; simp at h1
  | cons t0 ts ih =>
    cases ds with
    | nil => intro i t d _ h2; simp at h2
    | cons d0 ds =>
      simp only [DataW.weightsEach, List.mem_append] at h
      intro i t d h1 h2
      cases i with
      | zero => simp at h1 h2; subst h1; subst h2; exact fun n hn => h n (.inl hn)
      | succ i => simp at h1 h2; exact ih (fun n hn => h n (.inr hn)) h1 h2
theorem weightsAll_get {t : TypeId} {ds : List (DataW H)} (h : ∀ n ∈ DataW.weightsAll P t ds, n ≤ reachBytes) : ∀ {i : Nat} {d : DataW H}, ds[i]? = some d → ∀ n ∈ d.weights P t, n ≤ reachBytes := by
  induction ds with
  | nil => intro i d h2; simp at h2
  | cons d0 ds ih =>
    simp only [DataW.weightsAll, List.mem_append] at h
    intro i d h2
    cases i with
    | zero => simp at h2; subst h2; exact fun n hn => h n (.inl hn)
    | succ i => simp at h2; exact ih (fun n hn => h n (.inr hn)) h2
theorem open_struct {fuel : Nat} {t : TypeId} {fs : Array Field} (ht : P.underlying t = some (.struct fs)) {cs : List Value} {x : DataW H × List MemPlace} (h : DataW.trod enc P w 0 sp held fuel t cs = some x) (hw : ∀ n ∈ x.1.weights P t, n ≤ reachBytes) :
    ∃ n, fuel = n + 1 ∧ cs.length = P.cellsOf t ∧ ∀ (i : Nat) (f : Field), fs[i]? = some f → ∃ xi, DataW.trod enc P w 0 sp held n f.type ((cs.drop f.offset).take (P.cellsOf f.type)) = some xi ∧ ∀ m ∈ xi.1.weights P f.type, m ≤ reachBytes := by
  obtain ⟨xs, n, rfl, rfl, h1, h2, h3⟩ := DataW.trod_struct ht h
  refine ⟨n, rfl, h1, fun i f hf => ?_⟩
  have hi : i < xs.length := by rw [h2]; exact (Array.getElem?_eq_some_iff.1 hf).1
  refine ⟨xs[i], by rw [h3 i f hf, List.getElem?_eq_getElem hi], ?_⟩
  simp only [DataW.weights, ht] at hw
  exact weightsEach_get hw (i := i) (by rw [List.getElem?_map, Array.getElem?_toList, hf]; rfl) (by rw [List.getElem?_map, List.getElem?_eq_getElem hi]; rfl)
theorem open_field {fs : Array Field} {n : Nat} {cs : List Value} (h : ∀ (i : Nat) (f : Field), fs[i]? = some f → ∃ xi, DataW.trod enc P w 0 sp held n f.type ((cs.drop f.offset).take (P.cellsOf f.type)) = some xi ∧ ∀ m ∈ xi.1.weights P f.type, m ≤ reachBytes)
    (i : Nat) (t : TypeId) (o s : Nat) (hi : (fs[i]?).map (fun f => (f.type, f.offset)) = some (t, o)) (hs : P.cellsOf t = s) : ∃ xi, DataW.trod enc P w 0 sp held n t ((cs.drop o).take s) = some xi ∧ ∀ m ∈ xi.1.weights P t, m ≤ reachBytes := by
  obtain ⟨f, h1, h2⟩ := Option.map_eq_some_iff.1 hi
  simp only [Prod.mk.injEq] at h2
  obtain ⟨rfl, rfl⟩ := h2
  subst hs
  exact h i f h1
theorem RepL.cat {G : Gh} {a b : List AV} {cs : List Value} {o s : Nat} (h1 : RepL G a ((cs.drop o).take s)) (h2 : RepL G b (cs.drop (o + s))) : RepL G (a ++ b) (cs.drop o) := by
  have := h1.append h2
  rw [← List.drop_drop, List.take_append_drop] at this
  exact this
theorem RepL.done {G : Gh} {cs : List Value} {n : Nat} (h : cs.length = n) : RepL G [] (cs.drop n) := by
  rw [List.drop_of_length_le (by omega)]; exact .nil _
theorem RepK_flat {G : Gh} {b sz : Nat} : ∀ {l : List AV} {off : Nat}, (∀ x ∈ l, x.cells.length = sz) → (∀ (i : Nat) (x : AV), l[i]? = some x → RepK G b (off + i * sz) x.cells) → RepK G b off (flat l)
  | [], off, _, _ => fun o c hc => by simp [flat] at hc
  | x :: l, off, hs, h => by
    intro o c hc
    rw [flat_cons] at hc
    have hx := hs x (List.mem_cons_self ..)
    rcases Nat.lt_or_ge o x.cells.length with hlt | hge
    · rw [List.getElem?_append_left hlt] at hc
      have := h 0 x rfl o c hc
      simpa using this
    · rw [List.getElem?_append_right hge] at hc
      have := RepK_flat (off := off + sz) (fun y hy => hs y (List.mem_cons_of_mem _ hy)) (fun i y hy => by
        have := h (i + 1) y (by simpa using hy)
        rwa [Nat.add_mul, Nat.one_mul, Nat.add_comm (i * sz), ← Nat.add_assoc] at this) _ c hc
      rw [hx] at this
      rwa [show off + sz + (o - sz) = off + o by omega] at this
theorem opens_slice {n : Nat} {t et : TypeId} {α : Type} {e : α → List AV} (mk : α → AV) (hmk : ∀ a, (mk a).cells = e a) {sz : Nat} (hsz : ∀ a, (e a).length = sz) (hs0 : 0 < sz) (ht : P.underlying t = some (.slice et)) (hc : P.cellsOf et = sz) (hby : 1 ≤ P.bytesOf et)
    (ho : OpensAt enc P w sp held n et e) : OpensAt enc P w sp held (n + 1) t (fun l : List α => [.slice (l.map mk)]) := by
  intro cs x h hw
  rcases DataW.trod_slice ht h with ⟨rfl, rfl⟩ | ⟨a, len, cap, elems, rest, n', hn', rfl, rfl, hb, hl, hm, hlen, hel, _, _⟩
  · exact ⟨[], .cons .sliceNil (.nil _)⟩
  · simp only [Nat.add_right_cancel_iff] at hn'
    subst hn'
    rcases Nat.eq_zero_or_pos len with h0 | hpos
    · subst h0
      exact ⟨[], .cons (.sliceE a cap) (.nil _)⟩
    · simp only [DataW.weights, ht, List.mem_cons, List.mem_append, List.length_map] at hw
      have hwe : ∀ n ∈ DataW.weightsAll P et (elems.map (·.1)), n ≤ reachBytes := fun n hn => hw n (.inr (.inl hn))
      have h48 : len ≤ 281474976710656 := by
        have h1 := hw _ (.inl rfl)
        have h2 : elems.length + rest.length ≤ (elems.length + rest.length) * P.bytesOf et := Nat.le_mul_of_pos_right _ hby
        simp only [reachBytes] at h1
        omega
      have key : ∀ i, i < len → ∃ (v : α) (ci : List Value), w.cells? 0 (a.add (i * sz)) sz = some ci ∧ RepL (gh0 w) (e v) ci := by
        intro i hi
        have h1 := hel i hi
        rw [hc, List.getElem?_eq_getElem (by omega)] at h1
        obtain ⟨ci, h2, h3⟩ := Option.bind_eq_some_iff.1 h1
        obtain ⟨v, hv⟩ := ho ci _ h3 (weightsAll_get hwe (i := i) (by rw [List.getElem?_map, List.getElem?_eq_getElem (by omega)]; rfl))
        exact ⟨v, ci, h2, hv⟩
      have hspot : a.spot = none := by
        obtain ⟨v, ci, h2, h3⟩ := key 0 hpos
        obtain ⟨_, h4, h5⟩ := World.cells?_some h2
        have h6 := h5 0 hs0
        rw [List.getElem?_eq_getElem (by omega)] at h6
        simp only [Nat.zero_mul, Addr.add, if_true] at h6
        unfold World.cell? at h6
        split at h6
        · split at h6
          · cases h6
          · rename_i hsp; simpa using hsp
        · cases h6
      obtain ⟨b, off, spot⟩ := a
      simp only at hspot
      subst hspot
      have hlist : ∃ l : List α, l.length = len ∧ ∀ i v, l[i]? = some v → ∃ ci, w.cells? 0 ((⟨b, off, none⟩ : Addr).add (i * sz)) sz = some ci ∧ RepL (gh0 w) (e v) ci := by
        refine ⟨List.ofFn fun i : Fin len => Classical.choose (key i i.2), by simp, fun i v hv => ?_⟩
        rw [List.getElem?_ofFn] at hv
        split at hv
        · rename_i hi
          simp at hv; subst hv
          exact Classical.choose_spec (key i hi)
        · cases hv
      obtain ⟨l, hll, hli⟩ := hlist
      refine ⟨l, .cons ?_ (.nil _)⟩
      have hu : ∀ x, x ∈ l.map mk → x.cells.length = sz := by
        intro x hx
        obtain ⟨v, _, rfl⟩ := List.mem_map.1 hx
        rw [hmk, hsz]
      have := Rep.slice_mk (G := gh0 w) (b := b) (off := off) (cap := cap) (l := l.map mk) (sz := sz) (RepK_flat hu fun i x hx => ?_) hu (by simp; omega) (by simp; omega)
      · rw [List.length_map, hll] at this
        exact this
      · rw [List.getElem?_map] at hx
        obtain ⟨v, hv, rfl⟩ := Option.map_eq_some_iff.1 hx
        obtain ⟨ci, h1, h2⟩ := hli i v hv
        obtain ⟨_, h3, h4⟩ := World.cells?_some h1
        rw [hmk]
        intro o c hoc
        obtain ⟨u, k1, k2⟩ := h2.index hoc
        refine ⟨u, ?_, k2⟩
        have ho' : o < sz := by rw [← hsz v]; exact (List.getElem?_eq_some_iff.1 hoc).1
        have := h4 o ho'
        rw [add_off, add_off, k1] at this
        exact this
end
end Go.Ai
