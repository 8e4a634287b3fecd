/- A part of the proof: no statement of the seat is proved in this text. -/
import Derived.Test.YtcphpaeebaacgaaData
import Derived.Test.YtcphpaeebaacgaaRows
import Derived.ProofKit
import Derived.Test.YtcphpaeebaacgaaTyA
set_option linter.unusedVariables false
set_option linter.unusedSimpArgs false
namespace Go.Ai
open Go Go.RowKit

/-! ### What a law is handed -/
def gh0 (w : World) : Gh := { K := fun b o => w.cell? ⟨b, o, none⟩, ob := fun _ => none, tk := fun _ => none }
def ah0 : AH := { n := 0, objs := [], m := 0, toks := [] }
theorem sim0 (w : World) : Sim w (gh0 w) ah0 w :=
  ⟨.refl _ _, (fun _ _ _ h => h), (fun _ _ => ⟨rfl, rfl⟩), (fun _ _ h => by cases h), (fun _ _ _ h => absurd rfl h), (fun _ _ => ⟨rfl, rfl⟩), (fun _ _ h => by cases h)⟩

section
variable {H : Type} {enc : TypeId × Value → H} {P : Program} {w : World} {sp : Nat → Bool} {held : Bool}

def OpensAt (enc : TypeId × Value → H) (P : Program) (w : World) (sp : Nat → Bool) (held : Bool) (fuel : Nat) (t : TypeId) {α : Type} (e : α → List AV) : Prop :=
  ∀ cs x, DataW.trod enc P w 0 sp held fuel t cs = some x → (∀ n ∈ x.1.weights P t, n ≤ reachBytes) → ∃ a : α, RepL (gh0 w) (e a) cs

theorem opens_int {fuel : Nat} {t : TypeId} (ht : P.underlying t = some (.int .i64)) : OpensAt enc P w sp held fuel t (fun n : Int => [.int .i64 n]) := by
  intro cs x h hw
  obtain ⟨n, rfl, rfl, hwf⟩ := DataW.trod_int ht h
  refine ⟨n, .cons (.int _ _ (wrap_i64.2 ?_)) (.nil _)⟩
  simp only [Lit.wf, Bool.and_eq_true, decide_eq_true_eq] at hwf
  have e1 : IntKind.i64.min = -9223372036854775808 := by decide
  have e2 : IntKind.i64.max = 9223372036854775807 := by decide
  rw [e1, e2] at hwf
  exact hwf
theorem opens_str {fuel : Nat} {t : TypeId} (ht : P.underlying t = some .string) : OpensAt enc P w sp held fuel t (fun s : ByteArray => [.str s]) := by
  intro cs x h hw
  obtain ⟨s, rfl, rfl, _⟩ := DataW.trod_string ht h
  refine ⟨s, .cons (.str _ ?_) (.nil _)⟩
  have := hw s.data.toList.length (by simp [DataW.weights])
  have e : s.data.toList.length = s.size := by rw [Array.length_toList]; rfl
  rw [e] at this
  simp only [reachBytes] at this
  omega

theorem weightsEach_get {ts : List TypeId} {ds : List (DataW H)} (h : ∀ n ∈ DataW.weightsEach P ts ds, n ≤ reachBytes) : ∀ {i : Nat} {t : TypeId} {d : DataW H}, ts[i]? = some t → ds[i]? = some d → ∀ n ∈ d.weights P t, n ≤ reachBytes := by
  induction ts generalizing ds with
  | nil => intro i t d h1; simp at h1
  | cons t0 ts ih =>
    cases ds with
    | nil => intro i t d _ h2; simp at h2
    | cons d0 ds =>
      simp only [DataW.weightsEach, List.mem_append] at h
      intro i t d h1 h2
      cases i with
      | zero => simp at h1 h2; subst h1; subst h2; exact fun n hn => h n (.inl hn)
      | succ i => simp at h1 h2; exact ih (fun n hn => h n (.inr hn)) h1 h2
theorem weightsAll_get {t : TypeId} {ds : List (DataW H)} (h : ∀ n ∈ DataW.weightsAll P t ds, n ≤ reachBytes) : ∀ {i : Nat} {d : DataW H}, ds[i]? = some d → ∀ n ∈ d.weights P t, n ≤ reachBytes := by
  induction ds with
  | nil => intro i d h2; simp at h2
  | cons d0 ds ih =>
    simp only [DataW.weightsAll, List.mem_append] at h
    intro i d h2
    cases i with
    | zero => simp at h2; subst h2; exact fun n hn => h n (.inl hn)
    | succ i => simp at h2; exact ih (fun n hn => h n (.inr hn)) h2

theorem open_struct {fuel : Nat} {t : TypeId} {fs : Array Field} (ht : P.underlying t = some (.struct fs)) {cs : List Value} {x : DataW H × List MemPlace} (h : DataW.trod enc P w 0 sp held fuel t cs = some x) (hw : ∀ n ∈ x.1.weights P t, n ≤ reachBytes) :
    ∃ n, fuel = n + 1 ∧ cs.length = P.cellsOf t ∧ ∀ (i : Nat) (f : Field), fs[i]? = some f → ∃ xi, DataW.trod enc P w 0 sp held n f.type ((cs.drop f.offset).take (P.cellsOf f.type)) = some xi ∧ ∀ m ∈ xi.1.weights P f.type, m ≤ reachBytes := by
  obtain ⟨xs, n, rfl, rfl, h1, h2, h3⟩ := DataW.trod_struct ht h
  refine ⟨n, rfl, h1, fun i f hf => ?_⟩
  have hi : i < xs.length := by rw [h2]; exact (Array.getElem?_eq_some_iff.1 hf).1
  refine ⟨xs[i], by rw [h3 i f hf, List.getElem?_eq_getElem hi], ?_⟩
  simp only [DataW.weights, ht] at hw
  exact weightsEach_get hw (i := i) (by rw [List.getElem?_map, Array.getElem?_toList, hf]; rfl) (by rw [List.getElem?_map, List.getElem?_eq_getElem hi]; rfl)

theorem open_field {fs : Array Field} {n : Nat} {cs : List Value} (h : ∀ (i : Nat) (f : Field), fs[i]? = some f → ∃ xi, DataW.trod enc P w 0 sp held n f.type ((cs.drop f.offset).take (P.cellsOf f.type)) = some xi ∧ ∀ m ∈ xi.1.weights P f.type, m ≤ reachBytes)
    (i : Nat) (t : TypeId) (o s : Nat) (hi : (fs[i]?).map (fun f => (f.type, f.offset)) = some (t, o)) (hs : P.cellsOf t = s) : ∃ xi, DataW.trod enc P w 0 sp held n t ((cs.drop o).take s) = some xi ∧ ∀ m ∈ xi.1.weights P t, m ≤ reachBytes := by
  obtain ⟨f, h1, h2⟩ := Option.map_eq_some_iff.1 hi
  simp only [Prod.mk.injEq] at h2
  obtain ⟨rfl, rfl⟩ := h2
  subst hs
  exact h i f h1
theorem RepL.cat {G : Gh} {a b : List AV} {cs : List Value} {o s : Nat} (h1 : RepL G a ((cs.drop o).take s)) (h2 : RepL G b (cs.drop (o + s))) : RepL G (a ++ b) (cs.drop o) := by
  have := h1.append h2
  rw [← List.drop_drop, List.take_append_drop] at this
  exact this
theorem RepL.done {G : Gh} {cs : List Value} {n : Nat} (h : cs.length = n) : RepL G [] (cs.drop n) := by
  rw [List.drop_of_length_le (by omega)]; exact .nil _

theorem RepK_flat {G : Gh} {b sz : Nat} : ∀ {l : List AV} {off : Nat}, (∀ x ∈ l, x.cells.length = sz) → (∀ (i : Nat) (x : AV), l[i]? = some x → RepK G b (off + i * sz) x.cells) → RepK G b off (flat l)
  | [], off, _, _ => fun o c hc => by simp [flat] at hc
  | x :: l, off, hs, h => by
    intro o c hc
    rw [flat_cons] at hc
    have hx := hs x (List.mem_cons_self ..)
    rcases Nat.lt_or_ge o x.cells.length with hlt | hge
    · rw [List.getElem?_append_left hlt] at hc
      have := h 0 x rfl o c hc
      simpa using this
    · rw [List.getElem?_append_right hge] at hc
      have := RepK_flat (off := off + sz) (fun y hy => hs y (List.mem_cons_of_mem _ hy)) (fun i y hy => by
        have := h (i + 1) y (by simpa using hy)
        rwa [Nat.add_mul, Nat.one_mul, Nat.add_comm (i * sz), ← Nat.add_assoc] at this) _ c hc
      rw [hx] at this
      rwa [show off + sz + (o - sz) = off + o by omega] at this

theorem opens_slice {n : Nat} {t et : TypeId} {α : Type} {e : α → List AV} (mk : α → AV) (hmk : ∀ a, (mk a).cells = e a) {sz : Nat} (hsz : ∀ a, (e a).length = sz) (hs0 : 0 < sz) (ht : P.underlying t = some (.slice et)) (hc : P.cellsOf et = sz) (hby : 1 ≤ P.bytesOf et)
    (ho : OpensAt enc P w sp held n et e) : OpensAt enc P w sp held (n + 1) t (fun l : List α => [.slice (l.map mk)]) := by
  intro cs x h hw
  rcases DataW.trod_slice ht h with ⟨rfl, rfl⟩ | ⟨a, len, cap, elems, rest, n', hn', rfl, rfl, hb, hl, hm, hlen, hel, _, _⟩
  · exact ⟨[], .cons .sliceNil (.nil _)⟩
  · simp only [Nat.add_right_cancel_iff] at hn'
    subst hn'
    rcases Nat.eq_zero_or_pos len with h0 | hpos
    · subst h0
      exact ⟨[], .cons (.sliceE a cap) (.nil _)⟩
    · simp only [DataW.weights, ht, List.mem_cons, List.mem_append, List.length_map] at hw
      have hwe : ∀ n ∈ DataW.weightsAll P et (elems.map (·.1)), n ≤ reachBytes := fun n hn => hw n (.inr (.inl hn))
      have h48 : len ≤ 281474976710656 := by
        have h1 := hw _ (.inl rfl)
        have h2 : elems.length + rest.length ≤ (elems.length + rest.length) * P.bytesOf et := Nat.le_mul_of_pos_right _ hby
        simp only [reachBytes] at h1
        omega
      have key : ∀ i, i < len → ∃ (v : α) (ci : List Value), w.cells? 0 (a.add (i * sz)) sz = some ci ∧ RepL (gh0 w) (e v) ci := by
        intro i hi
        have h1 := hel i hi
        rw [hc, List.getElem?_eq_getElem (by omega)] at h1
        obtain ⟨ci, h2, h3⟩ := Option.bind_eq_some_iff.1 h1
        obtain ⟨v, hv⟩ := ho ci _ h3 (weightsAll_get hwe (i := i) (by rw [List.getElem?_map, List.getElem?_eq_getElem (by omega)]; rfl))
        exact ⟨v, ci, h2, hv⟩
      have hspot : a.spot = none := by
        obtain ⟨v, ci, h2, h3⟩ := key 0 hpos
        obtain ⟨_, h4, h5⟩ := World.cells?_some h2
        have h6 := h5 0 hs0
        rw [List.getElem?_eq_getElem (by omega)] at h6
        simp only [Nat.zero_mul, Addr.add, if_true] at h6
        unfold World.cell? at h6
        split at h6
        · split at h6
          · cases h6
          · rename_i hsp; simpa using hsp
        · cases h6
      obtain ⟨b, off, spot⟩ := a
      simp only at hspot
      subst hspot
      have hlist : ∃ l : List α, l.length = len ∧ ∀ i v, l[i]? = some v → ∃ ci, w.cells? 0 ((⟨b, off, none⟩ : Addr).add (i * sz)) sz = some ci ∧ RepL (gh0 w) (e v) ci := by
        refine ⟨List.ofFn fun i : Fin len => Classical.choose (key i i.2), by simp, fun i v hv => ?_⟩
        rw [List.getElem?_ofFn] at hv
        split at hv
        · rename_i hi
          simp at hv; subst hv
          exact Classical.choose_spec (key i hi)
        · cases hv
      obtain ⟨l, hll, hli⟩ := hlist
      refine ⟨l, .cons ?_ (.nil _)⟩
      have hu : ∀ x, x ∈ l.map mk → x.cells.length = sz := by
        intro x hx
        obtain ⟨v, _, rfl⟩ := List.mem_map.1 hx
        rw [hmk, hsz]
      have := Rep.slice_mk (G := gh0 w) (b := b) (off := off) (cap := cap) (l := l.map mk) (sz := sz) (RepK_flat hu fun i x hx => ?_) hu (by simp; omega) (by simp; omega)
      · rw [List.length_map, hll] at this
        exact this
      · rw [List.getElem?_map] at hx
        obtain ⟨v, hv, rfl⟩ := Option.map_eq_some_iff.1 hx
        obtain ⟨ci, h1, h2⟩ := hli i v hv
        obtain ⟨_, h3, h4⟩ := World.cells?_some h1
        rw [hmk]
        intro o c hoc
        obtain ⟨u, k1, k2⟩ := h2.index hoc
        refine ⟨u, ?_, k2⟩
        have ho' : o < sz := by rw [← hsz v]; exact (List.getElem?_eq_some_iff.1 hoc).1
        have := h4 o ho'
        rw [add_off, add_off, k1] at this
        exact this
end
end Go.Ai

set_option linter.unusedVariables false
set_option linter.unusedSimpArgs false
namespace Go.Ai.Try
open Go Go.Ai Go.Proofs Go.RowKit
theorem co3 : Try.prog.cellsOf 3 = 1 := by kernel_rfl
theorem co9 : Try.prog.cellsOf 9 = 1 := by kernel_rfl
theorem co23 : Try.prog.cellsOf 23 = 3 := by kernel_rfl
theorem co24 : Try.prog.cellsOf 24 = 1 := by kernel_rfl
theorem co25 : Try.prog.cellsOf 25 = 1 := by kernel_rfl
theorem co27 : Try.prog.cellsOf 27 = 8 := by kernel_rfl
theorem co28 : Try.prog.cellsOf 28 = 1 := by kernel_rfl
theorem co52 : Try.prog.cellsOf 52 = 2 := by kernel_rfl
theorem co88 : Try.prog.cellsOf 88 = 3 := by kernel_rfl
theorem by27 : Try.prog.bytesOf 27 = 120 := by kernel_rfl
theorem by52 : Try.prog.bytesOf 52 = 24 := by kernel_rfl
theorem by90 : Try.prog.bytesOf 90 = 40 := by kernel_rfl
theorem co90 : Try.prog.cellsOf 90 = 4 := by kernel_rfl
section
variable {H : Type} {enc : TypeId × Value → H} {w : World} {sp : Nat → Bool} {held : Bool}
theorem opens_id (fuel : Nat) : OpensAt enc Try.prog w sp held fuel 23 Id.cs := by
  intro cs x h hw
  obtain ⟨n, rfl, hl, hf⟩ := open_struct Try.underlying23 h hw
  rw [co23] at hl
  obtain ⟨x0, h0, w0⟩ := open_field hf 0 3 0 1 rfl co3
  obtain ⟨x1, h1, w1⟩ := open_field hf 1 3 1 1 rfl co3
  obtain ⟨x2, h2, w2⟩ := open_field hf 2 3 2 1 rfl co3
  obtain ⟨a0, r0⟩ := opens_int (enc := enc) Try.underlying3 _ _ h0 w0
  obtain ⟨a1, r1⟩ := opens_int (enc := enc) Try.underlying3 _ _ h1 w1
  obtain ⟨a2, r2⟩ := opens_int (enc := enc) Try.underlying3 _ _ h2 w2
  refine ⟨⟨a0, a1, a2⟩, ?_⟩
  exact RepL.cat (o := 0) (s := 1) r0 (RepL.cat (s := 1) r1 (RepL.cat (s := 1) r2 (RepL.done hl)))
theorem opens_mark (fuel : Nat) : OpensAt enc Try.prog w sp held fuel 88 Id.cs := by
  intro cs x h hw
  obtain ⟨n, rfl, hl, hf⟩ := open_struct Try.underlying88 h hw
  rw [co88] at hl
  obtain ⟨x0, h0, w0⟩ := open_field hf 0 3 0 1 rfl co3
  obtain ⟨x1, h1, w1⟩ := open_field hf 1 3 1 1 rfl co3
  obtain ⟨x2, h2, w2⟩ := open_field hf 2 3 2 1 rfl co3
  obtain ⟨a0, r0⟩ := opens_int (enc := enc) Try.underlying3 _ _ h0 w0
  obtain ⟨a1, r1⟩ := opens_int (enc := enc) Try.underlying3 _ _ h1 w1
  obtain ⟨a2, r2⟩ := opens_int (enc := enc) Try.underlying3 _ _ h2 w2
  refine ⟨⟨a0, a1, a2⟩, ?_⟩
  exact RepL.cat (o := 0) (s := 1) r0 (RepL.cat (s := 1) r1 (RepL.cat (s := 1) r2 (RepL.done hl)))
def wcs (x : Wd) : List AV := .str x.text :: x.origin.cs
theorem opens_word (fuel : Nat) : OpensAt enc Try.prog w sp held fuel 90 wcs := by
  intro cs x h hw
  obtain ⟨n, rfl, hl, hf⟩ := open_struct Try.underlying90 h hw
  rw [co90] at hl
  obtain ⟨x0, h0, w0⟩ := open_field hf 0 9 0 1 rfl co9
  obtain ⟨x1, h1, w1⟩ := open_field hf 1 88 1 3 rfl co88
  obtain ⟨a0, r0⟩ := opens_str (enc := enc) Try.underlying9 _ _ h0 w0
  obtain ⟨a1, r1⟩ := opens_mark n _ _ h1 w1
  refine ⟨⟨a0, a1⟩, ?_⟩
  exact RepL.cat (o := 0) (s := 1) r0 (RepL.cat (s := 3) r1 (RepL.done hl))
theorem opens_step (fuel : Nat) : OpensAt enc Try.prog w sp held fuel 52 (fun s : Step => [.int .i64 s.kind, .str s.label]) := by
  intro cs x h hw
  obtain ⟨n, rfl, hl, hf⟩ := open_struct Try.underlying52 h hw
  rw [co52] at hl
  obtain ⟨x0, h0, w0⟩ := open_field hf 0 3 0 1 rfl co3
  obtain ⟨x1, h1, w1⟩ := open_field hf 1 9 1 1 rfl co9
  obtain ⟨a0, r0⟩ := opens_int (enc := enc) Try.underlying3 _ _ h0 w0
  obtain ⟨a1, r1⟩ := opens_str (enc := enc) Try.underlying9 _ _ h1 w1
  refine ⟨⟨a0, a1⟩, ?_⟩
  exact RepL.cat (o := 0) (s := 1) r0 (RepL.cat (s := 1) r1 (RepL.done hl))
theorem opens_words (fuel : Nat) : OpensAt enc Try.prog w sp held fuel 24 (fun l : List Wd => [.slice (l.map eW)]) := by
  cases fuel with
  | zero => intro cs x h; simp [DataW.trod] at h
  | succ n => exact opens_slice eW (fun _ => rfl) (sz := 4) (fun _ => rfl) (by decide) Try.underlying24 co90 (by rw [by90]; decide) (opens_word n)
theorem opens_steps (fuel : Nat) : OpensAt enc Try.prog w sp held fuel 28 (fun l : List Step => [.slice (l.map eS)]) := by
  cases fuel with
  | zero => intro cs x h; simp [DataW.trod] at h
  | succ n => exact opens_slice eS (fun _ => rfl) (sz := 2) (fun _ => rfl) (by decide) Try.underlying28 co52 (by rw [by52]; decide) (opens_step n)
theorem opens_unit : ∀ fuel, OpensAt enc Try.prog w sp held fuel 27 U.cs := by
  intro fuel
  induction fuel using Nat.strongRecOn with
  | _ fuel ih =>
    intro cs x h hw
    obtain ⟨n, rfl, hl, hf⟩ := open_struct Try.underlying27 h hw
    rw [co27] at hl
    obtain ⟨x0, h0, w0⟩ := open_field hf 0 23 0 3 rfl co23
    obtain ⟨x1, h1, w1⟩ := open_field hf 1 3 3 1 rfl co3
    obtain ⟨x2, h2, w2⟩ := open_field hf 2 9 4 1 rfl co9
    obtain ⟨x3, h3, w3⟩ := open_field hf 3 24 5 1 rfl co24
    obtain ⟨x4, h4, w4⟩ := open_field hf 4 24 6 1 rfl co24
    obtain ⟨x5, h5, w5⟩ := open_field hf 5 25 7 1 rfl co25
    obtain ⟨a0, r0⟩ := opens_id n _ _ h0 w0
    obtain ⟨a1, r1⟩ := opens_int (enc := enc) Try.underlying3 _ _ h1 w1
    obtain ⟨a2, r2⟩ := opens_str (enc := enc) Try.underlying9 _ _ h2 w2
    obtain ⟨a3, r3⟩ := opens_words n _ _ h3 w3
    obtain ⟨a4, r4⟩ := opens_words n _ _ h4 w4
    have hk : OpensAt enc Try.prog w sp held n 25 (fun l : List U => [.slice (l.map eU)]) := by
      cases n with
      | zero => intro cs x h; simp [DataW.trod] at h
      | succ m => exact opens_slice eU (fun u => cells_eU u) (sz := 8) (fun _ => rfl) (by decide) Try.underlying25 co27 (by rw [by27]; decide) (ih m (by omega))
    obtain ⟨a5, r5⟩ := hk _ _ h5 w5
    refine ⟨⟨a0, a1, a2, a3, a4, a5⟩, ?_⟩
    exact RepL.cat (o := 0) (s := 3) r0 (RepL.cat (s := 1) r1 (RepL.cat (s := 1) r2 (RepL.cat (s := 1) r3 (RepL.cat (s := 1) r4 (RepL.cat (s := 1) r5 (RepL.done hl))))))
end
end Go.Ai.Try
