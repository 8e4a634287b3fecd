/- A part of the proof: no statement of the seat is proved in this text. -/
import Derived.Test.YtcphpaeebaacgaaAi15
import Derived.Laws.StructEq
set_option linter.unusedVariables false
set_option linter.unusedSimpArgs false
namespace Go.Ai
open Go Go.RowKit

/-! ### Equality of plain values -/
def EqAt (P : Program) (d : Nat) (t : TypeId) (g : Bool) (ks : List KC) : Prop :=
  ∀ (k : Nat), d ≤ k → ∀ (G : Gh) (cs ds : List AV) (vs us : List Value) (b : Bool) (w : World), aeqs cs ds = some b → cs.map AV.kc = ks → RepL G cs vs → RepL G ds us →
    (Op.equalIn k t (mkV g vs) (mkV g us)).run P w = .ok b w

theorem aeqs_len : ∀ {cs ds : List AV} {b : Bool}, aeqs cs ds = some b → cs.length = ds.length
  | [], [], _, _ => rfl
  | [], _ :: _, _, h => by simp [aeqs] at h
  | _ :: _, [], _, h => by simp [aeqs] at h
  | x :: xs, y :: ys, b, h => by
    simp only [aeqs] at h
    split at h
    · rename_i h2; simp [aeqs_len h2]
    · cases h

theorem aeqs_append : ∀ (cs1 ds1 cs2 ds2 : List AV) (b : Bool), cs1.length = ds1.length → aeqs (cs1 ++ cs2) (ds1 ++ ds2) = some b → ∃ b1 b2, aeqs cs1 ds1 = some b1 ∧ aeqs cs2 ds2 = some b2 ∧ b = (b1 && b2)
  | [], [], cs2, ds2, b, _, h => ⟨true, b, rfl, h, rfl⟩
  | [], _ :: _, _, _, _, hl, _ => by simp at hl
  | _ :: _, [], _, _, _, hl, _ => by simp at hl
  | x :: xs, y :: ys, cs2, ds2, b, hl, h => by
    simp only [List.cons_append, aeqs] at h
    split at h
    · rename_i a b' h1 h2
      simp at h; subst h
      obtain ⟨b1, b2, k1, k2, rfl⟩ := aeqs_append xs ys cs2 ds2 b' (by simpa using hl) h2
      exact ⟨a && b1, b2, by simp [aeqs, h1, k1], k2, by rw [Bool.and_assoc]⟩
    · cases h

section
variable {P : Program}

theorem eqAt_one {t : TypeId} {kc : KC} (h : ∀ (k : Nat) (x y : AV) (b : Bool) (G : Gh) (u v : Value) (w : World), aeq1 x y = some b → x.kc = kc → Rep G x u → Rep G y v → (Op.equalIn (k + 1) t u v).run P w = .ok b w) : EqAt P 1 t false [kc] := by
  intro k hk G cs ds vs us b w ha hl hr hs
  match cs, hl, ds, ha with
  | [x], hl, [y], ha =>
    obtain ⟨u, vs', rfl, h1, h2⟩ := hr.form
    obtain ⟨v, us', rfl, h3, h4⟩ := hs.form
    obtain ⟨k', rfl⟩ : ∃ k', k = k' + 1 := ⟨k - 1, by omega⟩
    simp only [aeqs] at ha
    split at ha
    · rename_i a c e1 e2
      simp at e2; subst e2
      simp at ha; subst ha
      exact h k' x y _ G u v w e1 (by simpa using hl) h1 h3
    · cases ha
  | [_], _, [], ha => simp [aeqs] at ha
  | [_], _, _ :: _ :: _, ha => simp [aeqs] at ha

theorem eqAt_int {t : TypeId} {k : IntKind} (ht : P.underlying t = some (.int k)) : EqAt P 1 t false [.int k] := eqAt_one fun d x y b G u v w ha hk hx hy => by
  rcases aeq1_scal ha with ⟨k', m, n, rfl, rfl, rfl⟩ | ⟨m, n, rfl, rfl, rfl⟩ | ⟨m, n, rfl, rfl, rfl⟩
  · rw [hx.int_inv.1, hy.int_inv.1]
    simp [Op.equalIn, run_underlying ht]
    rfl
  · cases hk
  · cases hk
theorem eqAt_bool {t : TypeId} (ht : P.underlying t = some .bool) : EqAt P 1 t false [.bool] := eqAt_one fun d x y b G u v w ha hk hx hy => by
  rcases aeq1_scal ha with ⟨k', m, n, rfl, rfl, rfl⟩ | ⟨m, n, rfl, rfl, rfl⟩ | ⟨m, n, rfl, rfl, rfl⟩
  · cases hk
  · rw [hx.bool_inv, hy.bool_inv]
    simp [Op.equalIn, run_underlying ht]
  · cases hk
theorem eqAt_str {t : TypeId} (ht : P.underlying t = some .string) : EqAt P 1 t false [.str] := eqAt_one fun d x y b G u v w ha hk hx hy => by
  rcases aeq1_scal ha with ⟨k', m, n, rfl, rfl, rfl⟩ | ⟨m, n, rfl, rfl, rfl⟩ | ⟨m, n, rfl, rfl, rfl⟩
  · cases hk
  · cases hk
  · rw [hx.str_inv.1, hy.str_inv.1]
    simp only [Op.equalIn, Sem.run_bind, run_underlying ht, Result.andThen_ok, beq_toListBytes, toList_inj]
    rfl

/-- The fields of a struct, laid one behind the other, each plain. -/
inductive FlatF (P : Program) (d : Nat) : Nat → List Field → Nat → List KC → Prop
  | nil (off : Nat) : FlatF P d off [] off []
  | cons (f : Field) (fl : List Field) (off e : Nat) (g : Bool) (x : TypeInfo) (dsc : TypeDesc) (ks ks' : List KC) (hn : (f.name == "_") = false) (ho : f.offset = off) (hi : P.info? f.type = some x) (hs : x.size = ks.length) (h0 : 0 < ks.length)
      (hg : (match dsc with | .struct _ | .array _ _ => true | _ => false) = g) (hd : P.underlying f.type = some dsc) (he : EqAt P d f.type g ks) (hr : FlatF P d (off + ks.length) fl e ks') : FlatF P d off (f :: fl) e (ks ++ ks')

theorem FlatF.len {d off e : Nat} {fl : List Field} {ks : List KC} (h : FlatF P d off fl e ks) : e = off + ks.length := by
  induction h with
  | nil off => simp
  | cons f fl off e g x dsc ks ks' hn ho hi hs h0 hg hd he hr ih => rw [ih, List.length_append]; omega

theorem FlatF.run {d off e : Nat} {fl : List Field} {ks : List KC} (h : FlatF P d off fl e ks) {k : Nat} (hk : d ≤ k) {G : Gh} {cs ds : List AV} {vs us : List Value} {b : Bool} {w : World}
    (hr : RepL G cs vs) (hs : RepL G ds us) (hlc : cs.length = e) (hld : ds.length = e) (ha : aeqs (cs.drop off) (ds.drop off) = some b) (hc : (cs.drop off).map AV.kc = ks) :
    (Op.eqFields k vs.toArray us.toArray fl).run P w = .ok b w := by
  induction h generalizing b with
  | nil off =>
    have h1 : cs.drop off = [] := List.drop_eq_nil_of_le (by omega)
    have h2 : ds.drop off = [] := List.drop_eq_nil_of_le (by omega)
    rw [h1, h2] at ha
    simp [aeqs] at ha
    subst ha
    simp [Op.eqFields]
  | cons f fl off e g x dsc ks ks' hn ho hi hs' h0 hg hd he hrest ih =>
    have hee := hrest.len
    have hcd : cs.drop off = (cs.drop off).take ks.length ++ cs.drop (off + ks.length) := by rw [← List.drop_drop]; exact (List.take_append_drop _ _).symm
    have hdd : ds.drop off = (ds.drop off).take ks.length ++ ds.drop (off + ks.length) := by rw [← List.drop_drop]; exact (List.take_append_drop _ _).symm
    rw [hcd, hdd] at ha
    obtain ⟨b1, b2, h1, h2, rfl⟩ := aeqs_append _ _ _ _ _ (by simp; omega) ha
    rw [hcd, List.map_append] at hc
    obtain ⟨hc1, hc2⟩ := List.append_inj hc (by simp; omega)
    have hr1 := (hr.drop off).take ks.length
    have hs1 := (hs.drop off).take ks.length
    have p1 := part_run (P := P) hg hd hi hs' h0 (vs := vs) (off := off) (by rw [← hr.1]; omega) w
    have p2 := part_run (P := P) hg hd hi hs' h0 (vs := us) (off := off) (by rw [← hs.1]; omega) w
    have e1 := he k hk G _ _ _ _ b1 w h1 hc1 hr1 hs1
    have e2 := ih hlc hld h2 hc2
    have hn' : f.name ≠ "_" := by simpa using hn
    rw [← ho] at p1 p2 e1
    rw [Op.eqFields]
    simp only [if_pos hn', Sem.run_bind, p1, p2, e1, Result.andThen_ok]
    cases b1
    · simp
    · simpa using e2

theorem eqAt_struct {t : TypeId} {fs : Array Field} {d e : Nat} {ks : List KC} (ht : P.underlying t = some (.struct fs)) (hp : P.stoodInHeld t = false) (hf : FlatF P d 0 fs.toList e ks) : EqAt P (d + 1) t true ks := by
  intro k hk G cs ds vs us b w ha hc hr hs
  obtain ⟨k', rfl⟩ : ∃ k', k = k' + 1 := ⟨k - 1, by omega⟩
  have hfo : P.fieldsOf t = fs := by simp [Program.fieldsOf, ht]
  have hlen := hf.len
  have hlc : cs.length = e := by rw [hlen, ← hc]; simp
  have hld : ds.length = e := by rw [← aeqs_len ha, hlc]
  show (Op.equalIn (k' + 1) t (.agg vs.toArray) (.agg us.toArray)).run P w = _
  rw [run_equalIn_struct (P := P) w k' t _ _ (by rw [hfo]; exact ht) hp, hfo]
  exact hf.run (by omega) hr hs hlc hld (by simpa using ha) (by simpa using hc)

theorem EqAt.eq {d : Nat} {t : TypeId} {g : Bool} {ks : List KC} (h : EqAt P d t g ks) (hd : d ≤ 10000) (G : Gh) (cs ds : List AV) (vs us : List Value) (b : Bool) (w : World) (h1 : aeqs cs ds = some b) (h2 : cs.map AV.kc = ks) (h3 : RepL G cs vs) (h4 : RepL G ds us) :
    (Op.equal t (mkV g vs) (mkV g us)).run P w = .ok b w := h 10000 hd G cs ds vs us b w h1 h2 h3 h4
theorem EqAt.mono {d d' : Nat} {t : TypeId} {g : Bool} {ks : List KC} (h : EqAt P d t g ks) (hd : d ≤ d') : EqAt P d' t g ks := fun k hk => h k (by omega)
end
end Go.Ai
