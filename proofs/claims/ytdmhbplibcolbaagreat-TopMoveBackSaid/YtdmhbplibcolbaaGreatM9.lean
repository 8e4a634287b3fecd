/- A part of the proof: no statement of the seat is proved in this text. -/
import Derived.Test.YtdmhbplibcolbaaGreatM7
set_option linter.unusedVariables false
set_option linter.unusedSimpArgs false
set_option maxRecDepth 20000
set_option maxHeartbeats 1000000
namespace Go.Ai
open Go Go.Ai.Tryz
def Start0 (x y : It) : Bool := decide (x.skind = y.skind) && (decide (x.sday = y.sday) && decide (x.sevent = y.sevent))
def sameH (x y : It) : Bool := decide (x.kind = y.kind) && (decide (x.wh = y.wh) && (decide (x.nth = y.nth) && (decide (x.label = y.label) && (decide (x.fr = y.fr) && (Start0 x y && (decide (x.act = y.act) && (decide (x.item = y.item) && (decide (x.day = y.day) && decide (x.event = y.event)))))))))
def sameR (x y : It) : Bool := sameQ x.at' y.at' && (sameQ x.to y.to && (sameQ x.old y.old && (sameQ x.new y.new && (sameU x.unit y.unit && decide (x.by'.length = y.by'.length)))))
mutual
def sameIt : It → It → Bool
  | ⟨k, a, t, wh, n, u, o, nw, lb, fr, sk, sd, se, ac, it, d, ev, bs⟩, y => sameH ⟨k, a, t, wh, n, u, o, nw, lb, fr, sk, sd, se, ac, it, d, ev, bs⟩ y && (sameR ⟨k, a, t, wh, n, u, o, nw, lb, fr, sk, sd, se, ac, it, d, ev, bs⟩ y && sameIts bs y.by')
def sameIts : List It → List It → Bool
  | [], _ => true
  | _ :: _, [] => true
  | k :: ks, y :: ys => sameIt k y && sameIts ks ys
end
theorem sameIt_eq (x y : It) : sameIt x y = (sameH x y && (sameR x y && sameIts x.by' y.by')) := by cases x; simp only [sameIt]
theorem sameH_self (x : It) : sameH x x = true := by simp [sameH, Start0]
theorem sameR_self (x : It) : sameR x x = true := by simp [sameR, sameQ_self, sameU_self]
structure fewH (x : It) : Prop where
  at' : x.at'.length ≤ 1000
  to : x.to.length ≤ 1000
  old : x.old.length ≤ 1000
  new : x.new.length ≤ 1000
  by' : x.by'.length ≤ 1000
  unit : (every x.unit).length ≤ 30
  small : small (every x.unit)
  oldw : ∀ s ∈ x.old, s.size ≤ 100
  neww : ∀ s ∈ x.new, s.size ≤ 100
  lab : x.label.size ≤ 100 ∧ x.fr.size ≤ 100 ∧ x.sevent.size ≤ 100 ∧ x.event.size ≤ 100
mutual
def fewIt : It → Prop
  | ⟨k, a, t, wh, n, u, o, nw, lb, fr, sk, sd, se, ac, it, d, ev, bs⟩ => fewH ⟨k, a, t, wh, n, u, o, nw, lb, fr, sk, sd, se, ac, it, d, ev, bs⟩ ∧ fewIts bs
def fewIts : List It → Prop
  | [] => True
  | k :: ks => fewIt k ∧ fewIts ks
end
theorem fewIt_eq (x : It) : fewIt x = (fewH x ∧ fewIts x.by') := by cases x; simp only [fewIt]
theorem fewIts_mem {l : List It} (h : fewIts l) : ∀ k ∈ l, fewIt k := by
  induction l with
  | nil => intro k hk; cases hk
  | cons a l ih =>
    simp only [fewIts] at h
    intro k hk
    rcases List.mem_cons.1 hk with rfl | hk
    · exact h.1
    · exact ih h.2 k hk
theorem fewIts_of {l : List It} (h : ∀ k ∈ l, fewIt k) : fewIts l := by
  induction l with
  | nil => simp only [fewIts]
  | cons a l ih => simp only [fewIts]; exact ⟨h a (List.mem_cons_self ..), ih fun k hk => h k (List.mem_cons_of_mem _ hk)⟩
def toldM (x : It) : It where
  kind := x.kind
  at' := if x.kind ≤ 6 then x.at' else []
  to := if x.kind = 6 then x.to else []
  wh := if x.kind = 0 ∨ x.kind = 6 then x.wh else 0
  nth := if x.kind = 2 ∨ x.kind = 3 then x.nth else 0
  unit := if x.kind = 0 then x.unit else zeroU
  old := if x.kind = 2 ∨ x.kind = 3 then x.old else []
  new := if x.kind = 2 ∨ x.kind = 3 ∨ x.kind = 4 then x.new else []
  label := if x.kind = 5 then x.label else ByteArray.empty
  fr := if x.kind ≤ 6 then x.fr else ByteArray.empty
  skind := if x.kind ≤ 6 then x.skind else 0
  sday := if x.kind ≤ 6 then x.sday else 0
  sevent := if x.kind ≤ 6 then x.sevent else ByteArray.empty
  act := if x.kind = 7 ∨ x.kind = 8 ∨ x.kind = 9 ∨ x.kind = 11 then x.act else 0
  item := if x.kind = 7 ∨ x.kind = 8 ∨ x.kind = 9 ∨ x.kind = 11 then x.item else 0
  day := if x.kind ≤ 6 ∨ x.kind = 11 then 0 else x.day
  event := if x.kind = 10 then x.event else ByteArray.empty
  by' := if x.kind = 11 then x.by' else []
end Go.Ai
namespace Go.Ai.Tryz
open Go Go.Ai Go.Proofs
variable {w0 : World}
theorem spec18 (x : It) (H : AH) (Q : AV → AH → Prop) (h : Q (eIt (toldM x)) H) : ACalls Tryz.prog w0 18 [eIt x] H Q := by
  refine enter18 (by simp) fun hwf hok R hR hR0 => ?_
  have fin : ∀ (t : It) (cs : List AV) env' H', toldM x = t → t.cs = cs.map AV.forget → cs.length = 25 → look 2 env' = .ptr (H.n + 1) 0 → H.Sub H' → H'.obj (H.n + 1) = some (.cells cs 34) → R .ret env' H' := fun t cs env' H' h1 h1' h1'' h2 h4 h5 => by
    rw [h1] at h
    refine hR _ _ (.agg cs) (ares_c (ares1_cell (cs := cs) (e := 34) tt_34 h2 h5 (by decide) (by rw [h1'']; decide) (by rw [List.drop_zero, List.take_of_length_le (by rw [h1'']; decide)]; rfl))) (.inl ⟨eIt t, H, ?_, fit_eIt _ _ t, h4, rfl, rfl, h⟩)
    rw [eIt_eq, h1']
    exact AV.Weak.cells _
  unfold x18
  by_cases k0 : x.kind = 0
  · simp only [go_sem, k0, dr18_0, dr18_1]
    exact fin ⟨0, x.at', [], x.wh, 0, x.unit, [], [], ByteArray.empty, x.fr, x.skind, x.sday, x.sevent, 0, 0, 0, ByteArray.empty, []⟩ [.int .i64 0, .slice (x.at'.map eS), .nilS, .int .i64 x.wh, .int .i64 0, .int .i64 x.unit.id.act, .int .i64 x.unit.id.item, .int .i64 x.unit.id.n, .int .i64 x.unit.kind, .str x.unit.label, .slice (x.unit.head.map eW), .slice (x.unit.words.map eW), .slice (x.unit.kids.map eU), .nilS, .nilS, .str ByteArray.empty, .str x.fr, .int .i64 x.skind, .int .i64 x.sday, .str x.sevent, .int .i64 0, .int .i64 0, .int .i64 0, .str ByteArray.empty, .nilS] _ _ (by simp [toldM, k0]) rfl rfl (by simp only [go_sem]) (.push (.push (.push (.refl hwf) _) _) _) (by simp only [go_sem])
  by_cases k1 : x.kind = 1
  · simp only [go_sem, k1, dr18_0]
    exact fin ⟨1, x.at', [], 0, 0, zeroU, [], [], ByteArray.empty, x.fr, x.skind, x.sday, x.sevent, 0, 0, 0, ByteArray.empty, []⟩ [.int .i64 1, .slice (x.at'.map eS), .nilS, .int .i64 0, .int .i64 0, .int .i64 0, .int .i64 0, .int .i64 0, .int .i64 0, .str ByteArray.empty, .nilS, .nilS, .nilS, .nilS, .nilS, .str ByteArray.empty, .str x.fr, .int .i64 x.skind, .int .i64 x.sday, .str x.sevent, .int .i64 0, .int .i64 0, .int .i64 0, .str ByteArray.empty, .nilS] _ _ (by simp [toldM, k1]) rfl rfl (by simp only [go_sem]) (.push (.push (.push (.refl hwf) _) _) _) (by simp only [go_sem])
  by_cases k2 : x.kind = 2
  · simp only [go_sem, k2, dr18_0, dr18_2]
    exact fin ⟨2, x.at', [], 0, x.nth, zeroU, x.old, x.new, ByteArray.empty, x.fr, x.skind, x.sday, x.sevent, 0, 0, 0, ByteArray.empty, []⟩ [.int .i64 2, .slice (x.at'.map eS), .nilS, .int .i64 0, .int .i64 x.nth, .int .i64 0, .int .i64 0, .int .i64 0, .int .i64 0, .str ByteArray.empty, .nilS, .nilS, .nilS, .slice (x.old.map AV.str), .slice (x.new.map AV.str), .str ByteArray.empty, .str x.fr, .int .i64 x.skind, .int .i64 x.sday, .str x.sevent, .int .i64 0, .int .i64 0, .int .i64 0, .str ByteArray.empty, .nilS] _ _ (by simp [toldM, k2]) rfl rfl (by simp only [go_sem]) (.push (.push (.push (.refl hwf) _) _) _) (by simp only [go_sem])
  by_cases k3 : x.kind = 3
  · simp only [go_sem, k3, dr18_0, dr18_2]
    exact fin ⟨3, x.at', [], 0, x.nth, zeroU, x.old, x.new, ByteArray.empty, x.fr, x.skind, x.sday, x.sevent, 0, 0, 0, ByteArray.empty, []⟩ [.int .i64 3, .slice (x.at'.map eS), .nilS, .int .i64 0, .int .i64 x.nth, .int .i64 0, .int .i64 0, .int .i64 0, .int .i64 0, .str ByteArray.empty, .nilS, .nilS, .nilS, .slice (x.old.map AV.str), .slice (x.new.map AV.str), .str ByteArray.empty, .str x.fr, .int .i64 x.skind, .int .i64 x.sday, .str x.sevent, .int .i64 0, .int .i64 0, .int .i64 0, .str ByteArray.empty, .nilS] _ _ (by simp [toldM, k3]) rfl rfl (by simp only [go_sem]) (.push (.push (.push (.refl hwf) _) _) _) (by simp only [go_sem])
  by_cases k4 : x.kind = 4
  · simp only [go_sem, k4, dr18_0]
    exact fin ⟨4, x.at', [], 0, 0, zeroU, [], x.new, ByteArray.empty, x.fr, x.skind, x.sday, x.sevent, 0, 0, 0, ByteArray.empty, []⟩ [.int .i64 4, .slice (x.at'.map eS), .nilS, .int .i64 0, .int .i64 0, .int .i64 0, .int .i64 0, .int .i64 0, .int .i64 0, .str ByteArray.empty, .nilS, .nilS, .nilS, .nilS, .slice (x.new.map AV.str), .str ByteArray.empty, .str x.fr, .int .i64 x.skind, .int .i64 x.sday, .str x.sevent, .int .i64 0, .int .i64 0, .int .i64 0, .str ByteArray.empty, .nilS] _ _ (by simp [toldM, k4]) rfl rfl (by simp only [go_sem]) (.push (.push (.push (.refl hwf) _) _) _) (by simp only [go_sem])
  by_cases k5 : x.kind = 5
  · simp only [go_sem, k5, dr18_0]
    exact fin ⟨5, x.at', [], 0, 0, zeroU, [], [], x.label, x.fr, x.skind, x.sday, x.sevent, 0, 0, 0, ByteArray.empty, []⟩ [.int .i64 5, .slice (x.at'.map eS), .nilS, .int .i64 0, .int .i64 0, .int .i64 0, .int .i64 0, .int .i64 0, .int .i64 0, .str ByteArray.empty, .nilS, .nilS, .nilS, .nilS, .nilS, .str x.label, .str x.fr, .int .i64 x.skind, .int .i64 x.sday, .str x.sevent, .int .i64 0, .int .i64 0, .int .i64 0, .str ByteArray.empty, .nilS] _ _ (by simp [toldM, k5]) rfl rfl (by simp only [go_sem]) (.push (.push (.push (.refl hwf) _) _) _) (by simp only [go_sem])
  by_cases k6 : x.kind = 6
  · simp only [go_sem, k6, dr18_0, dr18_3]
    exact fin ⟨6, x.at', x.to, x.wh, 0, zeroU, [], [], ByteArray.empty, x.fr, x.skind, x.sday, x.sevent, 0, 0, 0, ByteArray.empty, []⟩ [.int .i64 6, .slice (x.at'.map eS), .slice (x.to.map eS), .int .i64 x.wh, .int .i64 0, .int .i64 0, .int .i64 0, .int .i64 0, .int .i64 0, .str ByteArray.empty, .nilS, .nilS, .nilS, .nilS, .nilS, .str ByteArray.empty, .str x.fr, .int .i64 x.skind, .int .i64 x.sday, .str x.sevent, .int .i64 0, .int .i64 0, .int .i64 0, .str ByteArray.empty, .nilS] _ _ (by simp [toldM, k6]) rfl rfl (by simp only [go_sem]) (.push (.push (.push (.refl hwf) _) _) _) (by simp only [go_sem])
  by_cases k7 : x.kind = 7
  · simp only [go_sem, k7, dr18_4]
    exact fin ⟨7, [], [], 0, 0, zeroU, [], [], ByteArray.empty, ByteArray.empty, 0, 0, ByteArray.empty, x.act, x.item, x.day, ByteArray.empty, []⟩ [.int .i64 7, .nilS, .nilS, .int .i64 0, .int .i64 0, .int .i64 0, .int .i64 0, .int .i64 0, .int .i64 0, .str ByteArray.empty, .nilS, .nilS, .nilS, .nilS, .nilS, .str ByteArray.empty, .str ByteArray.empty, .int .i64 0, .int .i64 0, .str ByteArray.empty, .int .i64 x.act, .int .i64 x.item, .int .i64 x.day, .str ByteArray.empty, .nilS] _ _ (by simp [toldM, k7]) rfl rfl (by simp only [go_sem]) (.push (.push (.push (.refl hwf) _) _) _) (by simp only [go_sem])
  by_cases k8 : x.kind = 8
  · simp only [go_sem, k8, dr18_4]
    exact fin ⟨8, [], [], 0, 0, zeroU, [], [], ByteArray.empty, ByteArray.empty, 0, 0, ByteArray.empty, x.act, x.item, x.day, ByteArray.empty, []⟩ [.int .i64 8, .nilS, .nilS, .int .i64 0, .int .i64 0, .int .i64 0, .int .i64 0, .int .i64 0, .int .i64 0, .str ByteArray.empty, .nilS, .nilS, .nilS, .nilS, .nilS, .str ByteArray.empty, .str ByteArray.empty, .int .i64 0, .int .i64 0, .str ByteArray.empty, .int .i64 x.act, .int .i64 x.item, .int .i64 x.day, .str ByteArray.empty, .nilS] _ _ (by simp [toldM, k8]) rfl rfl (by simp only [go_sem]) (.push (.push (.push (.refl hwf) _) _) _) (by simp only [go_sem])
  by_cases k9 : x.kind = 9
  · simp only [go_sem, k9, dr18_4]
    exact fin ⟨9, [], [], 0, 0, zeroU, [], [], ByteArray.empty, ByteArray.empty, 0, 0, ByteArray.empty, x.act, x.item, x.day, ByteArray.empty, []⟩ [.int .i64 9, .nilS, .nilS, .int .i64 0, .int .i64 0, .int .i64 0, .int .i64 0, .int .i64 0, .int .i64 0, .str ByteArray.empty, .nilS, .nilS, .nilS, .nilS, .nilS, .str ByteArray.empty, .str ByteArray.empty, .int .i64 0, .int .i64 0, .str ByteArray.empty, .int .i64 x.act, .int .i64 x.item, .int .i64 x.day, .str ByteArray.empty, .nilS] _ _ (by simp [toldM, k9]) rfl rfl (by simp only [go_sem]) (.push (.push (.push (.refl hwf) _) _) _) (by simp only [go_sem])
  by_cases k10 : x.kind = 10
  · simp only [go_sem, k10]
    exact fin ⟨10, [], [], 0, 0, zeroU, [], [], ByteArray.empty, ByteArray.empty, 0, 0, ByteArray.empty, 0, 0, x.day, x.event, []⟩ [.int .i64 10, .nilS, .nilS, .int .i64 0, .int .i64 0, .int .i64 0, .int .i64 0, .int .i64 0, .int .i64 0, .str ByteArray.empty, .nilS, .nilS, .nilS, .nilS, .nilS, .str ByteArray.empty, .str ByteArray.empty, .int .i64 0, .int .i64 0, .str ByteArray.empty, .int .i64 0, .int .i64 0, .int .i64 x.day, .str x.event, .nilS] _ _ (by simp [toldM, k10]) rfl rfl (by simp only [go_sem]) (.push (.push (.push (.refl hwf) _) _) _) (by simp only [go_sem])
  by_cases k11 : x.kind = 11
  · simp only [go_sem, k11, dr18_5]
    exact fin ⟨11, [], [], 0, 0, zeroU, [], [], ByteArray.empty, ByteArray.empty, 0, 0, ByteArray.empty, x.act, x.item, 0, ByteArray.empty, x.by'⟩ [.int .i64 11, .nilS, .nilS, .int .i64 0, .int .i64 0, .int .i64 0, .int .i64 0, .int .i64 0, .int .i64 0, .str ByteArray.empty, .nilS, .nilS, .nilS, .nilS, .nilS, .str ByteArray.empty, .str ByteArray.empty, .int .i64 0, .int .i64 0, .str ByteArray.empty, .int .i64 x.act, .int .i64 x.item, .int .i64 0, .str ByteArray.empty, .slice (x.by'.map eIt)] _ _ (by simp [toldM, k11]) rfl rfl (by simp only [go_sem]) (.push (.push (.push (.refl hwf) _) _) _) (by simp only [go_sem])
  cases c6 : decide (x.kind ≤ 6) with
  | true =>
    have c6' : x.kind ≤ 6 := by simpa using c6
    simp only [go_sem, c6, k0, k1, k2, k3, k4, k5, k6, k7, k8, k9, k10, k11, dr18_0]
    exact fin ⟨x.kind, x.at', [], 0, 0, zeroU, [], [], ByteArray.empty, x.fr, x.skind, x.sday, x.sevent, 0, 0, 0, ByteArray.empty, []⟩ [.int .i64 x.kind, .slice (x.at'.map eS), .nilS, .int .i64 0, .int .i64 0, .int .i64 0, .int .i64 0, .int .i64 0, .int .i64 0, .str ByteArray.empty, .nilS, .nilS, .nilS, .nilS, .nilS, .str ByteArray.empty, .str x.fr, .int .i64 x.skind, .int .i64 x.sday, .str x.sevent, .int .i64 0, .int .i64 0, .int .i64 0, .str ByteArray.empty, .nilS] _ _ (by simp [toldM, c6', k0, k1, k2, k3, k4, k5, k6, k7, k8, k9, k10, k11]) rfl rfl (by simp only [go_sem]) (.push (.push (.push (.refl hwf) _) _) _) (by simp only [go_sem])
  | false =>
    have c6' : ¬x.kind ≤ 6 := by simpa using c6
    simp only [go_sem, c6, k0, k1, k2, k3, k4, k5, k6, k7, k8, k9, k10, k11]
    exact fin ⟨x.kind, [], [], 0, 0, zeroU, [], [], ByteArray.empty, ByteArray.empty, 0, 0, ByteArray.empty, 0, 0, x.day, ByteArray.empty, []⟩ [.int .i64 x.kind, .nilS, .nilS, .int .i64 0, .int .i64 0, .int .i64 0, .int .i64 0, .int .i64 0, .int .i64 0, .str ByteArray.empty, .nilS, .nilS, .nilS, .nilS, .nilS, .str ByteArray.empty, .str ByteArray.empty, .int .i64 0, .int .i64 0, .str ByteArray.empty, .int .i64 0, .int .i64 0, .int .i64 x.day, .str ByteArray.empty, .nilS] _ _ (by simp [toldM, c6', k0, k1, k2, k3, k4, k5, k6, k7, k8, k9, k10, k11]) rfl rfl (by simp only [go_sem]) (.push (.push (.push (.refl hwf) _) _) _) (by simp only [go_sem])
end Go.Ai.Tryz
