/- A part of the proof: no statement of the seat is proved in this text. -/
import Derived.Test.YtdmhbplibcolbaaGreatOpen3
import Derived.Test.YtdmhbplibcolbaaGreatM10
set_option linter.unusedVariables false
set_option linter.unusedSimpArgs false
set_option maxRecDepth 20000
set_option maxHeartbeats 1000000
namespace Go.Ai
open Go Go.Ai.Tryz
def row11 (l : List Wd) : Bool := l.all (fun w => wordOk w.text) && decide (l.length ≤ 256)
def alone11 (u : U) : Bool := if u.kind = 0 then decide (u.label = ⟨#[]⟩) && decide (u.head.length = 0) && decide (u.words.length = 0) else decide (0 < u.kind) && decide (u.kind ≤ 7) && labelOk u.label && row11 u.head && row11 u.words
end Go.Ai
namespace Go.Ai.Tryz
open Go Go.Ai Go.Proofs
variable {w0 : World}
theorem spec112 (s : ByteArray) (H : AH) (Q : AV → AH → Prop) (h : Q (.bool (wordOk s)) H) : ACalls Tryz.prog w0 112 [.str s] H Q := by
  refine enter112 (by simp) fun hwf hok R hR hR0 => ?_
  have hlen := (hok (.str s) (by simp)).str
  unfold x112
  simp only [go_sem]
  refine AX.bytes ttOk s (by omega) (fun p => [(0, .str s), (3, .int .i64 p.length)]) (fun p q => (bts s).all isVis = q.all isVis) (by simp only [go_sem]) rfl (fun hi hwf K R' hQ hb => ?_) fun pre c ks h2 hi hwf K R' hK hQ hb ha hl hw => ?_
  · unfold l112_0
    simp only [go_sem, hb]
    refine hQ _ _ _ ?_
    simp only [go_sem]
    by_cases h1 : 1 ≤ s.size
    · by_cases h2 : s.size ≤ 24
      · simp only [go_sem, show decide ((1 : Int) ≤ (s.size : Int)) = true by simp; omega]
        exact ret1 hR h (by simp [go_sem, wordOk, hi, h1, h2]; omega) (.refl hwf) rfl
      · simp only [go_sem, show decide ((1 : Int) ≤ (s.size : Int)) = true by simp; omega]
        exact ret1 hR h (by simp [go_sem, wordOk, hi, h1, h2]; omega) (.refl hwf) rfl
    · simp only [go_sem, show decide ((1 : Int) ≤ (s.size : Int)) = false by simp; omega]
      exact ret1 hR h (by simp [go_sem, wordOk, h1]) (.refl hwf) rfl
  · unfold l112_0
    have stop : ∀ env', isVis c = false → look 2 env' = .bool false → R' .ret env' H := fun env' h5 h6 => by
      refine hQ _ _ _ ?_
      simp only [go_sem]
      exact ret1 hR h (by rw [h6, wordOk, hi]; simp [h5]) (.refl hwf) rfl
    by_cases hc : c < 33
    · simp only [go_sem, hb, ha, show decide (c < 33) = true by simpa using hc]
      exact ⟨⟨by omega, by omega⟩, stop _ (by simp [isVis]; omega) (by simp only [go_sem])⟩
    by_cases hd : 126 < c
    · simp only [go_sem, hb, ha, show decide (c < 33) = false by simpa using hc, show decide (126 < c) = true by simpa using hd]
      repeat refine ⟨⟨by omega, by omega⟩, ?_⟩
      exact stop _ (by simp [isVis]; omega) (by simp only [go_sem])
    simp only [go_sem, hb, ha, hw, show decide (c < 33) = false by simpa using hc, show decide (126 < c) = false by simpa using hd]
    repeat refine ⟨⟨by omega, by omega⟩, ?_⟩
    exact hK _ _ (by rw [hi, List.all_cons, show isVis c = true by simp [isVis]; omega]; rfl) (.refl hwf) (by simp only [go_sem, len_snoc])
theorem spec107 (l : List Wd) (hl0 : l.length ≤ 1000000) (H : AH) (Q : AV → AH → Prop) (h : Q (.bool (row11 l)) H) : ACalls Tryz.prog w0 107 [.slice (l.map eW)] H Q := by
  refine enter107 (by simp) fun hwf hok R hR hR0 => ?_
  unfold x107
  simp only [go_sem]
  refine AX.each0 ttOk eW l (by omega) (fun p => [(0, .slice (l.map eW)), (3, .int .i64 p.length)]) (fun p q => l.all (fun w => wordOk w.text) = q.all fun w => wordOk w.text) (by simp only [go_sem]) rfl (fun hi hwf K R' hQ hb => ?_) fun pre c ks h2 hi hwf K R' hK hQ hb ha hl hw => ?_
  · unfold l107_0
    simp only [go_sem, hb]
    refine hQ _ _ _ ?_
    simp only [go_sem]
    exact ret1 hR h (by simp [go_sem, row11, hi]; omega) (.refl hwf) rfl
  · unfold l107_0
    simp only [go_sem, hb, ha]
    refine ⟨by omega, spec112 _ _ _ ?_⟩
    cases hc : wordOk c.text with
    | true =>
      simp only [go_sem, hw, Bool.not_true]
      exact hK _ _ (by simp [hi, hc]) (.refl hwf) (by simp only [go_sem, len_snoc])
    | false =>
      simp only [go_sem, Bool.not_false]
      refine hQ _ _ _ ?_
      simp only [go_sem]
      exact ret1 hR h (by simp [go_sem, row11, hi, hc]) (.refl hwf) rfl
end Go.Ai.Tryz

set_option linter.unusedVariables false
set_option linter.unusedSimpArgs false
set_option maxRecDepth 20000
set_option maxHeartbeats 1000000
namespace Go.Ai
open Go Go.Ai.Tryz
mutual
def shapeM (d : Int) : U → Bool
  | ⟨a, kind, c, e, f, kids⟩ => !(decide (8 < d) || decide (0 < d) && decide (kind = 0) || !alone11 ⟨a, kind, c, e, f, kids⟩ || decide (64 < kids.length)) && shapeL d kind [] kids
def shapeL (d kind : Int) (pre : List U) : List U → Bool
  | [] => true
  | k :: ks => nestsM kind k.kind && shapeM (d + 1) k && !(pre.any fun x => sameName x k) && shapeL d kind (pre ++ [k]) ks
end
theorem shapeM_eq (d : Int) (u : U) : shapeM d u = (!(decide (8 < d) || decide (0 < d) && decide (u.kind = 0) || !alone11 u || decide (64 < u.kids.length)) && shapeL d u.kind [] u.kids) := by cases u; simp only [shapeM]
def Shape (u : U) : Bool := shapeM 0 u && decide ((every u).length ≤ 1024)
end Go.Ai
namespace Go.Ai.Tryz
open Go Go.Ai Go.Proofs
variable {w0 : World}
theorem spec96 (u : U) (hs : u.head.length ≤ 1000000 ∧ u.words.length ≤ 1000000) (H : AH) (Q : AV → AH → Prop) (h : Q (.bool (alone11 u)) H) : ACalls Tryz.prog w0 96 [eU u] H Q := by
  refine enter96 (by simp) fun hwf hok R hR hR0 => ?_
  unfold x96
  have fin : ∀ b env' H', look 2 env' = .bool b → alone11 u = b → H.Sub H' → R .ret env' H' := fun b env' H' h1 h2 h3 => ret1 hR h (by rw [h1, h2]) h3 rfl
  by_cases k0 : u.kind = 0
  · have e : alone11 u = (decide (u.label = ⟨#[]⟩) && decide (u.head.length = 0) && decide (u.words.length = 0)) := by simp [alone11, k0]
    cases c1 : decide (u.label = ⟨#[]⟩) with
    | false => simp only [go_sem, U.cs, k0, c1]; exact fin false _ _ (by simp only [go_sem]) (by rw [e, c1]; rfl) (by simp only [go_sem, hwf])
    | true =>
      cases c2 : decide (((u.head.map eW).length : Int) = 0) with
      | false => simp only [go_sem, U.cs, k0, c1, c2]; exact fin false _ _ (by simp only [go_sem]) (by rw [e]; simp at c2; simp [c2]) (by simp only [go_sem, hwf])
      | true => simp only [go_sem, U.cs, k0, c1, c2]; exact fin _ _ _ (by simp only [go_sem]; rfl) (by rw [e]; simp at c1 c2; simp [c1, c2]) (by simp only [go_sem, hwf])
  · have e : alone11 u = (decide (0 < u.kind) && decide (u.kind ≤ 7) && labelOk u.label && row11 u.head && row11 u.words) := by simp [alone11, k0]
    cases c1 : decide (0 < u.kind) with
    | false => simp only [go_sem, U.cs, k0, c1]; exact fin false _ _ (by simp only [go_sem]) (by rw [e, c1]; rfl) (by simp only [go_sem, hwf])
    | true =>
      cases c2 : decide (u.kind ≤ 7) with
      | false => simp only [go_sem, U.cs, k0, c1, c2]; exact fin false _ _ (by simp only [go_sem]) (by rw [e, c1, c2]; rfl) (by simp only [go_sem, hwf])
      | true =>
        simp only [go_sem, U.cs, k0, c1, c2]
        refine spec25 _ _ _ ?_
        cases c3 : labelOk u.label with
        | false => simp only [go_sem]; exact fin false _ _ (by simp only [go_sem]) (by rw [e, c1, c2, c3]; rfl) (by simp only [go_sem, hwf])
        | true =>
          simp only [go_sem]
          refine spec107 _ hs.1 _ _ ?_
          cases c4 : row11 u.head with
          | false => simp only [go_sem]; exact fin false _ _ (by simp only [go_sem]) (by rw [e, c1, c2, c3, c4]; rfl) (by simp only [go_sem, hwf])
          | true =>
            simp only [go_sem]
            refine spec107 _ hs.2 _ _ ?_
            simp only [go_sem]
            exact fin _ _ _ (by simp only [go_sem]; rfl) (by rw [e, c1, c2, c3, c4]; simp) (by simp only [go_sem, hwf])
theorem spec75 (u : U) (d : Int) (hd : 0 ≤ d ∧ d ≤ 1000) (hb : (every u).length ≤ 1000) (hs : small (every u)) (H : AH) (Q : AV → AH → Prop) (h : Q (.bool (shapeM d u)) H) : ACalls Tryz.prog w0 75 [eU u, .int .i64 d] H Q := by
  refine enter75 (by simp) fun hwf hok R hR hR0 => ?_
  have hsu := hs u (by rw [every_eq]; exact List.mem_cons_self ..)
  have hkl := len_everyL u.kids
  have hb0 := hb
  rw [every_eq] at hb hs
  simp only [List.length_cons] at hb
  have fin : ∀ b env' H', look 4 env' = .bool b → shapeM d u = b → H.Sub H' → R .ret env' H' := fun b env' H' h1 h2 h3 => ret1 hR h (by rw [h1, h2]) h3 rfl
  unfold x75
  have hbad : ∀ b, (decide (8 < d) || decide (0 < d) && decide (u.kind = 0) || !alone11 u || decide (64 < u.kids.length)) = b → shapeM d u = (!b && shapeL d u.kind [] u.kids) := fun b e => by rw [shapeM_eq, e]
  cases c0 : decide (8 < d) with
  | true =>
    simp only [go_sem, c0]
    exact fin false _ _ (by simp only [go_sem]) (by rw [hbad true (by rw [c0]; rfl)]; rfl) (by simp only [go_sem, hwf])
  | false =>
  cases c1 : decide (0 < d) <;> cases c2 : decide (u.kind = 0)
  case true.true =>
    simp only [go_sem, U.cs, c0, c1, c2]
    exact fin false _ _ (by simp only [go_sem]) (by rw [hbad true (by rw [c0, c1, c2]; rfl)]; rfl) (by simp only [go_sem, hwf])
  all_goals
    simp only [go_sem, U.cs, c0, c1, c2]
    refine spec96 u hsu _ _ ?_
    cases c3 : alone11 u with
    | false =>
      simp only [go_sem, Bool.not_false]
      exact fin false _ _ (by simp only [go_sem]) (by rw [hbad true (by rw [c0, c1, c2, c3]; rfl)]; rfl) (by simp only [go_sem, hwf])
    | true =>
    cases c4 : decide ((64 : Int) < ((u.kids.map eU).length : Int)) with
    | true =>
      simp only [go_sem, Bool.not_true, c4]
      exact fin false _ _ (by simp only [go_sem]) (by rw [hbad true (by rw [c0, c1, c2, c3]; simp at c4; simp; omega)]; rfl) (by simp only [go_sem, hwf])
    | false =>
    have hr : shapeM d u = shapeL d u.kind [] u.kids := by rw [hbad false (by rw [c0, c1, c2, c3]; simp at c4; simp; omega)]; rfl
    simp only [go_sem, Bool.not_true, c4]
    refine AX.each ttOk eU u.kids (by omega) (fun p => [(1, .int .i64 d), (2, .ptr H.n 0), (5, .int .i64 p.length)]) (fun _ => H.push (.cells u.cs 27)) (fun p q => shapeL d u.kind p q = shapeM d u) (by simp only [go_sem]) (by simp only [U.cs]) hr.symm
      (fun hi hwf' K R' hQ hb => ?_) fun pre k ks h2 hi hwf' K R' hK hQ hb' ha hl hw => ?_
    · unfold l75_1
      simp only [go_sem, U.cs, hb]
      refine hQ _ _ _ ?_
      simp only [go_sem]
      exact fin true _ _ (by simp only [go_sem]) (by rw [← hi]; rfl) (by simp only [go_sem, hwf])
    · have hbk : (every k).length ≤ 1000 := by have := kid_le (mem_of h2); omega
      have hsum : everyL u.kids = everyL pre ++ (every k ++ everyL ks) := by rw [← h2, everyL_append]; rfl
      have hsk : small (every k) := fun x hx => hs x (List.mem_cons_of_mem _ (by rw [hsum]; simp [hx]))
      have hwd : IntKind.i64.wrap (d + 1) = d + 1 := wrap_i64.2 (by omega)
      have hd8 : d ≤ 8 := by simpa using c0
      have stop : ∀ env' H', look 4 env' = .bool false → H.Sub H' → shapeL d u.kind pre (k :: ks) = false → R' .ret env' H' := fun env' H' h5 h6 h7 => by
        refine hQ _ _ _ ?_
        simp only [go_sem]
        exact fin false _ _ h5 (by rw [← hi, h7]) h6
      unfold l75_1
      simp only [go_sem, U.cs, hb', ha]
      refine ⟨by omega, spec59 _ _ _ _ ?_⟩
      cases hn : nestsM u.kind k.kind with
      | false =>
        simp only [go_sem, Bool.not_false]
        exact stop _ _ (by simp only [go_sem]) (.push (.push (.refl hwf) _) _) (by simp only [shapeL, hn]; rfl)
      | true =>
      simp only [go_sem, Bool.not_true, hwd]
      refine spec75 k (d + 1) (by omega) hbk hsk _ _ ?_
      cases hrk : shapeM (d + 1) k with
      | false =>
        simp only [go_sem, Bool.not_false]
        exact stop _ _ (by simp only [go_sem]) (.push (.push (.refl hwf) _) _) (by simp only [shapeL, hrk]; simp)
      | true =>
      have hstep : shapeL d u.kind pre (k :: ks) = (!(pre.any fun x => sameName x k) && shapeL d u.kind (pre ++ [k]) ks) := by simp only [shapeL, hn, hrk]; rfl
      simp only [go_sem, Bool.not_true]
      refine AX.each ttOk eU pre (by omega) (fun p => [(1, .int .i64 d), (2, .ptr H.n 0), (5, .int .i64 pre.length), (6, .ptr (H.n + 1) 0), (7, .int .i64 p.length)]) (fun _ => (H.push (.cells u.cs 27)).push (.cells k.cs 27)) (fun p q => (pre.any fun x => sameName x k) = q.any fun x => sameName x k)
        (by simp only [go_sem]) (by simp only [U.cs]) rfl (fun hi2 hwf2 K2 R2 hQ2 hb2 => ?_) fun p1 y p2 g2 hi2 hwf2 K2 R2 hK2 hQ2 hb2 ha2 hl2 hw2 => ?_
      · unfold l75_0
        simp only [go_sem, U.cs, Int.lt_irrefl]
        refine hQ2 _ _ _ ?_
        simp only [go_sem, hw]
        exact hK _ _ (by rw [← hi, hstep, hi2]; rfl) (.push (.refl hwf') _) (by simp only [go_sem, len_snoc]; simp) (Nat.le_refl _) (Nat.le_refl _)
      · have e1 : decide ((p1.length : Int) < (pre.length : Int)) = true := by simpa using hl2
        have hkids : p1 ++ y :: (p2 ++ k :: ks) = u.kids := by rw [← h2, ← g2]; simp
        have ha3 := at_of hkids eU
        have hsn : ((y :: p2).any fun x => sameName x k) = (sameName y k || p2.any fun x => sameName x k) := rfl
        unfold l75_0
        simp only [go_sem, e1, dr75_0, U.cs, ha, ha3]
        have go : ∀ env', look 1 env' = .int .i64 d → look 2 env' = .ptr H.n 0 → look 5 env' = .int .i64 pre.length → look 6 env' = .ptr (H.n + 1) 0 → look 7 env' = .int .i64 (p1.length + 1) → sameName y k = false → K2 env' ((H.push (.cells u.cs 27)).push (.cells k.cs 27)) := fun env' q0 q1 q2 q3 q4 q5 => by
          refine hK2 _ _ (by rw [hi2, hsn, q5]; rfl) (.refl hwf2) ?_ (Nat.le_refl _) (Nat.le_refl _)
          simp only [go_sem, q0, q1, q2, q3, q4, len_snoc]
          simp <;> omega
        simp only [U.cs] at go
        cases d1 : decide (y.kind = k.kind) with
        | false =>
          simp only [go_sem, d1, hw2]
          exact ⟨by omega, go _ (by simp only [go_sem]) (by simp only [go_sem]) (by simp only [go_sem]) (by simp only [go_sem]) (by simp only [go_sem]) (by rw [sameName, d1]; rfl)⟩
        | true =>
        cases d2 : decide (y.label = k.label) with
        | false =>
          simp only [go_sem, d1, d2, hw2, ha3]
          exact ⟨by omega, by omega, go _ (by simp only [go_sem]) (by simp only [go_sem]) (by simp only [go_sem]) (by simp only [go_sem]) (by simp only [go_sem]) (by rw [sameName, d1, d2]; rfl)⟩
        | true =>
          simp only [go_sem, d1, d2, ha3]
          refine ⟨by omega, by omega, hQ2 _ _ _ ?_⟩
          simp only [go_sem]
          exact stop _ _ (by simp only [go_sem]) (.push (.push (.refl hwf) _) _) (by rw [hstep, hi2, hsn, sameName, d1, d2]; rfl)
termination_by SizeOf.sizeOf u
decreasing_by all_goals exact kid_lt (mem_of h2)
theorem spec52 (u : U) (hb : (every u).length ≤ 1000) (hs : small (every u)) (H : AH) (Q : AV → AH → Prop) (h : Q (.bool (Shape u)) H) : ACalls Tryz.prog w0 52 [eU u] H Q := by
  refine enter52 (by simp) fun hwf hok R hR hR0 => ?_
  unfold x52
  simp only [go_sem, U.cs]
  refine spec75 u 0 (by omega) hb hs _ _ ?_
  cases c : shapeM 0 u with
  | false => simp only [go_sem]; exact ret1 hR h (by simp [go_sem, Shape, c]) (by simp only [go_sem, hwf]) rfl
  | true =>
    simp only [go_sem, U.cs]
    refine spec61 u hb _ _ ?_
    simp only [go_sem]
    exact ret1 hR h (by simp [go_sem, Shape, c]; omega) (by simp only [go_sem, hwf]) rfl
end Go.Ai.Tryz
