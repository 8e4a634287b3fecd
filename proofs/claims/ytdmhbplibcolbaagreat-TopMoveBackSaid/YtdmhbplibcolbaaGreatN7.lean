/- A part of the proof: no statement of the seat is proved in this text. -/
import Derived.Test.YtdmhbplibcolbaaGreatN3
set_option linter.unusedVariables false
set_option linter.unusedSimpArgs false
set_option maxRecDepth 20000
set_option maxHeartbeats 1000000
namespace Go.Ai
open Go Go.Ai.Tryz
def isNm (c : Int) : Bool := decide (97 ≤ c) && decide (c ≤ 122) || decide (48 ≤ c) && decide (c ≤ 57) || decide (c = 45)
def nameOk (s : ByteArray) : Bool := !decide ((s.size : Int) < 1) && !decide (16 < (s.size : Int)) && !decide (byteAt s 0 < 97) && !decide (122 < byteAt s 0) && (bts s).all isNm
def row17 (l : List ByteArray) (n : Int) : Bool := textsOk l && decide (n ≤ (l.length : Int))
def startOk (k d : Int) (e : ByteArray) : Bool := if k = 1 then decide (0 ≤ d) && decide (d ≤ 1048576) && decide (e = ⟨#[]⟩) else if k = 3 then decide (d = 0) && nameOk e else if k = 0 ∨ k = 2 then decide (d = 0) && decide (e = ⟨#[]⟩) else false
def mayM (u : U) : Bool := rightM u && decide ((depthM u : Int) ≤ 8) && decide (((every u).length : Int) ≤ 1024) && idsOkM u
def bareM (u : U) : Bool := mayM u && sameU u (stripM u)
end Go.Ai
namespace Go.Ai.Tryz
open Go Go.Ai Go.Proofs
variable {w0 : World}
theorem spec20E (s : ByteArray) (H : AH) (Q : AV → AH → Prop) (h : Q (.bool (nameOk s)) H) : ACalls Tryz.prog w0 20 [.str s] H Q := by
  refine enter20 (by simp) fun hwf hok R hR hR0 => ?_
  have hlen := (hok (.str s) (by simp)).str
  unfold x20
  simp only [go_sem]
  repeat' first | refine And.intro ?_ ?_ | refine fun (_ : _ = _) => ?_
  all_goals (try simp only [decide_eq_true_eq, decide_eq_false_iff_not] at *)
  all_goals first
    | omega
    | exact ret1 hR h (by simp [go_sem, nameOk, *]) (.refl hwf) rfl
    | skip
  refine AX.bytes ttOk s (by omega) (fun p => [(0, .str s), (3, .int .i64 p.length)]) (fun p q => (bts s).all isNm = q.all isNm) (by simp only [go_sem]) rfl (fun hi hwf K R' hQ hb => ?_) fun pre c ks h2 hi hwf K R' hK hQ hb ha hl hw => ?_
  · unfold l20_0
    simp only [go_sem, hb]
    refine hQ _ _ _ ?_
    simp only [go_sem]
    exact ret1 hR h (by simp [go_sem, nameOk, *]) (.refl hwf) rfl
  · unfold l20_0
    simp only [go_sem, hb, ha, hw]
    repeat' first | refine And.intro ?_ ?_ | refine fun (_ : _ = _) => ?_
    all_goals (try simp only [decide_eq_true_eq, decide_eq_false_iff_not, Bool.not_eq_true', Bool.not_eq_false'] at *)
    all_goals first
      | omega
      | exact hK _ _ (by rw [hi, List.all_cons]; simp [isNm, *]) (.refl hwf) (by simp only [go_sem, len_snoc])
      | (refine hQ _ _ _ ?_; simp only [go_sem]; exact ret1 hR h (by simp [go_sem, nameOk, isNm, *]) (.refl hwf) rfl)
theorem spec24E (l : List ByteArray) (n : Int) (H : AH) (Q : AV → AH → Prop) (h : Q (.bool (row17 l n)) H) : ACalls Tryz.prog w0 24 [.slice (l.map AV.str), .int .i64 n] H Q := by
  refine enter24 (by simp) fun hwf hok R hR hR0 => ?_
  unfold x24
  simp only [go_sem]
  refine spec55 l _ _ ?_
  cases c : textsOk l <;> simp only [go_sem] <;> exact ret1 hR h (by simp [go_sem, row17, c]) (.refl hwf) rfl
theorem spec21E (k d : Int) (e : ByteArray) (H : AH) (Q : AV → AH → Prop) (h : Q (.bool (startOk k d e)) H) : ACalls Tryz.prog w0 21 [.agg [.int .i64 k, .int .i64 d, .str e]] H Q := by
  refine enter21 (by simp) fun hwf hok R hR hR0 => ?_
  have fin : ∀ b env' H', look 2 env' = .bool b → startOk k d e = b → H.Sub H' → R .ret env' H' := fun b env' H' h1 h2 h3 => ret1 hR h (by rw [h1, h2]) h3 rfl
  unfold x21
  simp only [go_sem]
  repeat' first | refine And.intro ?_ ?_ | refine fun (_ : _ = _) => ?_ | (refine spec16 _ _ _ _ _ ?_; simp only [go_sem]) | (refine spec20E _ _ _ ?_; simp only [go_sem])
  all_goals (try simp only [decide_eq_true_eq, decide_eq_false_iff_not, Bool.and_eq_true, Bool.and_eq_false_iff, Bool.or_eq_true] at *)
  all_goals first
    | omega
    | exact fin _ _ _ (by simp only [go_sem]; rfl) (by simp [startOk, *] <;> omega) (by simp only [go_sem, hwf])
theorem spec47E (u : U) (hb : (every u).length ≤ 1000) (H : AH) (Q : AV → AH → Prop) (h : Q (.int .i64 (every u).length) H) : ACalls Tryz.prog w0 47 [eU u] H Q := by
  refine enter47 (by simp) fun hwf hok R hR hR0 => ?_
  have hkl := len_everyL u.kids
  have hb0 := hb
  rw [every_eq, List.length_cons] at hb h
  unfold x47
  simp only [go_sem]
  refine AX.each ttOk eU u.kids (by omega) (fun p => [(1, .ptr H.n 0), (3, .int .i64 ((everyL p).length + 1 : Nat)), (4, .int .i64 p.length)]) (fun p => H.push (.cells u.cs 27)) (fun p q => True) (by simp only [go_sem, everyL]) (by simp only [U.cs]) trivial
      (fun hi hwf' K R' hQ hb => ?_) fun pre k ks h2 hi hwf' K R' hK hQ hb' ha hl hw => ?_
  · unfold l47_0
    simp only [go_sem, U.cs, hb]
    refine hQ _ _ _ ?_
    simp only [go_sem]
    exact ret1 hR h (by simp only [go_sem]) (by simp only [go_sem, hwf]) rfl
  · have hbk : (every k).length ≤ 1000 := by have := kid_le (mem_of h2); omega
    have hlen : (everyL u.kids).length = (everyL pre).length + ((every k).length + (everyL ks).length) := by rw [← h2, everyL_append]; simp [everyL]
    have hw2 : IntKind.i64.wrap (((everyL pre).length + 1 : Nat) + ((every k).length : Int)) = ((everyL (pre ++ [k])).length + 1 : Nat) := by rw [everyL_snoc, wrap_i64.2 (by omega)]; simp; omega
    unfold l47_0
    simp only [go_sem, U.cs, hb', ha, hw]
    refine ⟨by omega, spec47E k hbk _ _ ?_⟩
    simp only [go_sem, hw, hw2]
    exact hK _ _ trivial (.refl hwf') (by simp only [go_sem, len_snoc]; simp) (Nat.le_refl _) (Nat.le_refl _)
termination_by SizeOf.sizeOf u
decreasing_by all_goals exact kid_lt (mem_of h2)
theorem spec15E (u : U) (hb : (every u).length ≤ 1000) (hs : small (every u)) (H : AH) (Q : AV → AH → Prop) (h : Q (.bool (mayM u)) H) : ACalls Tryz.prog w0 15 [eU u] H Q := by
  refine enter15 (by simp) fun hwf hok R hR hR0 => ?_
  unfold x15
  simp only [go_sem]
  refine spec45 u hb hs _ _ ?_
  cases c1 : rightM u with
  | false => simp only [go_sem]; exact ret1 hR h (by simp [go_sem, mayM, c1]) (by simp only [go_sem, hwf]) rfl
  | true =>
  simp only [go_sem]
  refine spec46d u hb _ _ ?_
  cases c2 : decide ((depthM u : Int) ≤ 8) with
  | false => simp only [go_sem, c2]; exact ret1 hR h (by simp only [go_sem, mayM, c1, c2]; rfl) (by simp only [go_sem, hwf]) rfl
  | true =>
  simp only [go_sem, c2]
  refine spec47E u hb _ _ ?_
  cases c3 : decide (((every u).length : Int) ≤ 1024) with
  | false => simp only [go_sem, c3]; exact ret1 hR h (by simp only [go_sem, mayM, c1, c2, c3]; rfl) (by simp only [go_sem, hwf]) rfl
  | true =>
  simp only [go_sem, c3]
  refine spec48 u hb _ _ ?_
  simp only [go_sem]
  exact ret1 hR h (by simp [go_sem, mayM, c1, c2, c3]) (by simp only [go_sem, hwf]) rfl
theorem spec23 (u : U) (hb : (every u).length ≤ 1000) (hs : small (every u)) (H : AH) (Q : AV → AH → Prop) (h : Q (.bool (bareM u)) H) : ACalls Tryz.prog w0 23 [eU u] H Q := by
  refine enter23 (by simp) fun hwf hok R hR hR0 => ?_
  unfold x23
  simp only [go_sem, U.cs, dr23_0]
  refine PCalls.of (r := .bool (mayM u)) (fun H' => spec15E u hb hs _ _ ⟨rfl, rfl⟩) ?_
  cases c1 : mayM u with
  | false => simp only [go_sem]; exact ret1 hR h (by simp only [go_sem, bareM, c1]; rfl) (by simp only [go_sem, hwf]) rfl
  | true =>
  simp only [go_sem]
  refine PCalls.of (r := eU (stripM u)) (fun H' => spec54 u hb hs _ _ ⟨rfl, rfl⟩) ?_
  simp only [go_sem]
  refine PCalls.of (r := .bool (sameU u (stripM u))) (fun H' => spec13 u _ hb hs _ _ ⟨rfl, rfl⟩) ?_
  simp only [go_sem]
  exact ret1 hR h (by simp [go_sem, bareM, c1]) (by simp only [go_sem, hwf]) rfl
end Go.Ai.Tryz

set_option linter.unusedVariables false
set_option linter.unusedSimpArgs false
set_option maxRecDepth 20000
set_option maxHeartbeats 1000000
namespace Go.Ai
open Go Go.Ai.Tryz
def inM (n lo hi : Int) : Bool := decide (lo ≤ n) && decide (n ≤ hi)
def mayB (x : It) (b : Bool) : Bool :=
  inM x.kind 0 11 && sameIt x (toldM x) && (!decide (x.kind ≤ 6) || addrOk' x.at' && (decide (x.fr = ⟨#[]⟩) || nameOk x.fr) && startOk x.skind x.sday x.sevent) &&
  if x.kind = 0 then inM x.wh 0 3 && bareM x.unit && !decide (x.unit.kind = 0) && decide ((textM x.unit).2 = 0)
  else if x.kind = 2 then row17 x.old 1 && row17 x.new 0 && inM x.nth 0 256
  else if x.kind = 3 then row17 x.old 0 && row17 x.new 1 && inM x.nth 0 256 && (decide (0 < (x.old.length : Int)) || decide (x.nth = 0))
  else if x.kind = 4 then row17 x.new 0
  else if x.kind = 5 then labelOk x.label
  else if x.kind = 6 then inM x.wh 0 3 && addrOk' x.to
  else if x.kind = 7 ∨ x.kind = 8 ∨ x.kind = 9 then inM x.act 1 1048576 && inM x.item (-1) 31 && inM x.day 0 1048576
  else if x.kind = 10 then nameOk x.event && inM x.day 0 1048576
  else if x.kind = 11 then inM x.act 1 1048576 && inM x.item 0 31 && b else true
mutual
def mayIt : It → Bool
  | ⟨k, a, t, wh, n, u, o, nw, lb, fr, sk, sd, se, ac, it, d, ev, bs⟩ => mayB ⟨k, a, t, wh, n, u, o, nw, lb, fr, sk, sd, se, ac, it, d, ev, bs⟩ (mayIts bs)
def mayIts : List It → Bool
  | [] => false
  | y :: ys => ys.isEmpty && inM y.kind 0 6 && mayIt y
end
theorem mayIt_eq (x : It) : mayIt x = mayB x (mayIts x.by') := by cases x; simp only [mayIt]
end Go.Ai
namespace Go.Ai.Tryz
open Go Go.Ai Go.Proofs
variable {w0 : World}
theorem spec6 (x : It) (hf : fewIt x) (H : AH) (Q : AV → AH → Prop) (h : Q (.bool (mayIt x)) H) : ACalls Tryz.prog w0 6 [eIt x] H Q := by
  refine enter6 (by simp) fun hwf hok R hR hR0 => ?_
  have hF := hf
  rw [fewIt_eq] at hF
  obtain ⟨hH, hB⟩ := hF
  rw [mayIt_eq] at h
  have fin : ∀ b env' H', look 2 env' = .bool b → mayB x (mayIts x.by') = b → H.Sub H' → R .ret env' H' := fun b env' H' h1 h2 h3 => ret1 hR h (by rw [h1, h2]) h3 rfl
  unfold x6
  simp only [go_sem, dr6_0, It.cs]
  refine PCalls.of (r := .bool (inM x.kind 0 11)) (fun H' => spec16 _ _ _ _ _ ⟨rfl, rfl⟩) ?_
  cases c0 : inM x.kind 0 11 with
  | false => simp only [go_sem, Bool.not_false]; exact fin false _ _ (by simp only [go_sem]) (by simp [mayB, c0]) (by simp only [go_sem, hwf])
  | true =>
  simp only [go_sem, Bool.not_true]
  refine PCalls.of (r := eIt (toldM x)) (fun H' => spec18 x _ _ ⟨rfl, rfl⟩) ?_
  simp only [go_sem]
  refine PCalls.of (r := .bool (sameIt x (toldM x))) (fun H' => spec17 x _ hf _ _ ⟨rfl, rfl⟩) ?_
  cases c1 : sameIt x (toldM x) with
  | false => simp only [go_sem, Bool.not_false]; exact fin false _ _ (by simp only [go_sem]) (by simp [mayB, c1]) (by simp only [go_sem, hwf])
  | true =>
  have c0' := c0
  simp only [inM, Bool.and_eq_true, decide_eq_true_eq] at c0'
  have hm : ∀ b, mayB x b = ((!decide (x.kind ≤ 6) || addrOk' x.at' && (decide (x.fr = ⟨#[]⟩) || nameOk x.fr) && startOk x.skind x.sday x.sevent) && _) := fun b => by simp only [mayB, c0, c1, Bool.true_and]; rfl
  rw [hm] at fin
  clear h hm
  have hu : (every x.unit).length ≤ 1000 := by have := hH.unit; omega
  rcases (show x.kind = 0 ∨ x.kind = 1 ∨ x.kind = 2 ∨ x.kind = 3 ∨ x.kind = 4 ∨ x.kind = 5 ∨ x.kind = 6 ∨ x.kind = 7 ∨ x.kind = 8 ∨ x.kind = 9 ∨ x.kind = 10 ∨ x.kind = 11 by omega) with hk | hk | hk | hk | hk | hk | hk | hk | hk | hk | hk | hk
  case inr.inr.inr.inr.inr.inr.inr.inr.inr.inr.inr =>
    rcases hby : x.by' with _ | ⟨y, _ | ⟨z, zs⟩⟩
    all_goals
      simp only [go_sem, Bool.not_true, It.cs, hk, hby]
      repeat' first
        | refine And.intro ?_ ?_
        | refine fun (_ : _ = _) => ?_
        | (refine spec16 _ _ _ _ _ ?_; rw [← inM]; simp only [go_sem])
        | (refine spec6 y (fewIts_mem hB y (by rw [hby]; simp)) _ _ ?_; simp only [go_sem])
      all_goals (try simp only [decide_eq_true_eq, decide_eq_false_iff_not, Bool.not_eq_true', Bool.not_eq_false', List.length_cons, List.length_nil] at *)
      all_goals first
        | omega
        | exact fin _ _ _ (by simp only [go_sem]; rfl) (by simp [hby, mayIts, *]) (by simp only [go_sem, hwf])
  all_goals
    simp only [go_sem, Bool.not_true, It.cs, hk]
    repeat' first
      | refine And.intro ?_ ?_
      | refine fun (_ : _ = _) => ?_
      | (refine spec16 _ _ _ _ _ ?_; rw [← inM]; simp only [go_sem])
      | (refine spec19 _ _ _ ?_; simp only [go_sem])
      | (refine spec20E _ _ _ ?_; simp only [go_sem])
      | (refine spec21E _ _ _ _ _ ?_; simp only [go_sem])
      | (refine spec22 _ hu hH.small _ _ ?_; simp only [go_sem])
      | (refine spec23 _ hu hH.small _ _ ?_; simp only [go_sem])
      | (refine spec24E _ _ _ _ ?_; simp only [go_sem])
      | (refine spec25 _ _ _ ?_; simp only [go_sem])
    all_goals (try simp only [decide_eq_true_eq, decide_eq_false_iff_not, Bool.not_eq_true', Bool.not_eq_false', List.length_map, Int.natCast_pos] at *)
    all_goals first
      | exact fin _ _ _ (by simp only [go_sem]; rfl) (by simp [*]) (by simp only [go_sem, hwf])
termination_by SizeOf.sizeOf x
decreasing_by all_goals exact by_lt (by rw [hby]; simp)
end Go.Ai.Tryz

set_option linter.unusedVariables false
set_option linter.unusedSimpArgs false
set_option maxRecDepth 20000
set_option maxHeartbeats 1000000
namespace Go.Ai
open Go Go.Ai.Tryz
inductive Path : U → List Step → U → Prop
  | nil (u : U) : Path u [] u
  | cons {u k y : U} {l : List Step} : k ∈ u.kids → Path k l y → Path u (stp k :: l) y
def Distinct (u : U) : Prop := (idsOf (every u)).Nodup
theorem everyL_mem {l : List U} {y : U} : y ∈ everyL l ↔ ∃ k ∈ l, y ∈ every k := by
  induction l with
  | nil => simp [everyL]
  | cons k ks ih => simp [everyL, ih]
theorem self_mem (u : U) : u ∈ every u := by rw [every_eq]; exact List.mem_cons_self ..
theorem kid_mem {u k : U} (h : k ∈ u.kids) : k ∈ everyL u.kids := everyL_mem.2 ⟨k, h, self_mem k⟩
theorem below_mem {u y : U} (h : y ∈ everyL u.kids) : y ∈ every u := by rw [every_eq]; exact List.mem_cons_of_mem _ h
theorem Path.mem {u y : U} {l : List Step} (h : Path u l y) : y ∈ every u := by
  induction h with
  | nil u => exact self_mem u
  | cons hk _ ih => exact below_mem (everyL_mem.2 ⟨_, hk, ih⟩)
theorem Path.mem_kids {u k y : U} {l : List Step} (hk : k ∈ u.kids) (h : Path k l y) : y ∈ everyL u.kids := everyL_mem.2 ⟨k, hk, h.mem⟩
theorem Path.trans {u y z : U} {l m : List Step} (h : Path u l y) (k : Path y m z) : Path u (l ++ m) z := by
  induction h with
  | nil u => exact k
  | cons hk _ ih => exact .cons hk (ih k)
theorem Path.kid {u y k : U} {l : List Step} (h : Path u l y) (hk : k ∈ y.kids) : Path u (l ++ [stp k]) k := h.trans (.cons hk (.nil k))
theorem path_of (u : U) : ∀ y ∈ every u, ∃ l, Path u l y := by
  intro y hy
  rw [every_eq, List.mem_cons] at hy
  rcases hy with rfl | hy
  · exact ⟨[], .nil _⟩
  · obtain ⟨k, hk, hy⟩ := everyL_mem.1 hy
    obtain ⟨l, hl⟩ := path_of k y hy
    exact ⟨_, .cons hk hl⟩
termination_by SizeOf.sizeOf u
decreasing_by exact kid_lt hk
theorem Path.sub {u y : U} {l : List Step} (h : Path u l y) : ∀ x ∈ every y, x ∈ every u := every_sub h.mem
theorem Distinct.kids {u : U} (h : Distinct u) : (idsOf (everyL u.kids)).Nodup ∧ u.id ∉ idsOf (everyL u.kids) := by
  unfold Distinct at h
  rw [every_eq, show idsOf (u :: everyL u.kids) = u.id :: idsOf (everyL u.kids) from rfl, List.nodup_cons] at h
  exact ⟨h.2, h.1⟩
theorem everyL_split {pre post : List U} {k : U} : everyL (pre ++ k :: post) = everyL pre ++ (every k ++ everyL post) := by rw [everyL_append]; rfl
theorem Distinct.kid {u k : U} (h : Distinct u) (hk : k ∈ u.kids) : Distinct k := by
  obtain ⟨pre, post, e⟩ := List.append_of_mem hk
  have := h.kids.1
  rw [e, everyL_split, idsOf_append, idsOf_append, List.nodup_append, List.nodup_append] at this
  exact this.2.1.1
theorem Distinct.at {u y : U} {l : List Step} (h : Distinct u) (hp : Path u l y) : Distinct y := by
  induction hp with
  | nil u => exact h
  | cons hk _ ih => exact ih (h.kid hk)
theorem Distinct.mem {u y : U} (h : Distinct u) (hy : y ∈ every u) : Distinct y := by obtain ⟨l, hl⟩ := path_of u y hy; exact h.at hl
theorem Distinct.eq {u x y : U} (h : Distinct u) (hx : x ∈ every u) (hy : y ∈ every u) (e : x.id = y.id) : x = y := nodup_id h hx hy e
theorem Distinct.apart {u k x : U} {pre post : List U} (h : Distinct u) (e : pre ++ k :: post = u.kids) (hx : x ∈ every k) : (∀ y ∈ pre, x.id ∉ idsOf (every y)) ∧ (∀ y ∈ post, x.id ∉ idsOf (every y)) := by
  have := h.kids.1
  rw [← e, everyL_split, idsOf_append, idsOf_append, List.nodup_append, List.nodup_append] at this
  obtain ⟨h1, ⟨h2, h3, h4⟩, h5⟩ := this
  refine ⟨fun y hy hm => ?_, fun y hy hm => ?_⟩
  · obtain ⟨z, hz, ez⟩ := List.mem_map.1 hm
    exact h5 x.id (by rw [← ez]; exact idsOf_mem (everyL_mem.2 ⟨y, hy, hz⟩)) x.id (List.mem_append.2 (.inl (idsOf_mem hx))) rfl
  · obtain ⟨z, hz, ez⟩ := List.mem_map.1 hm
    exact h4 x.id (idsOf_mem hx) x.id (by rw [← ez]; exact idsOf_mem (everyL_mem.2 ⟨y, hy, hz⟩)) rfl
theorem wayM_off (id : Id) (u : U) (h : id ∉ idsOf (every u)) : wayM id u = [] := by
  refine wayM_none (fun e => h (by rw [← e]; exact idsOf_mem (self_mem u))) fun x hx => ?_
  exact wayM_off id x fun hm => h (by
    obtain ⟨z, hz, ez⟩ := List.mem_map.1 hm
    rw [← ez]; exact idsOf_mem (below_mem (everyL_mem.2 ⟨x, hx, hz⟩)))
termination_by SizeOf.sizeOf u
decreasing_by exact kid_lt hx
theorem Path.way {u y : U} {l : List Step} (h : Path u l y) (hd : Distinct u) : (wayM y.id u).map stp = stp u :: l ∧ (wayM y.id u).getLast? = some y := by
  induction h with
  | nil u => rw [wayM_self rfl]; exact ⟨rfl, rfl⟩
  | @cons u k y l hk hp ih =>
    obtain ⟨pre, post, e⟩ := List.append_of_mem hk
    obtain ⟨i1, i2⟩ := ih (hd.kid hk)
    have hne : u.id ≠ y.id := fun e => hd.kids.2 (by rw [e]; exact idsOf_mem (Path.mem_kids hk hp))
    have hw : wayM y.id k ≠ [] := fun e => by rw [e] at i1; simp at i1
    rw [wayM_kid hne e.symm (fun x hx => wayM_off _ _ ((hd.apart e.symm hp.mem).1 x hx)) hw]
    refine ⟨by rw [List.map_cons, i1], ?_⟩
    rw [List.getLast?_cons, i2]; rfl
theorem Path.find {u y : U} {l : List Step} (h : Path u l y) (hd : Distinct u) : findM u y.id = (y, true) := by
  have := (h.way hd).2
  rw [List.getLast?_eq_getElem?] at this
  unfold findM
  rw [this]
theorem Path.len {u y : U} {l : List Step} (h : Path u l y) (hd : Distinct u) : (wayM y.id u).length = l.length + 1 := by
  have := congrArg List.length (h.way hd).1
  simpa using this
theorem Path.steps {u y : U} {l : List Step} (h : Path u l y) (hd : Distinct u) : stepsM y.id u = l := by
  have := congrArg List.tail (h.way hd).1
  simpa [stepsM] using this
theorem way_mem {u : U} {id : Id} (h : wayM id u ≠ []) : ∃ y ∈ every u, y.id = id := by
  apply Classical.byContradiction
  intro hn
  exact h (wayM_off id u fun hm => by
    obtain ⟨z, hz, ez⟩ := List.mem_map.1 hm
    exact hn ⟨z, hz, ez⟩)
theorem atM_miss {l : List U} {id : Id} (h : id ∉ idsOf l) : atM l id 0 = -1 := atM_none fun x hx e => h (by rw [← e]; exact idsOf_mem hx)
theorem sub_idsL {l : List U} {i : Id} (h : i ∈ idsOf l) : i ∈ idsOf (everyL l) := by
  obtain ⟨z, hz, rfl⟩ := List.mem_map.1 h
  exact idsOf_mem (everyL_mem.2 ⟨z, hz, self_mem z⟩)
theorem parM_off (id : Id) (u : U) (h : id ∉ idsOf (everyL u.kids)) : (parM id u).2.2 < 0 := by
  rw [parM_eq, atM_miss (fun hm => h (sub_idsL hm)), if_neg (by omega)]
  have := parL_skip (id := id) (pre := u.kids) (post := []) (fun x hx => parM_off id x fun hm => h (by
    obtain ⟨z, hz, ez⟩ := List.mem_map.1 hm
    rw [← ez]; exact idsOf_mem (everyL_mem.2 ⟨x, hx, below_mem hz⟩)))
  rw [List.append_nil] at this
  rw [this]; simp [parL]
termination_by SizeOf.sizeOf u
decreasing_by exact kid_lt hx
theorem Path.par {u z k : U} {l : List Step} {pre post : List U} (h : Path u l z) (hd : Distinct u) (e : pre ++ k :: post = z.kids) : parM k.id u = (z, (l.length : Int), (pre.length : Int)) := by
  induction h with
  | nil u =>
    rw [parM_eq, ← e, atM_hit (fun x hx ex => (hd.apart e (self_mem k)).1 x hx (by rw [← ex]; exact idsOf_mem (self_mem x))) rfl, if_pos (by omega)]; rfl
  | @cons u c z l hk hp ih =>
    obtain ⟨p, q, ec⟩ := List.append_of_mem hk
    have hkz : k ∈ everyL c.kids := by
      have h1 : k ∈ everyL z.kids := kid_mem (by rw [← e]; simp)
      have h2 : z ∈ every c := hp.mem
      rw [every_eq, List.mem_cons] at h2
      rcases h2 with rfl | h2
      · exact h1
      · exact everyL_sub h2 k (below_mem h1)
    have hap := hd.apart ec.symm (below_mem hkz)
    have hcc : k.id ≠ c.id := fun ee => (hd.kid hk).kids.2 (by rw [← ee]; exact idsOf_mem hkz)
    have hat : atM u.kids k.id 0 = -1 := atM_none fun x hx ex => by
      rw [ec] at hx
      rcases List.mem_append.1 hx with hx | hx
      · exact hap.1 x hx (by rw [← ex]; exact idsOf_mem (self_mem x))
      · rcases List.mem_cons.1 hx with rfl | hx
        · exact hcc ex.symm
        · exact hap.2 x hx (by rw [← ex]; exact idsOf_mem (self_mem x))
    rw [parM_eq, hat, if_neg (by omega), ec, parL_skip (fun x hx => parM_off _ _ fun hm => hap.1 x hx (by
      obtain ⟨w, hw, ew⟩ := List.mem_map.1 hm
      rw [← ew]; exact idsOf_mem (below_mem hw)))]
    have := ih (hd.kid hk) e
    simp only [parL, this]
    rw [if_pos (by omega)]
    simp
end Go.Ai
