/- A part of the proof: no statement of the seat is proved in this text. -/
import Derived.Test.YtdmhbplibcolbaaGreatN1
set_option linter.unusedVariables false
set_option linter.unusedSimpArgs false
set_option maxRecDepth 20000
set_option maxHeartbeats 1000000
namespace Go.Ai
open Go Go.Ai.Tryz
def nameL : List ByteArray := [⟨#[98, 111, 111, 107]⟩, ⟨#[112, 97, 114, 116]⟩, ⟨#[115, 101, 99, 116, 105, 111, 110]⟩, ⟨#[112, 97, 114, 97, 103, 114, 97, 112, 104]⟩, ⟨#[116, 97, 98, 108, 101]⟩, ⟨#[114, 111, 119]⟩, ⟨#[99, 101, 108, 108]⟩, ⟨#[110, 111, 116, 101]⟩]
def escM (t : ByteArray) : ByteArray := if byteAt t 0 = 124 ∨ byteAt t 0 = 92 then ⟨#[92]⟩ ++ t else t
def wordsM (l : List Wd) : ByteArray := l.foldl (fun s w => s ++ ⟨#[32]⟩ ++ escM w.text) ⟨#[]⟩
theorem wordsM_snoc (l : List Wd) (w : Wd) : wordsM (l ++ [w]) = wordsM l ++ ⟨#[32]⟩ ++ escM w.text := by simp [wordsM]
theorem size1 (a : UInt8) : (⟨#[a]⟩ : ByteArray).size = 1 := rfl
theorem wordsM_size (l : List Wd) (h : ∀ w ∈ l, w.text.size ≤ 24) : (wordsM l).size ≤ 26 * l.length := by
  have key : ∀ l : List Wd, (∀ w ∈ l.reverse, w.text.size ≤ 24) → (wordsM l.reverse).size ≤ 26 * l.length := by
    intro l h
    induction l with
    | nil => exact Nat.zero_le _
    | cons w l ih =>
      have h1 := ih (fun x hx => h x (by simp only [List.reverse_cons, List.mem_append]; exact .inl hx))
      have h2 := h w (by simp)
      have h3 : (escM w.text).size ≤ 25 := by unfold escM; split <;> (try simp only [ByteArray.size_append, size1]) <;> omega
      simp only [List.reverse_cons, wordsM_snoc, ByteArray.size_append, size1, List.length_cons]
      omega
  have := key l.reverse
  simp only [List.reverse_reverse, List.length_reverse] at this
  exact this h
theorem row11_mem {l : List Wd} (h : row11 l = true) : l.length ≤ 256 ∧ ∀ w ∈ l, wordOk w.text = true := by
  simp only [row11, Bool.and_eq_true, List.all_eq_true, decide_eq_true_eq] at h
  exact ⟨h.2, h.1⟩
theorem wordOk_size {s : ByteArray} (h : wordOk s = true) : 1 ≤ s.size ∧ s.size ≤ 24 := by
  simp only [wordOk, Bool.and_eq_true, decide_eq_true_eq] at h
  exact h.1
end Go.Ai
namespace Go.Ai.Tryz
open Go Go.Ai Go.Proofs
variable {w0 : World}
theorem spec108 (H : AH) (Q : AV → AH → Prop) (h : Q (.slice (nameL.map AV.str)) H) : ACalls Tryz.prog w0 108 [] H Q := by
  refine enter108 (by simp) fun hwf hok R hR hR0 => ?_
  unfold x108
  simp only [go_sem]
  refine ⟨by simp [AV.cells, AV.scal, List.range'], ?_⟩
  exact ret1s hR h (by simp only [go_sem]; rfl) (by simp only [go_sem, hwf]) (fitL_str _ _ _)
theorem spec109 (l : List Wd) (hr : row11 l = true) (H : AH) (Q : AV → AH → Prop) (h : Q (.str (wordsM l)) H) : ACalls Tryz.prog w0 109 [.slice (l.map eW)] H Q := by
  refine enter109 (by simp) fun hwf hok R hR hR0 => ?_
  obtain ⟨hl0, hm⟩ := row11_mem hr
  unfold x109
  simp only [go_sem]
  refine AX.each0 ttOk eW l (by omega) (fun p => [(0, .slice (l.map eW)), (3, .str (wordsM p)), (4, .int .i64 p.length)]) (fun p q => True) (by simp only [go_sem]; exact .refl _) trivial (fun hi hwf K R' hQ hb => ?_) fun pre c ks h2 hi hwf K R' hK hQ hb ha hl hw => ?_
  · unfold l109_0
    simp only [go_sem, hb]
    refine hQ _ _ _ ?_
    simp only [go_sem]
    exact ret1 hR h (by simp only [go_sem]) (.refl hwf) rfl
  · have hc := wordOk_size (hm c (mem_of h2))
    have hps := wordsM_size pre (fun w hw => (wordOk_size (hm w (by rw [← h2]; simp [hw]))).2)
    unfold l109_0
    simp only [go_sem, hb, ha, hw]
    repeat' first | refine And.intro ?_ ?_ | intro _
    all_goals (try simp only [decide_eq_true_eq, decide_eq_false_iff_not] at *)
    all_goals first | omega | exact hK _ _ trivial (.refl hwf) (by simp [go_sem, wordsM_snoc, escM, *])
end Go.Ai.Tryz

set_option linter.unusedVariables false
set_option linter.unusedSimpArgs false
set_option maxRecDepth 20000
set_option maxHeartbeats 1000000
namespace Go.Ai
open Go Go.Ai.Tryz
def nameM (k : Int) : ByteArray := nameL.getD k.toNat ⟨#[]⟩
def indM : Nat → ByteArray
  | 0 => ⟨#[]⟩
  | n + 1 => indM n ++ ⟨#[32, 32]⟩
def line1 (u : U) (s : ByteArray) : ByteArray := if u.kind = 0 then s else s ++ ⟨#[32]⟩ ++ u.label
def line2 (u : U) (s : ByteArray) : ByteArray := if 0 < u.head.length then s ++ ⟨#[58]⟩ ++ wordsM u.head else s
def line3 (u : U) (s : ByteArray) : ByteArray := if 0 < u.words.length then s ++ ⟨#[32, 124]⟩ ++ wordsM u.words else s
def lineM (u : U) (d : Int) : ByteArray := if (decide (d < 0) || decide (8 < d) || !alone11 u) = true then ⟨#[]⟩ else line3 u (line2 u (line1 u (indM d.toNat ++ nameM u.kind)))
theorem indM_size (n : Nat) : (indM n).size = 2 * n := by
  induction n with
  | zero => rfl
  | succ n ih => simp only [indM, ByteArray.size_append, ih]; exact (by omega : 2 * n + 2 = 2 * (n + 1))
theorem nameM_at {k : Int} (h : 0 ≤ k ∧ k ≤ 7) : (nameL.map AV.str)[k.toNat]? = some (.str (nameM k)) ∧ (nameM k).size ≤ 9 := by
  rcases (show k = 0 ∨ k = 1 ∨ k = 2 ∨ k = 3 ∨ k = 4 ∨ k = 5 ∨ k = 6 ∨ k = 7 by omega) with rfl | rfl | rfl | rfl | rfl | rfl | rfl | rfl <;> exact ⟨rfl, by decide⟩
theorem labelOk_size {s : ByteArray} (h : labelOk s = true) : s.size ≤ 7 := by
  simp only [labelOk, Bool.and_eq_true, decide_eq_true_eq] at h
  omega
theorem alone11_facts {u : U} (h : alone11 u = true) : (0 ≤ u.kind ∧ u.kind ≤ 7) ∧ u.label.size ≤ 7 ∧ row11 u.head = true ∧ row11 u.words = true := by
  unfold alone11 at h
  split at h
  · simp only [Bool.and_eq_true, decide_eq_true_eq] at h
    have e1 : u.head = [] := List.length_eq_zero_iff.1 h.1.2
    have e2 : u.words = [] := List.length_eq_zero_iff.1 h.2
    rw [e1, e2, h.1.1]
    exact ⟨by omega, by decide, rfl, rfl⟩
  · simp only [Bool.and_eq_true, decide_eq_true_eq] at h
    exact ⟨by omega, labelOk_size h.1.1.2, h.1.2, h.2⟩
theorem row11_size {l : List Wd} (h : row11 l = true) : (wordsM l).size ≤ 10000 := by
  obtain ⟨h1, h2⟩ := row11_mem h
  have := wordsM_size l (fun w hw => (wordOk_size (h2 w hw)).2)
  omega
theorem lineM_size (u : U) (d : Int) : (lineM u d).size ≤ 30000 := by
  unfold lineM
  split
  · exact Nat.zero_le _
  · rename_i h
    simp only [Bool.or_eq_true, decide_eq_true_eq, Bool.not_eq_true', not_or, Bool.not_eq_false] at h
    obtain ⟨h1, h2, h3, h4⟩ := alone11_facts h.2
    have := row11_size h3
    have := row11_size h4
    have := (nameM_at h1).2
    have := indM_size d.toNat
    have e1 : (line1 u (indM d.toNat ++ nameM u.kind)).size ≤ 100 := by
      unfold line1; split <;> (try simp only [ByteArray.size_append, size1]) <;> omega
    generalize line1 u (indM d.toNat ++ nameM u.kind) = s at e1
    have e2 : (line2 u s).size ≤ 10200 := by
      unfold line2; split <;> (try simp only [ByteArray.size_append, size1]) <;> omega
    generalize line2 u s = s at e2
    have e3 : (⟨#[32, 124]⟩ : ByteArray).size = 2 := rfl
    unfold line3; split <;> (try simp only [ByteArray.size_append, e3]) <;> omega
end Go.Ai
namespace Go.Ai.Tryz
open Go Go.Ai Go.Proofs
variable {w0 : World}
theorem spec97 (u : U) (d : Int) (hs : u.head.length ≤ 1000000 ∧ u.words.length ≤ 1000000) (H : AH) (Q : AV → AH → Prop) (h : Q (.str (lineM u d)) H) : ACalls Tryz.prog w0 97 [eU u, .int .i64 d] H Q := by
  refine enter97 (by simp) fun hwf hok R hR hR0 => ?_
  have fin : ∀ s env' H', look 4 env' = .str s → lineM u d = s → H.Sub H' → R .ret env' H' := fun b env' H' h1 h2 h3 => ret1 hR h (by rw [h1, h2]) h3 rfl
  unfold x97
  cases c0 : decide (d < 0) with
  | true => simp only [go_sem, c0]; exact fin _ _ _ (by simp only [go_sem]; rfl) (by simp [lineM, c0]) (by simp only [go_sem, hwf])
  | false =>
  cases c1 : decide (8 < d) with
  | true => simp only [go_sem, c0, c1]; exact fin _ _ _ (by simp only [go_sem]; rfl) (by simp [lineM, c0, c1]) (by simp only [go_sem, hwf])
  | false =>
  simp only [go_sem, c0, c1]
  refine spec96 u hs _ _ ?_
  cases c2 : alone11 u with
  | false => simp only [go_sem, Bool.not_false]; exact fin _ _ _ (by simp only [go_sem]; rfl) (by simp [lineM, c2]) (by simp only [go_sem, hwf])
  | true =>
  have e0 : lineM u d = line3 u (line2 u (line1 u (indM d.toNat ++ nameM u.kind))) := by simp [lineM, c0, c1, c2]
  obtain ⟨h1, h2, h3, h4⟩ := alone11_facts c2
  obtain ⟨hn, hns⟩ := nameM_at h1
  have := row11_size h3
  have := row11_size h4
  have := indM_size d.toNat
  simp only [decide_eq_false_iff_not] at c0 c1
  simp only [go_sem, Bool.not_true]
  refine AX.iter (S := Nat) ttOk (fun n => [(1, .int .i64 d), (2, .ptr H.n 0), (5, .str (indM n)), (6, .int .i64 n)]) (fun _ => H.push (.cells u.cs 27)) (fun n => d.toNat - n) (fun n => n ≤ d.toNat) 0 (by simp only [go_sem]; exact .refl _) (by simp only [U.cs]) (Nat.zero_le _) fun n hi hk hwf' K R' hK hQ => ?_
  have hw : IntKind.i64.wrap ((n : Int) + 1) = (n + 1 : Nat) := by rw [wrap_i64.2 (by omega)]; rfl
  have hin := indM_size n
  unfold l97_0
  cases c3 : decide ((n : Int) < d) with
  | true =>
    simp only [decide_eq_true_eq] at c3
    simp only [go_sem, c3, hw]
    refine ⟨by omega, hK _ _ (n + 1) (by omega) (by omega) (.refl hwf') (Nat.le_refl _) (Nat.le_refl _) ?_⟩
    simp [go_sem, indM]
  | false =>
    simp only [decide_eq_false_iff_not] at c3
    obtain rfl : n = d.toNat := by omega
    simp only [go_sem, c3, U.cs]
    refine hQ _ _ _ ?_
    simp only [go_sem, dr97_0]
    refine PCalls.of (r := .slice (nameL.map AV.str)) (fun H' => spec108 _ _ ⟨rfl, rfl⟩) ?_
    simp only [go_sem, hn]
    repeat' first | refine And.intro ?_ ?_ | intro _ | (refine spec109 _ ‹_› _ _ ?_; simp only [go_sem])
    all_goals (try simp only [decide_eq_true_eq, decide_eq_false_iff_not, Bool.not_eq_true', Bool.not_eq_false', List.length_map, Int.natCast_pos] at *)
    all_goals first | omega | exact fin _ _ _ (by simp only [go_sem]; rfl) (by rw [e0]; simp [line1, line2, line3, *]) (by simp only [go_sem, hwf])
end Go.Ai.Tryz

set_option linter.unusedVariables false
set_option linter.unusedSimpArgs false
set_option maxRecDepth 20000
set_option maxHeartbeats 1000000
namespace Go.Ai
open Go Go.Ai.Tryz
mutual
def linesM (d : Int) : U → List ByteArray
  | ⟨a, b, c, e, f, kids⟩ => lineM ⟨a, b, c, e, f, kids⟩ d :: linesL (d + 1) kids
def linesL (d : Int) : List U → List ByteArray
  | [] => []
  | k :: ks => linesM d k ++ linesL d ks
end
theorem linesM_eq (d : Int) (u : U) : linesM d u = lineM u d :: linesL (d + 1) u.kids := by cases u; simp only [linesM]
theorem linesL_append (d : Int) (a b : List U) : linesL d (a ++ b) = linesL d a ++ linesL d b := by
  induction a with
  | nil => rfl
  | cons k a ih => simp [linesL, ih]
theorem linesL_snoc (d : Int) (a : List U) (k : U) : linesL d (a ++ [k]) = linesL d a ++ linesM d k := by rw [linesL_append]; simp [linesL]
mutual
theorem linesM_len (d : Int) (u : U) : (linesM d u).length = (every u).length := by
  cases u with
  | mk a b c e f kids => simp only [linesM, every, List.length_cons, linesL_len (d + 1) kids]
theorem linesL_len (d : Int) (l : List U) : (linesL d l).length = (everyL l).length := by
  cases l with
  | nil => rfl
  | cons k ks => simp only [linesL, everyL, List.length_append, linesM_len d k, linesL_len d ks]
end
mutual
theorem linesM_size (d : Int) (u : U) : ∀ s ∈ linesM d u, s.size ≤ 30000 := by
  cases u with
  | mk a b c e f kids =>
    intro s hs
    simp only [linesM, List.mem_cons] at hs
    rcases hs with rfl | hs
    · exact lineM_size _ _
    · exact linesL_size (d + 1) kids s hs
theorem linesL_size (d : Int) (l : List U) : ∀ s ∈ linesL d l, s.size ≤ 30000 := by
  cases l with
  | nil => intro s hs; cases hs
  | cons k ks =>
    intro s hs
    simp only [linesL, List.mem_append] at hs
    rcases hs with hs | hs
    · exact linesM_size d k s hs
    · exact linesL_size d ks s hs
end
def LinesM (u : U) : List ByteArray := if Shape u then linesM 0 u else []
def joinM (l : List ByteArray) : ByteArray := l.foldl (fun s x => s ++ x ++ ⟨#[10]⟩) ⟨#[]⟩
theorem joinM_snoc (l : List ByteArray) (x : ByteArray) : joinM (l ++ [x]) = joinM l ++ x ++ ⟨#[10]⟩ := by simp [joinM]
theorem joinM_size (l : List ByteArray) (h : ∀ x ∈ l, x.size ≤ 30000) : (joinM l).size ≤ 30001 * l.length := by
  have key : ∀ l : List ByteArray, (∀ x ∈ l.reverse, x.size ≤ 30000) → (joinM l.reverse).size ≤ 30001 * l.length := by
    intro l h
    induction l with
    | nil => exact Nat.zero_le _
    | cons w l ih =>
      have h1 := ih (fun x hx => h x (by simp only [List.reverse_cons, List.mem_append]; exact .inl hx))
      have h2 := h w (by simp)
      simp only [List.reverse_cons, joinM_snoc, ByteArray.size_append, size1, List.length_cons]
      omega
  have := key l.reverse
  simp only [List.reverse_reverse, List.length_reverse] at this
  exact this h
def textM (u : U) : ByteArray × Int := if Shape u then (if 16384 < (joinM (linesM 0 u)).size then (⟨#[]⟩, 6) else (joinM (linesM 0 u), 0)) else (⟨#[]⟩, 1)
end Go.Ai
namespace Go.Ai.Tryz
open Go Go.Ai Go.Proofs
variable {w0 : World}
theorem spec76 (u : U) (d : Int) (hd : 0 ≤ d ∧ d ≤ 1000000 - (every u).length) (hb : (every u).length ≤ 1000) (hs : small (every u)) (H : AH) (Q : AV → AH → Prop) (h : Q (.slice ((linesM d u).map AV.str)) H) : ACalls Tryz.prog w0 76 [eU u, .int .i64 d] H Q := by
  refine enter76 (by simp) fun hwf hok R hR hR0 => ?_
  have hsu := hs u (by rw [every_eq]; exact List.mem_cons_self ..)
  have hkl := len_everyL u.kids
  rw [every_eq] at hb hs hd
  simp only [List.length_cons] at hb hd
  have hll := linesL_len (d + 1) u.kids
  unfold x76
  simp only [go_sem, U.cs]
  refine spec97 u d hsu _ _ ?_
  simp only [go_sem]
  refine ⟨by simp [AV.cells, AV.scal, List.range'], ?_⟩
  refine AX.each ttOk eU u.kids (by omega) (fun p => [(1, .int .i64 d), (2, .ptr H.n 0), (5, .own ((lineM u d :: linesL (d + 1) p).map AV.str) H.m), (6, .int .i64 p.length)]) (fun p => (H.push (.cells u.cs 27)).pushTok ⟨((lineM u d :: linesL (d + 1) p).map AV.str).length, 9, 1⟩) (fun p q => True) (by simp only [go_sem, linesL]) (by simp only [U.cs]; rfl) trivial
      (fun hi hwf' K R' hQ hb => ?_) fun pre k ks h2 hi hwf' K R' hK hQ hb' ha hl hw => ?_
  · unfold l76_0
    simp only [go_sem, U.cs, hb]
    refine hQ _ _ _ ?_
    simp only [go_sem]
    exact ret1s hR (by rw [linesM_eq] at h; exact h) (by simp only [go_sem]) (.pushTok (.push (.refl hwf) _) _) (fitL_str _ _ _)
  · have hbk := kid_le (mem_of h2)
    have hsum : everyL u.kids = everyL pre ++ (every k ++ everyL ks) := by rw [← h2, everyL_append]; rfl
    have hlen : (everyL u.kids).length = (everyL pre).length + ((every k).length + (everyL ks).length) := by rw [hsum]; simp
    have hsk : small (every k) := fun x hx => hs x (List.mem_cons_of_mem _ (by rw [hsum]; simp [hx]))
    have hwd : IntKind.i64.wrap (d + 1) = d + 1 := wrap_i64.2 (by omega)
    have hlp := linesL_len (d + 1) pre
    have hlk := linesM_len (d + 1) k
    unfold l76_0
    simp only [go_sem, U.cs, hb', ha, hwd]
    refine ⟨by omega, ?_⟩
    rw [every_eq, List.length_cons] at hbk
    refine spec76 k (d + 1) (by omega) (by omega) hsk _ _ ?_
    simp only [go_sem, hw]
    refine ⟨elem_str _, ⟨by simp; omega, by simp; omega⟩, ?_⟩
    refine hK _ _ trivial ?_ ?_ (Nat.le_refl _) (Nat.le_refl _)
    · simp only [go_sem, linesL_snoc, List.map_append, U.cs]
      exact .refl (WF_pushTok (WF_push_cells hwf _ _ (by simp only [go_sem])) _)
    · simp [go_sem, linesL_snoc, fitL_str]
termination_by SizeOf.sizeOf u
decreasing_by all_goals exact kid_lt (mem_of h2)
theorem spec53 (u : U) (hb : (every u).length ≤ 1000) (hs : small (every u)) (H : AH) (Q : AV → AH → Prop) (h : Q (.slice ((LinesM u).map AV.str)) H) : ACalls Tryz.prog w0 53 [eU u] H Q := by
  refine enter53 (by simp) fun hwf hok R hR hR0 => ?_
  unfold x53
  simp only [go_sem, U.cs]
  refine spec52 u hb hs _ _ ?_
  cases c : Shape u with
  | false =>
    simp only [go_sem, Bool.not_false]
    refine ⟨by decide, ?_⟩
    exact ret1s hR (l := []) (by simpa [LinesM, c] using h) (by simp only [go_sem]) (.pushTok (.push (.refl hwf) _) _) rfl
  | true =>
    simp only [go_sem, Bool.not_true, U.cs]
    refine spec76 u 0 (by omega) hb hs _ _ ?_
    simp only [go_sem]
    exact ret1s hR (l := (linesM 0 u).map AV.str) (by simpa [LinesM, c] using h) (by simp only [go_sem]) (by simp only [go_sem, hwf]) (fitL_str _ _ _)
theorem spec22 (u : U) (hb : (every u).length ≤ 1000) (hs : small (every u)) (H : AH) (Q : AV → AH → Prop) (h : Q (.tup [.str (textM u).1, .int .i64 (textM u).2]) H) : ACalls Tryz.prog w0 22 [eU u] H Q := by
  refine enter22 (by simp) fun hwf hok R hR hR0 => ?_
  have fin : ∀ s e env' H', look 2 env' = .str s → look 3 env' = .int .i64 e → textM u = (s, e) → H.Sub H' → R .ret env' H' := fun s e env' H' h1 h2 h3 h4 => ret2 hR h (by rw [h1, h3]) (by rw [h2, h3]) h4 (by simp [AV.fit, AV.fitL])
  unfold x22
  simp only [go_sem, U.cs]
  refine spec52 u hb hs _ _ ?_
  cases c : Shape u with
  | false =>
    simp only [go_sem, Bool.not_false]
    exact fin _ _ _ _ (by simp only [go_sem]; rfl) (by simp only [go_sem]; rfl) (by simp [textM, c]) (by simp only [go_sem, hwf])
  | true =>
    simp only [go_sem, Bool.not_true, U.cs]
    refine spec53 u hb hs _ _ ?_
    have hll := linesM_len 0 u
    simp only [go_sem, LinesM, c]
    refine AX.each ttOk AV.str (linesM 0 u) (by omega) (fun p => [(4, .slice ((linesM 0 u).map AV.str)), (5, .str (joinM p)), (6, .int .i64 p.length)]) (fun _ => H.push (.cells u.cs 27)) (fun p q => True) (by simp only [go_sem]; exact .refl _) (by simp only [U.cs]) trivial
      (fun hi hwf' K R' hQ hb => ?_) fun pre k ks h2 hi hwf' K R' hK hQ hb' ha hl hw => ?_
    · unfold l22_0
      simp only [go_sem, hb]
      refine hQ _ _ _ ?_
      simp only [go_sem]
      refine ⟨fun c1 => ?_, fun c1 => ?_⟩ <;> simp only [decide_eq_true_eq, decide_eq_false_iff_not] at c1
      · exact fin _ _ _ _ (by simp only [go_sem]; rfl) (by simp only [go_sem]; rfl) (by simp [textM, c]; omega) (by simp only [go_sem, hwf])
      · exact fin _ _ _ _ (by simp only [go_sem]; rfl) (by simp only [go_sem]; rfl) (by simp [textM, c]; omega) (by simp only [go_sem, hwf])
    · have hp := joinM_size pre (fun x hx => linesM_size 0 u x (by rw [← h2]; simp [hx]))
      have hk := linesM_size 0 u k (mem_of h2)
      unfold l22_0
      simp only [go_sem, hb', ha, hw]
      repeat' first | refine And.intro ?_ ?_ | intro _
      all_goals first | omega | exact hK _ _ trivial (.refl hwf') (by simp only [go_sem, len_snoc, joinM_snoc]) (Nat.le_refl _) (Nat.le_refl _)
end Go.Ai.Tryz

set_option linter.unusedVariables false
set_option linter.unusedSimpArgs false
set_option maxRecDepth 20000
set_option maxHeartbeats 1000000
namespace Go.Ai
open Go Go.Ai.Tryz
def bareW (w : Wd) : Wd := ⟨w.text, zeroId⟩
mutual
def stripM : U → U
  | ⟨_, b, c, d, e, kids⟩ => ⟨zeroId, b, c, d.map bareW, e.map bareW, stripL kids⟩
def stripL : List U → List U
  | [] => []
  | k :: ks => stripM k :: stripL ks
end
theorem stripL_eq (l : List U) : stripL l = l.map stripM := by induction l with
  | nil => rfl
  | cons k ks ih => simp [stripL, ih]
theorem stripM_eq (u : U) : stripM u = ⟨zeroId, u.kind, u.label, u.head.map bareW, u.words.map bareW, u.kids.map stripM⟩ := by cases u; simp only [stripM, stripL_eq]
def strip0 (u : U) (p : List U) : List AV := [.int .i64 0, .int .i64 0, .int .i64 0, .int .i64 u.kind, .str u.label, .slice ((u.head.map bareW).map eW), .slice ((u.words.map bareW).map eW)]
end Go.Ai
namespace Go.Ai.Tryz
open Go Go.Ai Go.Proofs
variable {w0 : World}
theorem spec77 (l : List Wd) (hl0 : l.length ≤ 1000000) (H : AH) (Q : AV → AH → Prop) (h : Q (.slice ((l.map bareW).map eW)) H) : ACalls Tryz.prog w0 77 [.slice (l.map eW)] H Q := by
  refine enter77 (by simp) fun hwf hok R hR hR0 => ?_
  unfold x77
  simp only [go_sem]
  refine ⟨by omega, ?_⟩
  refine AX.each ttOk eW l (by omega) (fun p => [(0, .slice (l.map eW)), (3, .own ((p.map bareW).map eW) H.m), (4, .int .i64 p.length)]) (fun p => H.pushTok ⟨((p.map bareW).map eW).length, 107, 4⟩) (fun p q => True) (by simp only [go_sem]) rfl trivial
      (fun hi hwf' K R' hQ hb => ?_) fun pre k ks h2 hi hwf' K R' hK hQ hb' ha hl hw => ?_
  · unfold l77_0
    simp only [go_sem, hb]
    refine hQ _ _ _ ?_
    simp only [go_sem]
    exact ret1s hR h (by simp only [go_sem]) (by simp only [go_sem, hwf]) (fitL_eW _ _ _)
  · unfold l77_0
    simp only [go_sem, hb', ha, hw]
    have e : ((pre ++ [k]).map bareW).map eW = (pre.map bareW).map eW ++ [.agg [.str k.text, .int .i64 0, .int .i64 0, .int .i64 0]] := by simp; rfl
    refine ⟨by omega, by omega, ⟨by simp; omega, by simp; omega⟩, ?_⟩
    refine hK _ _ trivial ?_ ?_ (Nat.le_refl _) (Nat.le_refl _)
    · rw [e]; exact .pushTok (.refl (WF_pushTok hwf _)) _
    · simp only [go_sem, e, len_snoc]
      simp
theorem spec54 (u : U) (hb : (every u).length ≤ 1000) (hs : small (every u)) (H : AH) (Q : AV → AH → Prop) (h : Q (eU (stripM u)) H) : ACalls Tryz.prog w0 54 [eU u] H Q := by
  refine enter54 (by simp) fun hwf hok R hR hR0 => ?_
  have hsu := hs u (by rw [every_eq]; exact List.mem_cons_self ..)
  have hkl := len_everyL u.kids
  have hb0 := hb
  rw [every_eq] at hb hs
  simp only [List.length_cons] at hb
  unfold x54
  simp only [go_sem, U.cs, dr54_0]
  refine PCalls.of (r := .slice ((u.head.map bareW).map eW)) (fun H' => spec77 _ hsu.1 _ _ ⟨rfl, rfl⟩) ?_
  simp only [go_sem]
  refine PCalls.of (r := .slice ((u.words.map bareW).map eW)) (fun H' => spec77 _ hsu.2 _ _ ⟨rfl, rfl⟩) ?_
  simp only [go_sem]
  refine AX.own0j (id := H.n + 1 + 1) (j := 7) (cs := strip0 u [] ++ [.nilS]) (t := 27) 27 8 (by simp only [go_sem, strip0, List.cons_append, List.nil_append]) rfl ?_
  refine AX.each ttOk eU u.kids (by omega) (fun p => [(1, .ptr H.n 0), (2, .ptr (H.n + 1) 0), (3, .ptr (H.n + 1 + 1) 0), (4, .int .i64 p.length)])
    (fun p => (((H.push (.cells u.cs 27)).push (.cells [.int .i64 0, .int .i64 0, .int .i64 0, .int .i64 0, .str ByteArray.empty, .nilS, .nilS, .nilS] 27)).push (.cells (strip0 u [] ++ [.own ((p.map stripM).map eU) H.m]) 27)).pushTok ⟨((p.map stripM).map eU).length, 27, 8⟩)
    (fun p q => True) (by simp only [go_sem]) (by simp only [U.cs, strip0, go_sem, List.set, List.cons_append, List.nil_append]) trivial
      (fun hi hwf' K R' hQ hb => ?_) fun pre k ks h2 hi hwf' K R' hK hQ hb' ha hl hw => ?_
  · unfold l54_0
    simp only [go_sem, strip0, List.cons_append, List.nil_append, U.cs, hb]
    refine hQ _ _ _ ?_
    simp only [go_sem]
    refine hR _ _ (.agg (strip0 u [] ++ [.own ((u.kids.map stripM).map eU) H.m])) (ares_c (ares1_cell (id := H.n + 1) (off := 0) (cs := strip0 u [] ++ [.own ((u.kids.map stripM).map eU) H.m]) (e := 27) tt_27 (by simp only [go_sem]) (by simp only [go_sem, strip0, List.cons_append, List.nil_append]) (by decide) (by simp [strip0, ty27]) rfl))
      (.inl ⟨eU (stripM u), H, ?_, fit_eU _ _ _, ?_, rfl, rfl, h⟩)
    · rw [stripM_eq, eU_eq, U.cs, strip0]
      exact AV.Weak.cells _
    · exact .pushTok (.push (.push (.push (.refl hwf) _) _) _) _
  · have hbk : (every k).length ≤ 1000 := by have := kid_le (mem_of h2); omega
    have hsum : everyL u.kids = everyL pre ++ (every k ++ everyL ks) := by rw [← h2, everyL_append]; rfl
    have hsk : small (every k) := fun x hx => hs x (List.mem_cons_of_mem _ (by rw [hsum]; simp [hx]))
    unfold l54_0
    simp only [go_sem, strip0, List.cons_append, List.nil_append, U.cs, hb', dr54_1, ha]
    refine ⟨by omega, ?_⟩
    refine PCalls.of (r := eU (stripM k)) (fun H' => spec54 k hbk hsk _ _ ⟨rfl, rfl⟩) ?_
    simp only [go_sem, hw]
    refine ⟨by omega, ⟨by simp; omega, by simp; omega⟩, ?_⟩
    refine hK _ _ trivial ?_ ?_ (Nat.le_refl _) (Nat.le_refl _)
    · simp only [go_sem, strip0, List.cons_append, List.nil_append, U.cs, List.map_append]
      exact .refl (WF_push_cells (WF_pushTok (WF_push_cells (WF_push_cells hwf _ _ (by simp only [go_sem])) _ _ (by simp only [go_sem])) ⟨((pre.map stripM).map eU ++ [eU (stripM k)]).length, 27, 8⟩) _ _ (by simp [go_sem, -List.map_map]))
    · simp only [go_sem, len_snoc]
      simp <;> omega
termination_by SizeOf.sizeOf u
decreasing_by all_goals exact kid_lt (mem_of h2)
end Go.Ai.Tryz
