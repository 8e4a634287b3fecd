/- A part of the proof: no statement of the seat is proved in this text. -/
import Derived.Test.YtdmhbplibcolbaaGreatG12
set_option linter.unusedVariables false
set_option linter.unusedSimpArgs false
set_option maxRecDepth 20000
set_option maxHeartbeats 1000000
namespace Go.Ai
open Go Go.Ai.Tryz
def takenM (l : List U) (kind : Int) (label : ByteArray) : Bool := l.any fun y => decide (y.kind = kind) && decide (y.label = label)
def atM (l : List U) (id : Id) (n : Int) : Int := match l with
  | [] => -1
  | k :: ks => if k.id = id then n else atM ks id (n + 1)
def sameL {α : Type} [DecidableEq α] : List α → List α → Bool
  | a :: l, b :: m => decide (a = b) && sameL l m
  | [], _ => true
  | _ :: _, [] => true
theorem sameL_self {α : Type} [DecidableEq α] (l : List α) : sameL l l = true := by induction l with
  | nil => rfl
  | cons a l ih => simp [sameL, ih]
def sameQ {α : Type} [DecidableEq α] (a b : List α) : Bool := decide (a.length = b.length) && sameL a b
theorem sameQ_self {α : Type} [DecidableEq α] (l : List α) : sameQ l l = true := by simp [sameQ, sameL_self]
theorem Wd.eq_iff (a b : Wd) : a = b ↔ a.text = b.text ∧ a.origin = b.origin := by cases a; cases b; simp
theorem Step.eq_iff (a b : Step) : a = b ↔ a.kind = b.kind ∧ a.label = b.label := by cases a; cases b; simp
end Go.Ai
namespace Go.Ai.Tryz
open Go Go.Ai Go.Proofs
variable {w0 : World}
@[go_sem high] theorem abin_wdNe (a b : Wd) : abin tt .neq 107 (eW a) (eW b) = some (.bool (!decide (a = b))) := by
  rw [show decide (a = b) = (decide (a.text = b.text) && (decide (a.origin.act = b.origin.act) && (decide (a.origin.item = b.origin.item) && decide (a.origin.n = b.origin.n)))) by simp [Wd.eq_iff, Id.eq_iff, Bool.decide_and]]
  simp [abin, eW, Id.cs, tt, ty107, anil, aeqs, aeq1, AV.cells, AV.kc, AV.isAgg]
@[go_sem high] theorem abin_stNe (a b : Step) : abin tt .neq 56 (eS a) (eS b) = some (.bool (!decide (a = b))) := by
  rw [show decide (a = b) = (decide (a.kind = b.kind) && decide (a.label = b.label)) by simp [Step.eq_iff, Bool.decide_and]]
  simp [abin, eS, tt, ty56, anil, aeqs, aeq1, AV.cells, AV.kc, AV.isAgg]
theorem spec16 (n lo hi : Int) (H : AH) (Q : AV → AH → Prop) (h : Q (.bool (decide (lo ≤ n) && decide (n ≤ hi))) H) : ACalls Tryz.prog w0 16 [.int .i64 n, .int .i64 lo, .int .i64 hi] H Q := by
  refine enter16 (by simp) fun hwf hok R hR hR0 => ?_
  unfold x16
  cases c : decide (lo ≤ n) with
  | true =>
    simp only [go_sem, c]
    rw [c] at h
    exact hR _ _ _ rfl (.same (.refl hwf) (by simp only [go_sem]) (by simp only [go_sem]; exact h))
  | false =>
    simp only [go_sem, c]
    rw [c] at h
    exact hR _ _ _ rfl (.same (.refl hwf) (by simp only [go_sem]) (by simp only [go_sem]; exact h))
theorem spec26 (n : Int) (H : AH) (Q : AV → AH → Prop) (h : Q (.bool (decide (0 ≤ n) && decide (n ≤ 6))) H) : ACalls Tryz.prog w0 26 [.int .i64 n] H Q := by
  refine enter26 (by simp) fun hwf hok R hR hR0 => ?_
  unfold x26
  cases c : decide (0 ≤ n) with
  | true =>
    simp only [go_sem, c]
    rw [c] at h
    exact hR _ _ _ rfl (.same (.refl hwf) (by simp only [go_sem]) (by simp only [go_sem]; exact h))
  | false =>
    simp only [go_sem, c]
    rw [c] at h
    exact hR _ _ _ rfl (.same (.refl hwf) (by simp only [go_sem]) (by simp only [go_sem]; exact h))
theorem spec36 (l : List U) (kind : Int) (label : ByteArray) (hl : l.length ≤ 1000000) (H : AH) (Q : AV → AH → Prop) (h : Q (.bool (takenM l kind label)) H) : ACalls Tryz.prog w0 36 [.slice (l.map eU), .int .i64 kind, .str label] H Q := by
  refine enter36 (by simp) fun hwf hok R hR hR0 => ?_
  have fin : ∀ b env', look 6 env' = .bool b → takenM l kind label = b → R .ret env' H := fun b env' h2 h3 => hR _ _ _ rfl (.same (.refl hwf) (by rw [h2]; rfl) (by rw [h2, ← h3]; exact h))
  unfold x36
  simp only [go_sem]
  refine AX.iter (S := List U × List U) ttOk (fun a => [(0, .slice (l.map eU)), (1, .int .i64 kind), (2, .str label), (7, .int .i64 a.1.length)]) (fun _ => H) (fun a => a.2.length) (fun a => a.1 ++ a.2 = l ∧ takenM a.2 kind label = takenM l kind label) ([], l) ?_ rfl ⟨rfl, rfl⟩ ?_
  · simp only [go_sem]
  rintro ⟨pre, post⟩ ⟨h2, h3⟩ hk2 hwf2 K2 R2 hK2 hQ2
  simp only at h2 h3 hK2
  unfold l36_0
  rcases post with _ | ⟨k, ks⟩
  · have hb := ge_of h2 eU
    simp only [go_sem, hb]
    refine hQ2 _ _ _ ?_
    simp only [go_sem]
    exact fin false _ (by simp only [go_sem]) (by rw [← h3]; rfl)
  · have hb := lt_of h2 eU
    have ha := at_of h2 eU
    have hl := len_of h2
    have hw : IntKind.i64.wrap ((pre.length : Int) + 1) = pre.length + 1 := wrap_i64.2 (by omega)
    have hs : takenM (k :: ks) kind label = (decide (k.kind = kind) && decide (k.label = label) || takenM ks kind label) := rfl
    have go : ∀ env', look 0 env' = .slice (l.map eU) → look 1 env' = .int .i64 kind → look 2 env' = .str label → look 7 env' = .int .i64 (pre.length + 1) → (decide (k.kind = kind) && decide (k.label = label)) = false → K2 env' H := fun env' q0 q1 q2 q3 q4 => by
      refine hK2 _ _ (pre ++ [k], ks) (by simp) ⟨snoc_of h2, by rw [← h3, hs, q4]; rfl⟩ (.refl hwf2) (Nat.le_refl _) (Nat.le_refl _) ?_
      simp only [go_sem, q0, q1, q2, q3, len_snoc]
      try simp
    cases c1 : decide (k.kind = kind) with
    | false =>
      simp only [go_sem, hb, ha, hw, c1]
      exact ⟨by omega, go _ (by simp only [go_sem]) (by simp only [go_sem]) (by simp only [go_sem]) (by simp only [go_sem]) (by rw [c1]; rfl)⟩
    | true =>
      cases c2 : decide (k.label = label) with
      | false =>
        simp only [go_sem, hb, ha, hw, c1, c2]
        exact ⟨by omega, by omega, go _ (by simp only [go_sem]) (by simp only [go_sem]) (by simp only [go_sem]) (by simp only [go_sem]) (by rw [c1, c2]; rfl)⟩
      | true =>
        simp only [go_sem, hb, ha, hw, c1, c2]
        refine ⟨by omega, by omega, hQ2 _ _ _ ?_⟩
        simp only [go_sem]
        exact fin true _ (by simp only [go_sem]) (by rw [← h3, hs, c1, c2]; rfl)
theorem spec64 (l : List U) (id : Id) (hl : l.length ≤ 1000000) (H : AH) (Q : AV → AH → Prop) (h : Q (.int .i64 (atM l id 0)) H) : ACalls Tryz.prog w0 64 [.slice (l.map eU), eId id] H Q := by
  refine enter64 (by simp) fun hwf hok R hR hR0 => ?_
  have fin : ∀ b env' H', look 4 env' = .int .i64 b → atM l id 0 = b → H.Sub H' → R .ret env' H' := fun b env' H' h2 h3 h4 => hR _ _ _ rfl (.same h4 (by rw [h2]; rfl) (by rw [h2, ← h3]; exact h))
  unfold x64
  simp only [go_sem]
  refine AX.iter (S := List U × List U) ttOk (fun a => [(0, .slice (l.map eU)), (3, .ptr H.n 0), (5, .int .i64 a.1.length)]) (fun _ => H.push (.cells id.cs 23)) (fun a => a.2.length) (fun a => a.1 ++ a.2 = l ∧ atM a.2 id a.1.length = atM l id 0) ([], l) ?_ rfl ⟨rfl, rfl⟩ ?_
  · simp only [go_sem]
  rintro ⟨pre, post⟩ ⟨h2, h3⟩ hk2 hwf2 K2 R2 hK2 hQ2
  simp only at h2 h3 hK2
  unfold l64_0
  rcases post with _ | ⟨k, ks⟩
  · have hb := ge_of h2 eU
    simp only [go_sem, hb]
    refine hQ2 _ _ _ ?_
    simp only [go_sem]
    exact fin (-1) _ _ (by simp only [go_sem]) (by rw [← h3]; rfl) (.push (.refl hwf) _)
  · have hb := lt_of h2 eU
    have ha := at_of h2 eU
    have hl := len_of h2
    have hw : IntKind.i64.wrap ((pre.length : Int) + 1) = pre.length + 1 := wrap_i64.2 (by omega)
    simp only [go_sem, hb, dr64_0, ha, hw, Id.cs]
    refine ⟨by omega, fun e => ?_, fun e => ?_⟩
    · refine hQ2 _ _ _ ?_
      simp only [go_sem]
      exact fin pre.length _ _ (by simp only [go_sem]) (by rw [← h3, atM, if_pos (by simpa using e)]) (.push (.refl hwf) _)
    · refine hK2 _ _ (pre ++ [k], ks) (by simp) ⟨snoc_of h2, by rw [← h3, atM, if_neg (by simpa using e), len_snoc]⟩ (.refl hwf2) (Nat.le_refl _) (Nat.le_refl _) ?_
      simp only [go_sem, len_snoc]
      try simp
theorem spec59 (p k : Int) (H : AH) (Q : AV → AH → Prop) (h : Q (.bool (nestsM p k)) H) : ACalls Tryz.prog w0 59 [.int .i64 p, .int .i64 k] H Q := by
  refine enter59 (by simp) fun hwf hok R hR hR0 => ?_
  have fin : ∀ b env', look 4 env' = .bool b → nestsM p k = b → R .ret env' H := fun b env' h2 h1 => hR _ _ _ rfl (.same (.refl hwf) (by rw [h2]; rfl) (by rw [h2, ← h1]; exact h))
  unfold x59
  by_cases p0 : p = 0
  · subst p0
    simp only [go_sem]
    refine ⟨fun h1 => fin _ _ (by simp only [go_sem]; rfl) ?_, fun h1 => fin _ _ (by simp only [go_sem]; rfl) ?_⟩ <;> simp at h1 <;> simp [nestsM, h1]
  by_cases p1 : p = 1
  · subst p1
    simp only [go_sem]
    exact fin _ _ (by simp only [go_sem]; rfl) (by simp [nestsM])
  by_cases p2 : p = 2
  · subst p2
    by_cases k3 : k = 3
    · simp only [go_sem, k3]
      exact fin true _ (by simp only [go_sem]) (by simp [nestsM, k3])
    by_cases k4 : k = 4
    · simp only [go_sem, k4]
      exact fin true _ (by simp only [go_sem]) (by simp [nestsM, k4])
    simp only [go_sem, k3, k4]
    exact fin (decide (k = 7)) _ (by simp only [go_sem]) (by simp [nestsM, k3, k4])
  by_cases p3 : p = 3
  · subst p3
    by_cases k3 : k = 3
    · simp only [go_sem, k3]
      exact fin true _ (by simp only [go_sem]) (by simp [nestsM, k3])
    by_cases k4 : k = 4
    · simp only [go_sem, k4]
      exact fin true _ (by simp only [go_sem]) (by simp [nestsM, k4])
    simp only [go_sem, k3, k4]
    exact fin (decide (k = 7)) _ (by simp only [go_sem]) (by simp [nestsM, k3, k4])
  by_cases p4 : p = 4
  · subst p4
    simp only [go_sem]
    exact fin _ _ (by simp only [go_sem]; rfl) (by simp [nestsM])
  by_cases p5 : p = 5
  · subst p5
    simp only [go_sem]
    exact fin _ _ (by simp only [go_sem]; rfl) (by simp [nestsM])
  simp only [go_sem, p0, p1, p2, p3, p4, p5]
  exact fin _ _ (by simp only [go_sem]; rfl) (by simp [nestsM, p0, p1, p2, p3, p4, p5])
theorem spec42 (l m : List Wd) (hl : l.length ≤ 1000000) (H : AH) (Q : AV → AH → Prop) (h : Q (.bool (sameQ l m)) H) : ACalls Tryz.prog w0 42 [.slice (l.map eW), .slice (m.map eW)] H Q := by
  refine enter42 (by simp) fun hwf hok R hR hR0 => ?_
  have fin : ∀ b env', look 4 env' = .bool b → sameQ l m = b → R .ret env' H := fun b env' h2 h3 => hR _ _ _ rfl (.same (.refl hwf) (by rw [h2]; rfl) (by rw [h2, ← h3]; exact h))
  unfold x42
  cases c0 : decide (((l.map eW).length : Int) = ((m.map eW).length : Int)) with
  | false =>
    simp only [go_sem, c0, Bool.not_false]
    refine fin false _ (by simp only [go_sem]) ?_
    have : ¬l.length = m.length := by simp at c0; omega
    simp [sameQ, this]
  | true =>
    have hlm : l.length = m.length := by simp at c0; omega
    have hq : sameQ l m = sameL l m := by simp [sameQ, hlm]
    simp only [go_sem, c0, Bool.not_true]
    refine AX.iter (S := List Wd × List Wd × List Wd × List Wd) ttOk (fun a => [(0, .slice (l.map eW)), (1, .slice (m.map eW)), (5, .int .i64 a.1.length)]) (fun _ => H) (fun a => a.2.1.length) (fun a => a.1 ++ a.2.1 = l ∧ a.2.2.1 ++ a.2.2.2 = m ∧ a.1.length = a.2.2.1.length ∧ sameL a.2.1 a.2.2.2 = sameL l m) ([], l, [], m) ?_ rfl ⟨rfl, rfl, rfl, rfl⟩ ?_
    · simp only [go_sem]
    rintro ⟨pre, post, pre', post'⟩ ⟨h2, h3, h4, h5⟩ hk2 hwf2 K2 R2 hK2 hQ2
    simp only at h2 h3 h4 h5 hK2
    unfold l42_0
    rcases post with _ | ⟨k, ks⟩
    · have hb := ge_of h2 eW
      simp only [go_sem, hb]
      refine hQ2 _ _ _ ?_
      simp only [go_sem]
      exact fin true _ (by simp only [go_sem]) (by rw [hq, ← h5]; rfl)
    · rcases post' with _ | ⟨k', ks'⟩
      · exfalso; rw [← h2, ← h3] at hlm; simp at hlm; omega
      have hb := lt_of h2 eW
      have ha := at_of h2 eW
      have ha' := at_of h3 eW
      rw [← h4] at ha'
      have hl := len_of h2
      have hw : IntKind.i64.wrap ((pre.length : Int) + 1) = pre.length + 1 := wrap_i64.2 (by omega)
      have hs : sameL (k :: ks) (k' :: ks') = (decide (k = k') && sameL ks ks') := rfl
      cases c1 : decide (k = k') with
      | true =>
        simp only [go_sem, hb, dr42_0, ha, ha', hw, c1, Bool.not_true]
        refine ⟨by omega, by omega, ?_⟩
        refine hK2 _ _ (pre ++ [k], ks, pre' ++ [k'], ks') (by simp) ⟨snoc_of h2, snoc_of h3, by simp [h4], by rw [← h5, hs, c1]; rfl⟩ (.refl hwf2) (Nat.le_refl _) (Nat.le_refl _) ?_
        simp only [go_sem, len_snoc]
        try simp
      | false =>
        simp only [go_sem, hb, dr42_0, ha, ha', hw, c1, Bool.not_false]
        refine ⟨by omega, by omega, hQ2 _ _ _ ?_⟩
        simp only [go_sem]
        exact fin false _ (by simp only [go_sem]) (by rw [hq, ← h5, hs, c1]; rfl)
theorem spec49 (l m : List Step) (hl : l.length ≤ 1000000) (H : AH) (Q : AV → AH → Prop) (h : Q (.bool (sameQ l m)) H) : ACalls Tryz.prog w0 49 [.slice (l.map eS), .slice (m.map eS)] H Q := by
  refine enter49 (by simp) fun hwf hok R hR hR0 => ?_
  have fin : ∀ b env', look 4 env' = .bool b → sameQ l m = b → R .ret env' H := fun b env' h2 h3 => hR _ _ _ rfl (.same (.refl hwf) (by rw [h2]; rfl) (by rw [h2, ← h3]; exact h))
  unfold x49
  cases c0 : decide (((l.map eS).length : Int) = ((m.map eS).length : Int)) with
  | false =>
    simp only [go_sem, c0, Bool.not_false]
    refine fin false _ (by simp only [go_sem]) ?_
    have : ¬l.length = m.length := by simp at c0; omega
    simp [sameQ, this]
  | true =>
    have hlm : l.length = m.length := by simp at c0; omega
    have hq : sameQ l m = sameL l m := by simp [sameQ, hlm]
    simp only [go_sem, c0, Bool.not_true]
    refine AX.iter (S := List Step × List Step × List Step × List Step) ttOk (fun a => [(0, .slice (l.map eS)), (1, .slice (m.map eS)), (5, .int .i64 a.1.length)]) (fun _ => H) (fun a => a.2.1.length) (fun a => a.1 ++ a.2.1 = l ∧ a.2.2.1 ++ a.2.2.2 = m ∧ a.1.length = a.2.2.1.length ∧ sameL a.2.1 a.2.2.2 = sameL l m) ([], l, [], m) ?_ rfl ⟨rfl, rfl, rfl, rfl⟩ ?_
    · simp only [go_sem]
    rintro ⟨pre, post, pre', post'⟩ ⟨h2, h3, h4, h5⟩ hk2 hwf2 K2 R2 hK2 hQ2
    simp only at h2 h3 h4 h5 hK2
    unfold l49_0
    rcases post with _ | ⟨k, ks⟩
    · have hb := ge_of h2 eS
      simp only [go_sem, hb]
      refine hQ2 _ _ _ ?_
      simp only [go_sem]
      exact fin true _ (by simp only [go_sem]) (by rw [hq, ← h5]; rfl)
    · rcases post' with _ | ⟨k', ks'⟩
      · exfalso; rw [← h2, ← h3] at hlm; simp at hlm; omega
      have hb := lt_of h2 eS
      have ha := at_of h2 eS
      have ha' := at_of h3 eS
      rw [← h4] at ha'
      have hl := len_of h2
      have hw : IntKind.i64.wrap ((pre.length : Int) + 1) = pre.length + 1 := wrap_i64.2 (by omega)
      have hs : sameL (k :: ks) (k' :: ks') = (decide (k = k') && sameL ks ks') := rfl
      cases c1 : decide (k = k') with
      | true =>
        simp only [go_sem, hb, dr49_0, ha, ha', hw, c1, Bool.not_true]
        refine ⟨by omega, by omega, ?_⟩
        refine hK2 _ _ (pre ++ [k], ks, pre' ++ [k'], ks') (by simp) ⟨snoc_of h2, snoc_of h3, by simp [h4], by rw [← h5, hs, c1]; rfl⟩ (.refl hwf2) (Nat.le_refl _) (Nat.le_refl _) ?_
        simp only [go_sem, len_snoc]
        try simp
      | false =>
        simp only [go_sem, hb, dr49_0, ha, ha', hw, c1, Bool.not_false]
        refine ⟨by omega, by omega, hQ2 _ _ _ ?_⟩
        simp only [go_sem]
        exact fin false _ (by simp only [go_sem]) (by rw [hq, ← h5, hs, c1]; rfl)
theorem spec50 (l m : List ByteArray) (hl : l.length ≤ 1000000) (H : AH) (Q : AV → AH → Prop) (h : Q (.bool (sameQ l m)) H) : ACalls Tryz.prog w0 50 [.slice (l.map AV.str), .slice (m.map AV.str)] H Q := by
  refine enter50 (by simp) fun hwf hok R hR hR0 => ?_
  have fin : ∀ b env', look 4 env' = .bool b → sameQ l m = b → R .ret env' H := fun b env' h2 h3 => hR _ _ _ rfl (.same (.refl hwf) (by rw [h2]; rfl) (by rw [h2, ← h3]; exact h))
  unfold x50
  cases c0 : decide (((l.map AV.str).length : Int) = ((m.map AV.str).length : Int)) with
  | false =>
    simp only [go_sem, c0, Bool.not_false]
    refine fin false _ (by simp only [go_sem]) ?_
    have : ¬l.length = m.length := by simp at c0; omega
    simp [sameQ, this]
  | true =>
    have hlm : l.length = m.length := by simp at c0; omega
    have hq : sameQ l m = sameL l m := by simp [sameQ, hlm]
    simp only [go_sem, c0, Bool.not_true]
    refine AX.iter (S := List ByteArray × List ByteArray × List ByteArray × List ByteArray) ttOk (fun a => [(0, .slice (l.map AV.str)), (1, .slice (m.map AV.str)), (5, .int .i64 a.1.length)]) (fun _ => H) (fun a => a.2.1.length) (fun a => a.1 ++ a.2.1 = l ∧ a.2.2.1 ++ a.2.2.2 = m ∧ a.1.length = a.2.2.1.length ∧ sameL a.2.1 a.2.2.2 = sameL l m) ([], l, [], m) ?_ rfl ⟨rfl, rfl, rfl, rfl⟩ ?_
    · simp only [go_sem]
    rintro ⟨pre, post, pre', post'⟩ ⟨h2, h3, h4, h5⟩ hk2 hwf2 K2 R2 hK2 hQ2
    simp only at h2 h3 h4 h5 hK2
    unfold l50_0
    rcases post with _ | ⟨k, ks⟩
    · have hb := ge_of h2 AV.str
      simp only [go_sem, hb]
      refine hQ2 _ _ _ ?_
      simp only [go_sem]
      exact fin true _ (by simp only [go_sem]) (by rw [hq, ← h5]; rfl)
    · rcases post' with _ | ⟨k', ks'⟩
      · exfalso; rw [← h2, ← h3] at hlm; simp at hlm; omega
      have hb := lt_of h2 AV.str
      have ha := at_of h2 AV.str
      have ha' := at_of h3 AV.str
      rw [← h4] at ha'
      have hl := len_of h2
      have hw : IntKind.i64.wrap ((pre.length : Int) + 1) = pre.length + 1 := wrap_i64.2 (by omega)
      have hs : sameL (k :: ks) (k' :: ks') = (decide (k = k') && sameL ks ks') := rfl
      cases c1 : decide (k = k') with
      | true =>
        simp only [go_sem, hb, dr50_0, ha, ha', hw, c1, Bool.not_true]
        refine ⟨by omega, by omega, ?_⟩
        refine hK2 _ _ (pre ++ [k], ks, pre' ++ [k'], ks') (by simp) ⟨snoc_of h2, snoc_of h3, by simp [h4], by rw [← h5, hs, c1]; rfl⟩ (.refl hwf2) (Nat.le_refl _) (Nat.le_refl _) ?_
        simp only [go_sem, len_snoc]
        try simp
      | false =>
        simp only [go_sem, hb, dr50_0, ha, ha', hw, c1, Bool.not_false]
        refine ⟨by omega, by omega, hQ2 _ _ _ ?_⟩
        simp only [go_sem]
        exact fin false _ (by simp only [go_sem]) (by rw [hq, ← h5, hs, c1]; rfl)
end Go.Ai.Tryz
