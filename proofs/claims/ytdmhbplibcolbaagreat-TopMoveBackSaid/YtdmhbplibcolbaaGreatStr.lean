/- A part of the proof: no statement of the seat is proved in this text. -/
import Derived.Test.YtdmhbplibcolbaaGreatFnT
set_option linter.unusedVariables false
set_option linter.unusedSimpArgs false
namespace Go.Ai
open Go
def bts (s : ByteArray) : List Int := s.data.toList.map fun b => (b.toNat : Int)
theorem bts_len (s : ByteArray) : (bts s).length = s.size := by unfold bts; rw [List.length_map, Array.length_toList]; rfl
theorem byteAt_bts (s : ByteArray) (i : Nat) : byteAt s i = (bts s).getD i 0 := by
  simp only [byteAt, bts, List.getD_eq_getElem?_getD, List.getElem?_map]
  cases s.data.toList[i]? <;> simp
theorem byteAt_of {s : ByteArray} {pre post : List Int} {c : Int} (h : pre ++ c :: post = bts s) : byteAt s ((pre.length : Int)).toNat = c := by
  rw [byteAt_bts, ← h]; simp
theorem byteAt_of' {s : ByteArray} {pre post : List Int} {c : Int} (h : pre ++ c :: post = bts s) : byteAt s pre.length = c := by
  rw [byteAt_bts, ← h]; simp
theorem bts_range {s : ByteArray} {c : Int} (h : c ∈ bts s) : 0 ≤ c ∧ c ≤ 255 := by
  simp only [bts, List.mem_map] at h
  obtain ⟨b, _, rfl⟩ := h
  have := UInt8.toNat_lt b
  omega
theorem slt_of {s : ByteArray} {pre post : List Int} {c : Int} (h : pre ++ c :: post = bts s) : decide ((pre.length : Int) < (s.size : Int)) = true := by
  rw [← bts_len, ← h]; simp; omega
theorem slt_of' {s : ByteArray} {pre post : List Int} {c : Int} (h : pre ++ c :: post = bts s) : (pre.length : Int) < (s.size : Int) := by
  rw [← bts_len, ← h]; simp; omega
theorem sge_of {s : ByteArray} {pre : List Int} (h : pre ++ [] = bts s) : decide ((pre.length : Int) < (s.size : Int)) = false := by
  rw [← bts_len, ← h]; simp
def isDig (c : Int) : Bool := decide (48 ≤ c) && decide (c ≤ 57)
def isCap (c : Int) : Bool := decide (65 ≤ c) && decide (c ≤ 90)
def digs : List Int → Nat
  | [] => 0
  | c :: l => if isDig c then digs l + 1 else 0
theorem digs_le (l : List Int) : digs l ≤ l.length := by
  induction l with
  | nil => simp [digs]
  | cons c l ih => simp only [digs]; split <;> simp <;> omega
def labelOk (s : ByteArray) : Bool :=
  decide (1 ≤ digs (bts s)) && decide (digs (bts s) ≤ 4) && !decide (byteAt s 0 = 48) && decide (s.size - digs (bts s) ≤ 3) && ((bts s).drop (digs (bts s))).all isCap
end Go.Ai
namespace Go.Ai.Tryz
open Go Go.Ai Go.Proofs
variable {w0 : World}
theorem spec56 (s : ByteArray) (H : AH) (Q : AV → AH → Prop) (h : Q (.int .i64 (digs (bts s))) H) : ACalls Tryz.prog w0 56 [.str s] H Q := by
  refine enter56 (by simp) fun hwf hok R hR hR0 => ?_
  have hlen := (hok (.str s) (by simp)).str
  unfold x56
  simp only [go_sem]
  refine AX.iter0 (S := List Int × List Int) ttOk (fun s' => [(0, .str s), (3, .int .i64 s'.1.length)]) (fun s => s.2.length)
    (fun s' => s'.1 ++ s'.2 = bts s ∧ digs s'.2 + s'.1.length = digs (bts s)) ([], bts s) ?_ ⟨rfl, rfl⟩ ?_
  · simp [go_sem]
  · rintro ⟨pre, post⟩ ⟨h2, h3⟩ hk hwf' K R' hK hQ
    simp only at h2 h3 ⊢
    unfold l56_0
    rcases post with _ | ⟨c, ks⟩
    · have hb := sge_of h2
      simp only [go_sem, hb]
      refine hQ _ _ _ ?_
      simp only [go_sem]
      refine hR _ _ _ rfl (.same (.refl hwf) rfl ?_)
      simp only [digs, Nat.zero_add] at h3
      simp only [look]
      simp
      rw [h3]; exact h
    · have hb := slt_of h2
      have hb' := slt_of' h2
      have ha := byteAt_of h2
      have hend : ∀ env', digs (c :: ks) = 0 → look 3 env' = .int .i64 pre.length → R' (.exit 0) env' H := fun env' h4 h5 => by
        refine hQ _ _ _ ?_
        simp only [go_sem, h5]
        refine hR _ _ _ rfl (.same (.refl hwf) rfl ?_)
        rw [h4, Nat.zero_add] at h3
        simp only [look]
        simp
        rw [h3]; exact h
      by_cases hd : isDig c = true
      · have hd' := hd
        simp only [isDig, Bool.and_eq_true, decide_eq_true_eq] at hd'
        have e1 : decide (c ≥ 48) = true := by simp; omega
        have e2 : decide (c ≤ 57) = true := by simp; omega
        simp only [go_sem, hb, ha, e1, e2]
        repeat refine ⟨⟨by omega, by omega⟩, ?_⟩
        rw [wrap_i64.2 (by omega)]
        refine hK _ _ (pre ++ [c], ks) (by simp) ⟨snoc_of h2, ?_⟩ (.refl hwf') ?_
        · simp [digs, hd] at h3 ⊢; omega
        · simp only [go_sem, len_snoc]
      · have h0 : digs (c :: ks) = 0 := by simp [digs, hd]
        by_cases hc : 48 ≤ c
        · have e1 : decide (c ≥ 48) = true := by simp; omega
          have e2 : decide (c ≤ 57) = false := by simp [isDig] at hd ⊢; omega
          simp only [go_sem, hb, ha, e1, e2]
          repeat refine ⟨⟨by omega, by omega⟩, ?_⟩
          exact hend _ h0 (by simp only [go_sem])
        · have e1 : decide (c ≥ 48) = false := by simp; omega
          simp only [go_sem, hb, ha, e1]
          repeat refine ⟨⟨by omega, by omega⟩, ?_⟩
          exact hend _ h0 (by simp only [go_sem])
theorem spec25 (s : ByteArray) (H : AH) (Q : AV → AH → Prop) (h : Q (.bool (labelOk s)) H) : ACalls Tryz.prog w0 25 [.str s] H Q := by
  refine enter25 (by simp) fun hwf hok R hR hR0 => ?_
  have hlen := (hok (.str s) (by simp)).str
  have hdl := digs_le (bts s)
  rw [bts_len] at hdl
  have fin : ∀ b env', labelOk s = b → look 2 env' = .bool b → R .ret env' H := fun b env' h1 h2 => hR _ _ _ rfl (.same (.refl hwf) (by rw [h2]; rfl) (by rw [h2, ← h1]; exact h))
  have h48 : 1 ≤ digs (bts s) → 0 < s.size := fun h => by omega
  unfold x25
  simp only [go_sem]
  refine spec56 s _ _ ?_
  simp only [go_sem]
  generalize hn : digs (bts s) = n at *
  have hbd : IntKind.i64.wrap ((s.size : Int) - n) = (s.size : Int) - n := wrap_i64.2 (by omega)
  simp only [decide_eq_true_eq, decide_eq_false_iff_not, hbd]
  refine ⟨fun c1 => ⟨fun c2 => ?_, fun c2 => ?_⟩, fun c1 => ?_⟩
  · refine ⟨by omega, fun c3 => ⟨fun c4 => ?_, fun c4 => ?_⟩, fun c3 => ?_⟩
    · exact fin false _ (by simp [labelOk, hn]; omega) (by simp only [go_sem])
    · refine AX.iter0 (S := List Int × List Int) ttOk (fun s' => [(0, .str s), (4, .int .i64 s'.1.length)]) (fun s => s.2.length)
        (fun s' => s'.1 ++ s'.2 = bts s ∧ s'.2.all isCap = ((bts s).drop n).all isCap) ((bts s).take n, (bts s).drop n) ?_ ⟨List.take_append_drop _ _, rfl⟩ ?_
      · simp only [go_sem, List.length_take, bts_len, Nat.min_eq_left hdl]
      · rintro ⟨pre, post⟩ ⟨h2, h3⟩ hk hwf' K R' hK hQ
        simp only at h2 h3 ⊢
        unfold l25_0
        have hlab : labelOk s = post.all isCap := by
          have c5 : 1 ≤ n := by omega
          have c6 : n ≤ 4 := by omega
          have c7 : s.size - n ≤ 3 := by omega
          simp [labelOk, hn, c5, c6, c7, c3, h3]
        rcases post with _ | ⟨c, ks⟩
        · have hb := sge_of h2
          simp only [go_sem, hb]
          refine hQ _ _ _ ?_
          simp only [go_sem]
          exact fin true _ hlab (by simp only [go_sem])
        · have hb := slt_of h2
          have hb' := slt_of' h2
          have ha := byteAt_of h2
          simp only [go_sem, hb, ha]
          simp only [decide_eq_true_eq, decide_eq_false_iff_not]
          have hret : ∀ env', isCap c = false → look 2 env' = .bool false → R' .ret env' H := fun env' h1 h2 => by
            refine hQ _ _ _ ?_
            simp only [go_sem]
            exact fin false _ (by rw [hlab, List.all_cons, h1]; rfl) h2
          refine ⟨⟨by omega, by omega⟩, fun h6 => ⟨⟨by omega, by omega⟩, fun h7 => ?_, fun h7 => ?_⟩, fun h6 => ?_⟩
          · exact hret _ (by simp [isCap]; omega) (by simp only [go_sem])
          · rw [wrap_i64.2 (by omega)]
            have h8 : isCap c = true := by simp [isCap]; omega
            refine hK _ _ (pre ++ [c], ks) (by simp) ⟨snoc_of h2, by rw [← h3, List.all_cons, h8]; rfl⟩ (.refl hwf') ?_
            simp only [go_sem, len_snoc]
          · exact hret _ (by simp [isCap]; omega) (by simp only [go_sem])
    · exact fin false _ (by simp [labelOk, c3]) (by simp only [go_sem])
  · exact fin false _ (by simp [labelOk, hn]; omega) (by simp only [go_sem])
  · exact fin false _ (by simp [labelOk, hn]; omega) (by simp only [go_sem])
end Go.Ai.Tryz

set_option linter.unusedVariables false
set_option linter.unusedSimpArgs false
namespace Go.Ai
open Go
theorem get_bts {s : ByteArray} {pre post : List Int} {c : Int} (h : pre ++ c :: post = bts s) : ((s.get! pre.length).toNat : Int) = c := by
  have h1 := byteAt_of' h
  have hl : pre.length < s.size := by have := slt_of' h; omega
  rw [← h1, byteAt]
  have e : s.get! pre.length = s.data.toList.getD pre.length 0 := by
    show s.data[pre.length]! = _
    have hl' : pre.length < s.data.size := hl
    rw [getElem!_pos s.data _ hl', List.getD_eq_getElem?_getD, Array.getElem?_toList, Array.getElem?_eq_getElem hl']
    rfl
  rw [e]
theorem decode_small {s : ByteArray} {pre post : List Int} {c : Int} (h : pre ++ c :: post = bts s) (hc : c < 128) : (((Utf8.decode s pre.length).1 : Nat) : Int) = c ∧ (Utf8.decode s pre.length).2 = 1 := by
  have h1 := get_bts h
  have e : (s.get! (pre.length + 0)).toNat < 128 := by simp; omega
  simp only [Utf8.decode, e, if_true]
  exact ⟨by simpa using h1, trivial⟩
theorem decode_big {s : ByteArray} {pre post : List Int} {c : Int} (h : pre ++ c :: post = bts s) (hc : ¬ c < 128) : 128 ≤ (Utf8.decode s pre.length).1 := by
  have h1 := get_bts h
  have e : ¬ (s.get! (pre.length + 0)).toNat < 128 := by simp; omega
  simp only [Utf8.decode, e, if_false]
  repeat' split
  all_goals (try simp only [Bool.and_eq_true, decide_eq_true_eq, ge_iff_le, Nat.add_zero] at *) <;> (try simp only [Utf8.runeError]) <;> omega
def idxM (p : Int → Bool) : List Int → Nat → Int
  | [], _ => -1
  | c :: l, n => if p c then n else idxM p l (n + 1)
end Go.Ai
namespace Go.Ai.Tryz
open Go Go.Ai Go.Proofs
variable {w0 : World}
theorem spec119 (s : ByteArray) (f : FuncId) (p : Int → Bool) (hp : ∀ (r : Int) (H : AH) (Q : AV → AH → Prop), Q (.bool (p r)) H → ACalls Tryz.prog w0 f [.int .i32 r] H Q) (hbig : ∀ r, 128 ≤ r → p r = true)
    (H : AH) (Q : AV → AH → Prop) (h : Q (.int .i64 (idxM p (bts s) 0)) H) : ACalls Tryz.prog w0 119 [.str s, .fn f [], .bool true] H Q := by
  refine enter119 (by simp) fun hwf hok R hR hR0 => ?_
  have hlen := (hok (.str s) (by simp)).str
  unfold x119
  simp only [go_sem]
  refine AX.iter (S := List Int × List Int) ttOk (fun s' => [(1, .fn f []), (2, .bool true), (10, .ptr H.n 0)]) (fun s' => H.push (.iter s s'.1.length)) (fun s => s.2.length)
    (fun s' => s'.1 ++ s'.2 = bts s ∧ idxM p s'.2 s'.1.length = idxM p (bts s) 0) ([], bts s) ?_ rfl ⟨rfl, rfl⟩ ?_
  · simp only [go_sem]
  · rintro ⟨pre, post⟩ ⟨h2, h3⟩ hk hwf' K R' hK hQ
    simp only at h2 h3 hK ⊢
    unfold l119_0
    simp only [go_sem]
    refine ⟨hlen, fun h4 => ?_, fun h4 => ?_⟩
    · rcases post with _ | ⟨c, ks⟩
      · have := sge_of h2; simp at this; omega
      refine hp _ _ _ ?_
      simp only [go_sem, put_push_self]
      have hret : ∀ env', p c = true → look 6 env' = .int .i64 pre.length → ∀ n, R' .ret env' (H.push (.iter s n)) := fun env' h5 h6 n => by
        refine hQ _ _ _ ?_
        simp only [go_sem]
        have e : idxM p (bts s) 0 = pre.length := by rw [← h3]; simp [idxM, h5]
        exact hR _ _ _ rfl (.same (.push (.refl hwf) _) (by rw [h6]; rfl) (by rw [h6, ← e]; exact h))
      by_cases hc : c < 128
      · obtain ⟨d1, d2⟩ := decode_small h2 hc
        simp only [d1, d2]
        by_cases hpc : p c = true
        · simp only [go_sem, hpc]
          exact hret _ hpc (by simp only [go_sem]) _
        · have hpc' : p c = false := by simpa using hpc
          simp only [go_sem, hpc']
          refine hK _ _ (pre ++ [c], ks) (by simp) ⟨snoc_of h2, by rw [← h3]; simp [idxM, hpc']⟩ ?_ ?_ ?_ ?_
          · simp only [List.length_append, List.length_singleton]
            exact .refl (WF_push_iter hwf _ _)
          · simp [push_n]
          · simp [push_m]
          · simp only [go_sem]
            simp
      · have d1 := decode_big h2 hc
        have e1 : p ((Utf8.decode s pre.length).1 : Nat) = true := hbig _ (by omega)
        simp only [go_sem, e1]
        exact hret _ (hbig c (by omega)) (by simp only [go_sem]) _
    · rcases post with _ | ⟨c, ks⟩
      · refine hQ _ _ _ ?_
        simp only [go_sem]
        refine hR _ _ _ rfl (.same (.push (.refl hwf) _) rfl ?_)
        simp only [idxM] at h3
        simp only [look]
        simp
        rw [h3]; exact h
      · have := slt_of' h2; omega
def notDig (r : Int) : Bool := decide (r < 48) || decide (57 < r)
def notCap (r : Int) : Bool := decide (r < 65) || decide (90 < r)
theorem spec118 (r : Int) (H : AH) (Q : AV → AH → Prop) (h : Q (.bool (notDig r)) H) : ACalls Tryz.prog w0 118 [.int .i32 r] H Q := by
  refine enter118 (by simp) fun hwf hok R hR hR0 => ?_
  unfold x118
  simp only [go_sem]
  simp only [decide_eq_true_eq, decide_eq_false_iff_not]
  refine ⟨fun h1 => ?_, fun h1 => ?_⟩
  · refine hR _ _ _ rfl (.same (.refl hwf) rfl ?_)
    have e : notDig r = decide (57 < r) := by simp [notDig, h1]
    simp only [look]; simp; rw [← e]; exact h
  · refine hR _ _ _ rfl (.same (.refl hwf) rfl ?_)
    have e : notDig r = true := by simp [notDig, h1]
    simp only [look]; simp; rw [← e]; exact h
theorem spec114 (r : Int) (H : AH) (Q : AV → AH → Prop) (h : Q (.bool (notCap r)) H) : ACalls Tryz.prog w0 114 [.int .i32 r] H Q := by
  refine enter114 (by simp) fun hwf hok R hR hR0 => ?_
  unfold x114
  simp only [go_sem]
  simp only [decide_eq_true_eq, decide_eq_false_iff_not]
  refine ⟨fun h1 => ?_, fun h1 => ?_⟩
  · refine hR _ _ _ rfl (.same (.refl hwf) rfl ?_)
    have e : notCap r = decide (90 < r) := by simp [notCap, h1]
    simp only [look]; simp; rw [← e]; exact h
  · refine hR _ _ _ rfl (.same (.refl hwf) rfl ?_)
    have e : notCap r = true := by simp [notCap, h1]
    simp only [look]; simp; rw [← e]; exact h
theorem spec117 (s : ByteArray) (f : FuncId) (p : Int → Bool) (hp : ∀ (r : Int) (H : AH) (Q : AV → AH → Prop), Q (.bool (p r)) H → ACalls Tryz.prog w0 f [.int .i32 r] H Q) (hbig : ∀ r, 128 ≤ r → p r = true)
    (H : AH) (Q : AV → AH → Prop) (h : Q (.int .i64 (idxM p (bts s) 0)) H) : ACalls Tryz.prog w0 117 [.str s, .fn f []] H Q := by
  refine enter117 (by simp) fun hwf hok R hR hR0 => ?_
  unfold x117
  simp only [go_sem]
  refine spec119 s f p hp hbig _ _ ?_
  simp only [go_sem]
  exact hR _ _ _ rfl (.same (.refl hwf) rfl h)
theorem spec115 (s : ByteArray) (f : FuncId) (p : Int → Bool) (hp : ∀ (r : Int) (H : AH) (Q : AV → AH → Prop), Q (.bool (p r)) H → ACalls Tryz.prog w0 f [.int .i32 r] H Q) (hbig : ∀ r, 128 ≤ r → p r = true)
    (H : AH) (Q : AV → AH → Prop) (h : Q (.bool (decide (0 ≤ idxM p (bts s) 0))) H) : ACalls Tryz.prog w0 115 [.str s, .fn f []] H Q := by
  refine enter115 (by simp) fun hwf hok R hR hR0 => ?_
  unfold x115
  simp only [go_sem]
  refine spec117 s f p hp hbig _ _ ?_
  simp only [go_sem]
  exact hR _ _ _ rfl (.same (.refl hwf) rfl h)
theorem idx_dig (l : List Int) (n : Nat) : idxM notDig l n = if digs l = l.length then (-1 : Int) else ((n + digs l : Nat) : Int) := by
  induction l generalizing n with
  | nil => simp [idxM, digs]
  | cons c l ih =>
    by_cases hc : isDig c = true
    · have e : notDig c = false := by simp [isDig, notDig] at hc ⊢; omega
      simp only [idxM, e, Bool.false_eq_true, if_false, ih, digs, hc, if_true, List.length_cons, Nat.add_right_cancel_iff]
      split
      · rfl
      · omega
    · have e : notDig c = true := by simp [isDig, notDig] at hc ⊢; omega
      simp [idxM, e, digs, hc]
theorem idx_cap (l : List Int) (n : Nat) : decide (0 ≤ idxM notCap l n) = !l.all isCap := by
  induction l generalizing n with
  | nil => simp [idxM]
  | cons c l ih =>
    by_cases hc : isCap c = true
    · have e : notCap c = false := by simp [isCap, notCap] at hc ⊢; omega
      simp only [idxM, e, Bool.false_eq_true, if_false, ih, List.all_cons, hc, Bool.true_and]
    · have e : notCap c = true := by simp [isCap, notCap] at hc ⊢; omega
      simp [idxM, e, hc]
theorem bts_extract (s : ByteArray) (a b : Nat) : bts (s.extract a b) = ((bts s).drop a).take (b - a) := by
  unfold bts
  rw [ByteArray.data_extract]
  simp
def preOf (s : ByteArray) : ByteArray := s.extract 0 (digs (bts s))
def sufOf (s : ByteArray) : ByteArray := s.extract (digs (bts s)) s.size
theorem spec113 (s : ByteArray) (H : AH) (Q : AV → AH → Prop) (h : ∀ a b : ByteArray, bts a = (bts s).take (digs (bts s)) → bts b = (bts s).drop (digs (bts s)) → Q (.tup [.str a, .str b]) H) : ACalls Tryz.prog w0 113 [.str s] H Q := by
  refine enter113 (by simp) fun hwf hok R hR hR0 => ?_
  have hlen := (hok (.str s) (by simp)).str
  have hdl := digs_le (bts s)
  have hbl := bts_len s
  unfold x113
  simp only [go_sem]
  refine spec117 s 118 notDig spec118 (by intro r hr; simp [notDig]; omega) _ _ ?_
  simp only [go_sem]
  rw [idx_dig]
  by_cases hd : digs (bts s) = (bts s).length
  · rw [if_pos hd]
    simp only [go_sem]
    refine hR _ _ _ ⟨_, ⟨_, _, rfl, ⟨_, _, rfl, rfl, rfl⟩, rfl⟩, rfl⟩ (.same (.refl hwf) rfl ?_)
    exact h _ _ (by rw [hd, List.take_length]) (by rw [hd, List.drop_length]; rfl)
  · rw [if_neg hd]
    have e1 : decide (((0 + digs (bts s) : Nat) : Int) < 0) = false := by simp
    simp only [go_sem, e1, dr113_0]
    refine ⟨by omega, by omega, ?_⟩
    refine hR _ _ _ ⟨_, ⟨_, _, rfl, ⟨_, _, rfl, rfl, rfl⟩, rfl⟩, rfl⟩ (.same (.refl hwf) rfl ?_)
    refine h _ _ ?_ ?_
    · rw [bts_extract]; simp
    · rw [bts_extract, ← hbl]; simp; rw [List.take_of_length_le (by simp)]
theorem spec110 (s : ByteArray) (H : AH) (Q : AV → AH → Prop) (h : Q (.bool (labelOk s)) H) : ACalls Tryz.prog w0 110 [.str s] H Q := by
  refine enter110 (by simp) fun hwf hok R hR hR0 => ?_
  have hlen := (hok (.str s) (by simp)).str
  have hdl := digs_le (bts s)
  have hbl := bts_len s
  unfold x110
  simp only [go_sem]
  refine spec113 s _ _ fun a b ha hb => ?_
  have la := bts_len a
  have lb := bts_len b
  rw [ha, List.length_take, Nat.min_eq_left hdl] at la
  rw [hb, List.length_drop, hbl] at lb
  have ha0 : 1 ≤ digs (bts s) → byteAt a 0 = byteAt s 0 := fun h1 => by
    rw [byteAt_bts, byteAt_bts, ha, List.getD_eq_getElem?_getD, List.getD_eq_getElem?_getD, List.getElem?_take, if_pos (by omega)]
  simp only [go_sem]
  simp only [decide_eq_true_eq, decide_eq_false_iff_not]
  have fin : ∀ v env', labelOk s = v → look 2 env' = .bool v → R .ret env' H := fun v env' h1 h2 => hR _ _ _ rfl (.same (.refl hwf) (by rw [h2]; rfl) (by rw [h2, ← h1]; exact h))
  refine ⟨fun h1 => ⟨fun h2 => ⟨by omega, fun h3 => ⟨fun h4 => ?_, fun h4 => ?_⟩, fun h3 => ?_⟩, fun h2 => ?_⟩, fun h1 => ?_⟩
  · refine spec115 b 114 notCap spec114 (by intro r hr; simp [notCap]; omega) _ _ ?_
    simp only [go_sem]
    refine fin _ _ ?_ (by simp only [go_sem]; rfl)
    rw [idx_cap, hb]
    have e1 : 1 ≤ digs (bts s) := by omega
    have e2 : digs (bts s) ≤ 4 := by omega
    have e3 : ¬ byteAt s 0 = 48 := by rw [← ha0 e1]; simpa using h3
    have e4 : s.size - digs (bts s) ≤ 3 := by omega
    simp [labelOk, e1, e2, e3, e4]
  · exact fin false _ (by simp [labelOk]; omega) (by simp only [go_sem])
  · exact fin false _ (by have e1 : 1 ≤ digs (bts s) := by omega
                          have e3 : byteAt s 0 = 48 := by rw [← ha0 e1]; simpa using h3
                          simp [labelOk, e3]) (by simp only [go_sem])
  · exact fin false _ (by simp [labelOk]; omega) (by simp only [go_sem])
  · exact fin false _ (by simp [labelOk]; omega) (by simp only [go_sem])
end Go.Ai.Tryz
