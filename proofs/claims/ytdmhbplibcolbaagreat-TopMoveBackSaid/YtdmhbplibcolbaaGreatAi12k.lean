/- A part of the proof: no statement of the seat is proved in this text. -/
import Derived.Test.YtdmhbplibcolbaaGreatAi12j
set_option linter.unusedVariables false
set_option linter.unusedSimpArgs false
namespace Go.Ai
open Go Go.RowKit
def tafter (k : Nat) (af : List (List Nat)) : Bool :=
  (List.range k).all (fun j => (af.getD k []).contains j && (af.getD (k + 1) []).contains j && (af.getD (k + 2) []).contains j && (af.getD (k + 3) []).contains j) &&
  (af.getD (k + 1) []).contains k && (af.getD (k + 2) []).contains k && (af.getD (k + 2) []).contains (k + 1) && (af.getD (k + 3) []).contains k &&
  (af.getD k []).all (· < k) && (af.getD (k + 1) []).all (· < k + 1) && (af.getD (k + 2) []).all (· < k + 2) && (af.getD (k + 3) []).all (· < k + 3)
def dtail (l : List XOp) : Bool := l.any fun o => match o.xo with | .buildSlice _ 1 [(_, .const (.agg _))] => true | _ => false
def tends (d p s z n x q : Nat) (t e : TypeId) : List XOp := [⟨some d, .append t (.tmp s) (.tmp z), none⟩, ⟨some p, .indexAddr t (.tmp d) (.tmp n), none⟩, ⟨none, .store e (.tmp p) (.tmp x), none⟩, ⟨none, .store t (.tmp q) (.tmp d), none⟩]
def tne (d p n x q : Nat) : Bool := n != d && x != d && q != d && d != p && x != p && q != p
def TailK (d p s z n x q : Nat) (e : TypeId) (j : TyI) (env : Env) (H : AH) (K : Env → AH → Prop) : Prop :=
  ∃ (l0 : List AV) (tk : Nat) (Z X : AV) (id off : Nat) (cs : List AV) (te : TypeId), look s env = .own l0 tk ∧ (look z env).elems = some [Z] ∧ look n env = .int .i64 l0.length ∧ look x env = X ∧ look q env = .ptr id off ∧
    (Z.cells.length = j.size ∧ Z.cells.all AV.scal = true) ∧ (X.cells.length = j.size ∧ X.cells.all AV.scal = true) ∧ H.tok tk = some ⟨l0.length, e, j.size⟩ ∧ H.obj id = some (.cells cs te) ∧ off < cs.length ∧
    (l0.length + 1) * j.bytes ≤ 140737488355328 ∧ l0.length + 1 ≤ 281474976710656 ∧
    K ((p, .any) :: (d, .own (l0 ++ [X]) tk) :: env) ((H.putTok tk ⟨l0.length + 1, e, j.size⟩).put id (.cells (cs.take off ++ [.own (l0 ++ [X]) tk] ++ cs.drop (off + 1)) te))
section
variable {P : Program} {w0 : World} {tt : TT} {N : Nat}
theorem kclash_zero (q : Nat) : kclash q 0 = false := by unfold kclash; split <;> simp_all
theorem getD_map_at {α β : Type} [Inhabited β] {f : α → β} {l : List α} {i : Nat} {o : α} (h : l[i]? = some o) (b : β) : (l.map f).getD i b = f o := by
  rw [List.getD_eq_getElem?_getD, List.getElem?_map, h]; rfl
theorem wp_drawE (htt : TtOk P tt) (hm : P.follows .mixedOrders = true) {id : Nat} {ops : Array Oper} {Q : Exit → Act → World → Prop} {env : Env} {H : AH} {K : Env → AH → Prop} (hd : dstOk N (.region id ops true) = true)
    {lp : List XOp} {d p s z n x q : Nat} {t e : TypeId} {i j : TyI} (hl : ops.toList.map (xop ops) = lp ++ tends d p s z n x q t e)
    (hck : dcheck lp ((ops.toList.map afters).take lp.length) = true) (hta : tafter lp.length (ops.toList.map afters) = true) (hne : tne d p n x q = true)
    (hi : tt t = some i) (hu : i.u = .slice e) (hj : tt e = some j) (hi1 : i.size = 1) (hj0 : 0 < j.size)
    (h : drun P w0 tt 0 lp [] env H fun T env' H' => dclear T (dpairs lp ((ops.toList.map afters).take lp.length)) ∧ TailK d p s z n x q e j env' H' K)
    {G : Gh} {a : Act} {w : World} (hS : Sim w0 G H w) (hE : EnvRep G N env a.tmps) (had : a.defers = [])
    (hk : ∀ (G' : Gh) (a' : Act) (w' : World) (env' : Env) (H' : AH), G.le G' → Sim w0 G' H' w' → EnvRep G' N env' a'.tmps → a'.defers = [] → K env' H' → Q .normal a' w') : (Code.region id ops true).wp P Q a w := by
  obtain ⟨k, hkl⟩ : ∃ k, k = lp.length := ⟨_, rfl⟩
  rw [← hkl] at hck hta h
  have hsize : ops.size = k + 4 := by
    have := congrArg List.length hl
    simp [tends] at this; omega
  have hat : ∀ (i : Nat) (o : Oper), ops[i]? = some o → (lp ++ tends d p s z n x q t e)[i]? = some (xop ops o) := by
    intro i o ho
    rw [← hl, List.getElem?_map, Array.getElem?_toList, ho]; rfl
  have haf : ∀ (i : Nat) (o : Oper), ops[i]? = some o → ((ops.toList.map afters).getD i []) = afters o := by
    intro i o ho
    rw [List.getD_eq_getElem?_getD, List.getElem?_map, Array.getElem?_toList, ho]; rfl
  have haf' : ∀ (i : Nat) (o : Oper), i < k → ops[i]? = some o → (((ops.toList.map afters).take k).getD i []) = afters o := by
    intro i o hik ho
    rw [← haf i o ho, List.getD_eq_getElem?_getD, List.getD_eq_getElem?_getD, List.getElem?_take, if_pos hik]
  obtain ⟨pl, env', H', T', g1, g2, g3, g4, g5, g6, g7⟩ := drun_rel lp 0 [] env H _ (fun i => lp.getD i default) (fun k o hk => by simp [List.getD_eq_getElem?_getD, hk]) (fun _ _ => rfl) h
  obtain ⟨l0, tk, Z, X, id', off, cs, te, q1, q2, q3, q4, q5, q6, q7, q8, q9, q10, q11, q12, q13⟩ := g7
  simp only [tne, Bool.and_eq_true, bne_iff_ne, ne_eq] at hne
  obtain ⟨⟨⟨⟨⟨n1, n2⟩, n3⟩, n4⟩, n5⟩, n6⟩ := hne
  simp only [tafter, List.all_eq_true, List.mem_range, Bool.and_eq_true, decide_eq_true_eq, List.contains_eq_mem] at hta
  obtain ⟨⟨⟨⟨⟨⟨⟨⟨t0, t1⟩, t2⟩, t3⟩, t4⟩, t5⟩, t6⟩, t7⟩, t8⟩ := hta
  simp only [dcheck, List.all_eq_true, List.mem_range, Bool.and_eq_true, decide_eq_true_eq, Bool.or_eq_true] at hck
  rw [← hkl] at hck
  have hdd : ∀ o ∈ ops, ∀ d, o.dst = some d → d < N := fun o ho d hdo => by
    simp only [dstOk, List.all_eq_true] at hd
    have := hd o (Array.mem_def.1 ho)
    rw [hdo] at this
    simpa using this
  have o0 : ops[k]? = some ops[k] := Array.getElem?_eq_getElem (by omega)
  have o1 : ops[k + 1]? = some ops[k + 1] := Array.getElem?_eq_getElem (by omega)
  have o2 : ops[k + 2]? = some ops[k + 2] := Array.getElem?_eq_getElem (by omega)
  have o3 : ops[k + 3]? = some ops[k + 3] := Array.getElem?_eq_getElem (by omega)
  have x0 : xop ops ops[k] = ⟨some d, .append t (.tmp s) (.tmp z), none⟩ := by
    have := hat _ _ o0
    rw [List.getElem?_append_right (by omega), show k - lp.length = 0 by omega] at this
    simpa [tends] using this.symm
  have x1 : xop ops ops[k + 1] = ⟨some p, .indexAddr t (.tmp d) (.tmp n), none⟩ := by
    have := hat _ _ o1
    rw [List.getElem?_append_right (by omega), show k + 1 - lp.length = 1 by omega] at this
    simpa [tends] using this.symm
  have x2 : xop ops ops[k + 2] = ⟨none, .store e (.tmp p) (.tmp x), none⟩ := by
    have := hat _ _ o2
    rw [List.getElem?_append_right (by omega), show k + 2 - lp.length = 2 by omega] at this
    simpa [tends] using this.symm
  have x3 : xop ops ops[k + 3] = ⟨none, .store t (.tmp q) (.tmp d), none⟩ := by
    have := hat _ _ o3
    rw [List.getElem?_append_right (by omega), show k + 3 - lp.length = 3 by omega] at this
    simpa [tends] using this.symm
  rw [haf _ _ o0] at t0 t5
  rw [haf _ _ o1] at t0 t1 t6
  rw [haf _ _ o2] at t0 t2 t3 t7
  rw [haf _ _ o3] at t0 t4 t8
  have hol : ∀ (i : Nat) (o : Oper), i < k → ops[i]? = some o → (lp.getD i default) = xop ops o := by
    intro i o hik ho
    have := hat i o ho
    rw [List.getElem?_append_left (by omega)] at this
    rw [List.getD_eq_getElem?_getD, this]; rfl
  have hlenpl : pl.length = k := by have := congrArg List.length g1; simpa [← hkl] using this
  have hfst : ∀ x (hx : x < pl.length), pl[x].1 = x := by
    intro x hx
    have : (pl.map (·.1))[x]'(by simpa using hx) = (List.range' 0 lp.length)[x]'(by simp; omega) := by simp only [g1]
    simpa using this
  refine wp_region_any hm ?_
  have main := draw_prefix (N := N) (rest := 4) (Q := Q) (k := k) htt (by omega) hdd hol (fun i o hik ho j hj => ?_) (fun i o ho hki j hj => ?_) k (Array.replicate ops.size false) pl env H env' H' G a w.drew (by simp) (fun j hj1 hj2 => by simp [Array.getD_eq_getD_getElem?, Array.getElem?_replicate, hj2]) (fun j => ?_) ?_ ?_ hlenpl.symm g2 (Sim.drew hS) hE had
    fun G' a' w' ls k1 k2 k3 k4 k5 k6 => draw_tail htt hsize o0 o1 o2 o3 x0 x1 x2 x3 t1 t2 t3 t4 t5 t6 t7 t8 (hdd _ (Array.mem_of_getElem? o0) d (by have := congrArg XOp.dst x0; simpa [xop] using this)) (hdd _ (Array.mem_of_getElem? o1) p (by have := congrArg XOp.dst x1; simpa [xop] using this)) hi hu hj hi1 hj0 q1 q2 q3 q4 q5 q6 q7 q8 q9 q10 q11 q12 n1 n2 n3 n4 n5 n6 k2 k3 k4 k5 k6
      fun G'' a'' w'' j1 j2 j3 j4 => hk G'' a'' w'' _ _ (k1.trans j1) j2 j3 j4 q13
  · rw [hsize] at main ⊢; exact main
  · have := (hck i hik).1 j (by rw [haf' i o hik ho]; exact hj)
    exact this
  · have hlt := (Array.getElem?_eq_some_iff.1 ho).1
    have := t0 j hj
    rcases (show i = k ∨ i = k + 1 ∨ i = k + 2 ∨ i = k + 3 by omega) with rfl | rfl | rfl | rfl
    · rw [o0] at ho; cases ho; exact this.1.1.1
    · rw [o1] at ho; cases ho; exact this.1.1.2
    · rw [o2] at ho; cases ho; exact this.1.2
    · rw [o3] at ho; cases ho; exact this.2
  · rw [g1, List.mem_range']
    simp only [Array.getD_eq_getD_getElem?]
    constructor
    · rintro ⟨m, hm', rfl⟩
      have : 0 + 1 * m = m := by omega
      rw [this]
      exact ⟨by omega, by simp [Array.getElem?_replicate, show m < ops.size by omega]⟩
    · intro hj
      exact ⟨j, by omega, by omega⟩
  · rw [g1]; exact List.pairwise_lt_range'
  · refine List.pairwise_iff_getElem.2 fun x y hx hy hxy => ?_
    have hpx := g5 pl[x] (List.getElem_mem hx)
    have hpy := g5 pl[y] (List.getElem_mem hy)
    rw [hfst x hx] at hpx ⊢
    rw [hfst y hy] at hpy ⊢
    have hyo : ops[y]? = some ops[y] := Array.getElem?_eq_getElem (by omega)
    by_cases hin : x ∈ afters ops[y]
    · exact .inl ⟨_, hyo, hin⟩
    · refine .inr ⟨?_, ?_⟩
      · rcases (hck y (by omega)).2 x hxy with h1 | h1
        · rw [haf' y _ (by omega) hyo] at h1
          exact absurd (by simpa using h1) hin
        · exact h1
      · by_cases hc : kclash pl[x].2.touch.kind pl[y].2.touch.kind = true
        · rw [← hpx, ← hpy]
          refine dclear_spec g6 (x, y) ?_
          simp only [dpairs, List.mem_flatMap, List.mem_range, List.mem_map, List.mem_filter]
          have hkx := g3 pl[x] (List.getElem_mem hx)
          have hky := g3 pl[y] (List.getElem_mem hy)
          rw [hfst x hx] at hkx
          rw [hfst y hy] at hky
          refine ⟨y, by omega, x, ⟨hxy, ?_⟩, rfl⟩
          rw [haf' y _ (by omega) hyo]
          simp only [Bool.and_eq_true, Bool.not_eq_true', List.contains_eq_mem, decide_eq_false_iff_not]
          refine ⟨hin, ?_⟩
          rcases hkx with h1 | h1
          · rw [h1] at hc; simp [Touch.kind, kclash] at hc
          · rcases hky with h2 | h2
            · rw [h2] at hc; exact absurd hc (by rw [show Touch.kind .none = 0 from rfl, kclash_zero]; simp)
            · rw [← h1, ← h2]; exact hc
        · exact Touch.indep_of (by simpa using hc)
end
end Go.Ai

set_option linter.unusedVariables false
set_option linter.unusedSimpArgs false
namespace Go.Ai
open Go Go.RowKit
abbrev APost := Exit → Env → AH → Prop
def athen (K : Env → AH → Prop) (Q : APost) : APost
  | .normal, env, H => K env H
  | e, env, H => Q e env H
def ablock (id : Nat) (Q : APost) : APost
  | .exit j, env, H => if j = id then Q .normal env H else Q (.exit j) env H
  | e, env, H => Q e env H
section
variable (P : Program) (w0 : World) (tt : TT) (N : Nat)
def AWP (c : Code) (env : Env) (H : AH) (Q : APost) : Prop :=
  ∀ (G : Gh) (a : Act) (w : World), Sim w0 G H w → EnvRep G N env a.tmps → a.defers = [] →
    c.wp P (fun e a' w' => ∃ (G' : Gh) (env' : Env) (H' : AH), G.le G' ∧ Sim w0 G' H' w' ∧ EnvRep G' N env' a'.tmps ∧ a'.defers = [] ∧ Q e env' H') a w
def AX (x : XCode) (env : Env) (H : AH) (Q : APost) : Prop := ∀ c, xc c = x → dstOk N c = true → AWP P w0 N c env H Q
def awp : XCode → Env → AH → APost → Prop
  | .skip, env, H, Q => Q .normal env H
  | .ret, env, H, Q => Q .ret env H
  | .exit id, env, H, Q => Q (.exit id) env H
  | .region l, env, H, Q => arun P w0 tt l env H (Q .normal)
  | .draw l af, env, H, Q => if dtail l = true then AX P w0 N (.draw l af) env H Q else (dcheck l af = true ∧ P.follows .mixedOrders = true) ∧ drun P w0 tt 0 l [] env H fun T env' H' => dclear T (dpairs2 l af) ∧ Q .normal env' H'
  | .seq a b, env, H, Q => awp a env H (athen (fun env' H' => awp b env' H' Q) Q)
  | .cond c a b, env, H, Q => withBool (aev env c) fun t => aguard t true (awp a env H Q) (awp b env H Q)
  | .block id b, env, H, Q => awp b env H (ablock id Q)
  | x, env, H, Q => AX P w0 N x env H Q
end
section
variable {P : Program} {w0 : World} {tt : TT} {N : Nat}
theorem AWP.mono {c : Code} {env : Env} {H : AH} {Q Q' : APost} (h : AWP P w0 N c env H Q) (hq : ∀ e env H, Q e env H → Q' e env H) : AWP P w0 N c env H Q' :=
  fun G a w hS hE hd => wp_mono (h G a w hS hE hd) fun e a' w' ⟨G', env', H', h1, h2, h3, h4, h5⟩ => ⟨G', env', H', h1, h2, h3, h4, hq _ _ _ h5⟩
theorem AWP.seq {x y : Code} {env : Env} {H : AH} {Q : APost} (h : AWP P w0 N x env H (athen (fun env' H' => AWP P w0 N y env' H' Q) Q)) : AWP P w0 N (.seq x y) env H Q := by
  intro G a w hS hE hd
  refine wp_seq (wp_mono (h G a w hS hE hd) fun e a' w' ⟨G', env', H', h1, h2, h3, h4, h5⟩ => ?_)
  cases e with
  | normal => exact wp_mono (h5 G' a' w' h2 h3 h4) fun e a'' w'' ⟨G'', env'', H'', k1, k2, k3, k4, k5⟩ => ⟨G'', env'', H'', h1.trans k1, k2, k3, k4, k5⟩
  | _ => exact ⟨G', env', H', h1, h2, h3, h4, h5⟩
theorem AWP.block {id : Nat} {x : Code} {env : Env} {H : AH} {Q : APost} (h : AWP P w0 N x env H (ablock id Q)) : AWP P w0 N (.block id x) env H Q := by
  intro G a w hS hE hd
  refine wp_block (wp_mono (h G a w hS hE hd) fun e a' w' ⟨G', env', H', h1, h2, h3, h4, h5⟩ => ?_)
  cases e with
  | exit j =>
    simp only [ablock] at h5
    simp only [Exit.inBlock]
    by_cases e : j = id
    · rw [if_pos e] at h5 ⊢; exact ⟨G', env', H', h1, h2, h3, h4, h5⟩
    · rw [if_neg e] at h5 ⊢; exact ⟨G', env', H', h1, h2, h3, h4, h5⟩
  | _ => exact ⟨G', env', H', h1, h2, h3, h4, h5⟩
theorem AWP.cond {c : Operand} {x y : Code} {env : Env} {H : AH} {Q : APost} {t : Bool} (hc : aev env c = .bool t) (h1 : t = true → AWP P w0 N x env H Q) (h2 : t = false → AWP P w0 N y env H Q) : AWP P w0 N (.cond c x y) env H Q := by
  intro G a w hS hE hd
  have hv := hE.eval c
  rw [hc] at hv
  exact wp_cond_split hv.bool_inv (fun e => h1 e G a w hS hE hd) (fun e => h2 e G a w hS hE hd)
theorem AWP.region {id : Nat} {ops : Array Oper} {env : Env} {H : AH} {Q : APost} (hd : dstOk N (.region id ops false) = true) (h : ARun P w0 N (ops.toList.map (xop ops)) env H (Q .normal)) : AWP P w0 N (.region id ops false) env H Q := by
  intro G a w hS hE had
  refine wp_region_list (h ops ops.toList _ G a w rfl (fun o ho d hdo => ?_) hS hE had fun G' a' w' env' H' h1 h2 h3 h4 h5 => ⟨G', env', H', h1, h2, h3, h4, h5⟩)
  simp only [dstOk, List.all_eq_true] at hd
  have := hd o ho
  rw [hdo] at this
  simpa using this
theorem awp_sound (htt : TtOk P tt) : ∀ (x : XCode) (env : Env) (H : AH) (Q : APost), awp P w0 tt N x env H Q → AX P w0 N x env H Q := by
  intro x
  induction x with
  | skip =>
    intro env H Q h c hc hd
    cases c <;> simp only [xc] at hc <;> (try cases hc) <;> (try (split at hc <;> cases hc))
    exact fun G a w hS hE had => wp_skip ⟨G, env, H, .refl G, hS, hE, had, h⟩
  | ret =>
    intro env H Q h c hc hd
    cases c <;> simp only [xc] at hc <;> (try cases hc) <;> (try (split at hc <;> cases hc))
    exact fun G a w hS hE had => wp_ret ⟨G, env, H, .refl G, hS, hE, had, h⟩
  | exit id =>
    intro env H Q h c hc hd
    cases c <;> simp only [xc] at hc <;> (try cases hc) <;> (try (split at hc <;> cases hc))
    exact fun G a w hS hE had => wp_exit ⟨G, env, H, .refl G, hS, hE, had, h⟩
  | region l =>
    intro env H Q h c hc hd
    cases c <;> simp only [xc] at hc <;> (try cases hc)
    rename_i id ops draw
    split at hc
    · cases hc
    · rename_i hdr
      cases hc
      have : draw = false := by simpa using hdr
      subst this
      exact AWP.region hd (arun_sound htt _ _ _ _ h)
  | draw l af =>
    intro env H Q h c hc hd
    simp only [awp] at h
    split at h
    · exact h c hc hd
    cases c <;> simp only [xc] at hc <;> (try cases hc)
    rename_i id ops draw
    split at hc
    · rename_i hdr
      cases hc
      subst hdr
      obtain ⟨⟨h1, h2⟩, h3⟩ := h
      exact fun G a w hS hE had => wp_draw htt h2 hd h1 h3 hS hE had fun G' a' w' env' H' k1 k2 k3 k4 k5 => ⟨G', env', H', k1, k2, k3, k4, k5⟩
    · cases hc
  | seq a b iha ihb =>
    intro env H Q h c hc hd
    cases c <;> simp only [xc] at hc <;> (try cases hc) <;> (try (split at hc <;> cases hc))
    simp only [dstOk, Bool.and_eq_true] at hd
    refine AWP.seq ((iha env H _ h _ rfl hd.1).mono fun e env' H' hq => ?_)
    cases e with
    | normal => exact ihb env' H' Q hq _ rfl hd.2
    | _ => exact hq
  | cond cc a b iha ihb =>
    intro env H Q h c hc hd
    cases c <;> simp only [xc] at hc <;> (try cases hc) <;> (try (split at hc <;> cases hc))
    simp only [dstOk, Bool.and_eq_true] at hd
    simp only [awp] at h
    obtain ⟨t, h1, h2, h3⟩ := withBool_iff h
    exact AWP.cond h1 (fun e => iha env H Q (h2 e) _ rfl hd.1) (fun e => ihb env H Q (h3 e) _ rfl hd.2)
  | block id b ih =>
    intro env H Q h c hc hd
    cases c <;> simp only [xc] at hc <;> (try cases hc) <;> (try (split at hc <;> cases hc))
    exact AWP.block (ih env H _ h _ rfl hd)
  | _ => intro env H Q h; exact h
theorem AX.drawE (htt : TtOk P tt) (hm : P.follows .mixedOrders = true) {lp : List XOp} {af : List (List Nat)} {d p s z n x q : Nat} {t e : TypeId} {i j : TyI}
    (hck : dcheck lp (af.take lp.length) = true) (hta : tafter lp.length af = true) (hne : tne d p n x q = true) (hi : tt t = some i) (hu : i.u = .slice e) (hj : tt e = some j) (hi1 : i.size = 1) (hj0 : 0 < j.size) {env : Env} {H : AH} {Q : APost}
    (h : drun P w0 tt 0 lp [] env H fun T env' H' => dclear T (dpairs lp (af.take lp.length)) ∧ TailK d p s z n x q e j env' H' (Q .normal)) : AX P w0 N (.draw (lp ++ tends d p s z n x q t e) af) env H Q := by
  intro c hc hd
  cases c <;> simp only [xc] at hc <;> (try cases hc)
  rename_i id ops draw
  split at hc
  · rename_i hdr
    simp only [XCode.draw.injEq] at hc
    obtain ⟨hl, rfl⟩ := hc
    subst hdr
    exact fun G a w hS hE had => wp_drawE htt hm hd hl hck hta hne hi hu hj hi1 hj0 h hS hE had fun G' a' w' env' H' k1 k2 k3 k4 k5 => ⟨G', env', H', k1, k2, k3, k4, k5⟩
  · cases hc
end
end Go.Ai
