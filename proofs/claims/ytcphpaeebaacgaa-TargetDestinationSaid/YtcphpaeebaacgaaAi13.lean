/- A part of the proof: no statement of the seat is proved in this text. -/
import Derived.Test.YtcphpaeebaacgaaAi12g
set_option linter.unusedVariables false
set_option linter.unusedSimpArgs false
namespace Go.Ai
open Go Go.RowKit

/-! ### Code -/
abbrev APost := Exit → Env → AH → Prop

def athen (K : Env → AH → Prop) (Q : APost) : APost
  | .normal, env, H => K env H
  | e, env, H => Q e env H
def ablock (id : Nat) (Q : APost) : APost
  | .exit j, env, H => if j = id then Q .normal env H else Q (.exit j) env H
  | e, env, H => Q e env H

section
variable (P : Program) (w0 : World) (tt : TT) (N : Nat)

def AWP (c : Code) (env : Env) (H : AH) (Q : APost) : Prop :=
  ∀ (G : Gh) (a : Act) (w : World), Sim w0 G H w → EnvRep G N env a.tmps → a.defers = [] →
    c.wp P (fun e a' w' => ∃ (G' : Gh) (env' : Env) (H' : AH), G.le G' ∧ Sim w0 G' H' w' ∧ EnvRep G' N env' a'.tmps ∧ a'.defers = [] ∧ Q e env' H') a w
def AX (x : XCode) (env : Env) (H : AH) (Q : APost) : Prop := ∀ c, xc c = x → dstOk N c = true → AWP P w0 N c env H Q

def awp : XCode → Env → AH → APost → Prop
  | .skip, env, H, Q => Q .normal env H
  | .ret, env, H, Q => Q .ret env H
  | .exit id, env, H, Q => Q (.exit id) env H
  | .region l, env, H, Q => arun P w0 tt l env H (Q .normal)
  | .draw l af, env, H, Q => if dtail l = true then AX P w0 N (.draw l af) env H Q else (dcheck l af = true ∧ P.follows .mixedOrders = true) ∧ drun P w0 tt 0 l [] env H fun T env' H' => dclear T (dpairs l af) ∧ Q .normal env' H'
  | .seq a b, env, H, Q => awp a env H (athen (fun env' H' => awp b env' H' Q) Q)
  | .cond c a b, env, H, Q => withBool (aev env c) fun t => aguard t true (awp a env H Q) (awp b env H Q)
  | .block id b, env, H, Q => awp b env H (ablock id Q)
  | x, env, H, Q => AX P w0 N x env H Q
end

section
variable {P : Program} {w0 : World} {tt : TT} {N : Nat}

theorem AWP.mono {c : Code} {env : Env} {H : AH} {Q Q' : APost} (h : AWP P w0 N c env H Q) (hq : ∀ e env H, Q e env H → Q' e env H) : AWP P w0 N c env H Q' :=
  fun G a w hS hE hd => wp_mono (h G a w hS hE hd) fun e a' w' ⟨G', env', H', h1, h2, h3, h4, h5⟩ => ⟨G', env', H', h1, h2, h3, h4, hq _ _ _ h5⟩

theorem AWP.seq {x y : Code} {env : Env} {H : AH} {Q : APost} (h : AWP P w0 N x env H (athen (fun env' H' => AWP P w0 N y env' H' Q) Q)) : AWP P w0 N (.seq x y) env H Q := by
  intro G a w hS hE hd
  refine wp_seq (wp_mono (h G a w hS hE hd) fun e a' w' ⟨G', env', H', h1, h2, h3, h4, h5⟩ => ?_)
  cases e with
  | normal => exact wp_mono (h5 G' a' w' h2 h3 h4) fun e a'' w'' ⟨G'', env'', H'', k1, k2, k3, k4, k5⟩ => ⟨G'', env'', H'', h1.trans k1, k2, k3, k4, k5⟩
  | _ => exact ⟨G', env', H', h1, h2, h3, h4, h5⟩

theorem AWP.block {id : Nat} {x : Code} {env : Env} {H : AH} {Q : APost} (h : AWP P w0 N x env H (ablock id Q)) : AWP P w0 N (.block id x) env H Q := by
  intro G a w hS hE hd
  refine wp_block (wp_mono (h G a w hS hE hd) fun e a' w' ⟨G', env', H', h1, h2, h3, h4, h5⟩ => ?_)
  cases e with
  | exit j =>
    simp only [ablock] at h5
    simp only [Exit.inBlock]
    by_cases e : j = id
    · rw [if_pos e] at h5 ⊢; exact ⟨G', env', H', h1, h2, h3, h4, h5⟩
    · rw [if_neg e] at h5 ⊢; exact ⟨G', env', H', h1, h2, h3, h4, h5⟩
  | _ => exact ⟨G', env', H', h1, h2, h3, h4, h5⟩

theorem AWP.cond {c : Operand} {x y : Code} {env : Env} {H : AH} {Q : APost} {t : Bool} (hc : aev env c = .bool t) (h1 : t = true → AWP P w0 N x env H Q) (h2 : t = false → AWP P w0 N y env H Q) : AWP P w0 N (.cond c x y) env H Q := by
  intro G a w hS hE hd
  have hv := hE.eval c
  rw [hc] at hv
  exact wp_cond_split hv.bool_inv (fun e => h1 e G a w hS hE hd) (fun e => h2 e G a w hS hE hd)

theorem AWP.region {id : Nat} {ops : Array Oper} {env : Env} {H : AH} {Q : APost} (hd : dstOk N (.region id ops false) = true) (h : ARun P w0 N (ops.toList.map (xop ops)) env H (Q .normal)) : AWP P w0 N (.region id ops false) env H Q := by
  intro G a w hS hE had
  refine wp_region_list (h ops ops.toList _ G a w rfl (fun o ho d hdo => ?_) hS hE had fun G' a' w' env' H' h1 h2 h3 h4 h5 => ⟨G', env', H', h1, h2, h3, h4, h5⟩)
  simp only [dstOk, List.all_eq_true] at hd
  have := hd o ho
  rw [hdo] at this
  simpa using this

theorem awp_sound (htt : TtOk P tt) : ∀ (x : XCode) (env : Env) (H : AH) (Q : APost), awp P w0 tt N x env H Q → AX P w0 N x env H Q := by
  intro x
  induction x with
  | skip =>
    intro env H Q h c hc hd
    cases c <;> simp only [xc] at hc <;> (try cases hc) <;> (try (split at hc <;> cases hc))
    exact fun G a w hS hE had => wp_skip ⟨G, env, H, .refl G, hS, hE, had, h⟩
  | ret =>
    intro env H Q h c hc hd
    cases c <;> simp only [xc] at hc <;> (try cases hc) <;> (try (split at hc <;> cases hc))
    exact fun G a w hS hE had => wp_ret ⟨G, env, H, .refl G, hS, hE, had, h⟩
  | exit id =>
    intro env H Q h c hc hd
    cases c <;> simp only [xc] at hc <;> (try cases hc) <;> (try (split at hc <;> cases hc))
    exact fun G a w hS hE had => wp_exit ⟨G, env, H, .refl G, hS, hE, had, h⟩
  | region l =>
    intro env H Q h c hc hd
    cases c <;> simp only [xc] at hc <;> (try cases hc)
    rename_i id ops draw
    split at hc
    · cases hc
    · rename_i hdr
      cases hc
      have : draw = false := by simpa using hdr
      subst this
      exact AWP.region hd (arun_sound htt _ _ _ _ h)
  | draw l af =>
    intro env H Q h c hc hd
    simp only [awp] at h
    split at h
    · exact h c hc hd
    cases c <;> simp only [xc] at hc <;> (try cases hc)
    rename_i id ops draw
    split at hc
    · rename_i hdr
      cases hc
      subst hdr
      obtain ⟨⟨h1, h2⟩, h3⟩ := h
      exact fun G a w hS hE had => wp_draw htt h2 hd h1 h3 hS hE had fun G' a' w' env' H' k1 k2 k3 k4 k5 => ⟨G', env', H', k1, k2, k3, k4, k5⟩
    · cases hc
  | seq a b iha ihb =>
    intro env H Q h c hc hd
    cases c <;> simp only [xc] at hc <;> (try cases hc) <;> (try (split at hc <;> cases hc))
    simp only [dstOk, Bool.and_eq_true] at hd
    refine AWP.seq ((iha env H _ h _ rfl hd.1).mono fun e env' H' hq => ?_)
    cases e with
    | normal => exact ihb env' H' Q hq _ rfl hd.2
    | _ => exact hq
  | cond cc a b iha ihb =>
    intro env H Q h c hc hd
    cases c <;> simp only [xc] at hc <;> (try cases hc) <;> (try (split at hc <;> cases hc))
    simp only [dstOk, Bool.and_eq_true] at hd
    simp only [awp] at h
    obtain ⟨t, h1, h2, h3⟩ := withBool_iff h
    exact AWP.cond h1 (fun e => iha env H Q (h2 e) _ rfl hd.1) (fun e => ihb env H Q (h3 e) _ rfl hd.2)
  | block id b ih =>
    intro env H Q h c hc hd
    cases c <;> simp only [xc] at hc <;> (try cases hc) <;> (try (split at hc <;> cases hc))
    exact AWP.block (ih env H _ h _ rfl hd)
  | _ => intro env H Q h; exact h

/-- An unordered region that ends in a row's growth. -/
theorem AX.drawE (htt : TtOk P tt) (hm : P.follows .mixedOrders = true) {lp : List XOp} {af : List (List Nat)} {d p s z n x q : Nat} {t e : TypeId} {i j : TyI}
    (hck : dcheck lp (af.take lp.length) = true) (hta : tafter lp.length af = true) (hne : tne d p n x q = true) (hi : tt t = some i) (hu : i.u = .slice e) (hj : tt e = some j) (hi1 : i.size = 1) (hj0 : 0 < j.size) {env : Env} {H : AH} {Q : APost}
    (h : drun P w0 tt 0 lp [] env H fun T env' H' => dclear T (dpairs lp (af.take lp.length)) ∧ TailK d p s z n x q e j env' H' (Q .normal)) : AX P w0 N (.draw (lp ++ tends d p s z n x q t e) af) env H Q := by
  intro c hc hd
  cases c <;> simp only [xc] at hc <;> (try cases hc)
  rename_i id ops draw
  split at hc
  · rename_i hdr
    simp only [XCode.draw.injEq] at hc
    obtain ⟨hl, rfl⟩ := hc
    subst hdr
    exact fun G a w hS hE had => wp_drawE htt hm hd hl hck hta hne hi hu hj hi1 hj0 h hS hE had fun G' a' w' env' H' k1 k2 k3 k4 k5 => ⟨G', env', H', k1, k2, k3, k4, k5⟩
  · cases hc
end
end Go.Ai
