/- A part of the proof: no statement of the seat is proved in this text. -/
import Derived.Test.YtdmhbplibcolbaaGreatOpen2
import Derived.Test.YtdmhbplibcolbaaGreatG9
import Derived.Test.YtdmhbplibcolbaaGreatStr
set_option linter.unusedVariables false
set_option linter.unusedSimpArgs false
namespace Go.Ai.Tryz
open Go Go.Ai Go.Proofs Go.RowKit
theorem co29 : Tryz.prog.cellsOf 29 = 1 := by kernel_rfl
theorem co31 : Tryz.prog.cellsOf 31 = 3 := by kernel_rfl
theorem co32 : Tryz.prog.cellsOf 32 = 1 := by kernel_rfl
theorem co34 : Tryz.prog.cellsOf 34 = 25 := by kernel_rfl
theorem by9 : Tryz.prog.bytesOf 9 = 16 := by kernel_rfl
theorem by34 : Tryz.prog.bytesOf 34 = 368 := by kernel_rfl
section
variable {H : Type} {enc : TypeId × Value → H} {w : World} {sp : Nat → Bool} {held : Bool}
theorem opens_strs (fuel : Nat) : OpensAt enc Tryz.prog w sp held fuel 29 (fun l : List ByteArray => [.slice (l.map AV.str)]) := by
  cases fuel with
  | zero => intro cs x h; simp [DataW.trod] at h
  | succ n => exact opens_slice AV.str (e := fun s => [.str s]) (fun _ => rfl) (sz := 1) (fun _ => rfl) (by decide) Tryz.underlying29 co9 (by rw [by9]; decide) (opens_str Tryz.underlying9)
theorem opens_start (fuel : Nat) : OpensAt enc Tryz.prog w sp held fuel 31 (fun x : Int × Int × ByteArray => [.int .i64 x.1, .int .i64 x.2.1, .str x.2.2]) := by
  intro cs x h hw
  obtain ⟨n, rfl, hl, hf⟩ := open_struct Tryz.underlying31 h hw
  rw [co31] at hl
  obtain ⟨x0, h0, w0⟩ := open_field hf 0 3 0 1 rfl co3
  obtain ⟨x1, h1, w1⟩ := open_field hf 1 3 1 1 rfl co3
  obtain ⟨x2, h2, w2⟩ := open_field hf 2 9 2 1 rfl co9
  obtain ⟨a0, r0⟩ := opens_int (enc := enc) Tryz.underlying3 _ _ h0 w0
  obtain ⟨a1, r1⟩ := opens_int (enc := enc) Tryz.underlying3 _ _ h1 w1
  obtain ⟨a2, r2⟩ := opens_str (enc := enc) Tryz.underlying9 _ _ h2 w2
  refine ⟨⟨a0, a1, a2⟩, ?_⟩
  exact RepL.cat (o := 0) (s := 1) r0 (RepL.cat (s := 1) r1 (RepL.cat (s := 1) r2 (RepL.done hl)))
theorem opens_item : ∀ fuel, OpensAt enc Tryz.prog w sp held fuel 34 It.cs := by
  intro fuel
  induction fuel using Nat.strongRecOn with
  | _ fuel ih =>
    intro cs x h hw
    obtain ⟨n, rfl, hl, hf⟩ := open_struct Tryz.underlying34 h hw
    rw [co34] at hl
    obtain ⟨x0, h0, w0⟩ := open_field hf 0 3 0 1 rfl co3
    obtain ⟨x1, h1, w1⟩ := open_field hf 1 28 1 1 rfl co28
    obtain ⟨x2, h2, w2⟩ := open_field hf 2 28 2 1 rfl co28
    obtain ⟨x3, h3, w3⟩ := open_field hf 3 3 3 1 rfl co3
    obtain ⟨x4, h4, w4⟩ := open_field hf 4 3 4 1 rfl co3
    obtain ⟨x5, h5, w5⟩ := open_field hf 5 27 5 8 rfl co27
    obtain ⟨x6, h6, w6⟩ := open_field hf 6 29 13 1 rfl co29
    obtain ⟨x7, h7, w7⟩ := open_field hf 7 29 14 1 rfl co29
    obtain ⟨x8, h8, w8⟩ := open_field hf 8 9 15 1 rfl co9
    obtain ⟨x9, h9, w9⟩ := open_field hf 9 9 16 1 rfl co9
    obtain ⟨x10, h10, w10⟩ := open_field hf 10 31 17 3 rfl co31
    obtain ⟨x11, h11, w11⟩ := open_field hf 11 3 20 1 rfl co3
    obtain ⟨x12, h12, w12⟩ := open_field hf 12 3 21 1 rfl co3
    obtain ⟨x13, h13, w13⟩ := open_field hf 13 3 22 1 rfl co3
    obtain ⟨x14, h14, w14⟩ := open_field hf 14 9 23 1 rfl co9
    obtain ⟨x15, h15, w15⟩ := open_field hf 15 32 24 1 rfl co32
    obtain ⟨a0, r0⟩ := opens_int (enc := enc) Tryz.underlying3 _ _ h0 w0
    obtain ⟨a1, r1⟩ := opens_steps n _ _ h1 w1
    obtain ⟨a2, r2⟩ := opens_steps n _ _ h2 w2
    obtain ⟨a3, r3⟩ := opens_int (enc := enc) Tryz.underlying3 _ _ h3 w3
    obtain ⟨a4, r4⟩ := opens_int (enc := enc) Tryz.underlying3 _ _ h4 w4
    obtain ⟨a5, r5⟩ := opens_unit n _ _ h5 w5
    obtain ⟨a6, r6⟩ := opens_strs n _ _ h6 w6
    obtain ⟨a7, r7⟩ := opens_strs n _ _ h7 w7
    obtain ⟨a8, r8⟩ := opens_str (enc := enc) Tryz.underlying9 _ _ h8 w8
    obtain ⟨a9, r9⟩ := opens_str (enc := enc) Tryz.underlying9 _ _ h9 w9
    obtain ⟨a10, r10⟩ := opens_start n _ _ h10 w10
    obtain ⟨a11, r11⟩ := opens_int (enc := enc) Tryz.underlying3 _ _ h11 w11
    obtain ⟨a12, r12⟩ := opens_int (enc := enc) Tryz.underlying3 _ _ h12 w12
    obtain ⟨a13, r13⟩ := opens_int (enc := enc) Tryz.underlying3 _ _ h13 w13
    obtain ⟨a14, r14⟩ := opens_str (enc := enc) Tryz.underlying9 _ _ h14 w14
    have hk : OpensAt enc Tryz.prog w sp held n 32 (fun l : List It => [.slice (l.map eIt)]) := by
      cases n with
      | zero => intro cs x h; simp [DataW.trod] at h
      | succ m => exact opens_slice eIt (fun u => cells_eIt u) (sz := 25) (fun _ => rfl) (by decide) Tryz.underlying32 co34 (by rw [by34]; decide) (ih m (by omega))
    obtain ⟨a15, r15⟩ := hk _ _ h15 w15
    refine ⟨⟨a0, a1, a2, a3, a4, a5, a6, a7, a8, a9, a10.1, a10.2.1, a10.2.2, a11, a12, a13, a14, a15⟩, ?_⟩
    exact RepL.cat (o := 0) (s := 1) r0 (RepL.cat (s := 1) r1 (RepL.cat (s := 1) r2 (RepL.cat (s := 1) r3 (RepL.cat (s := 1) r4 (RepL.cat (s := 8) r5 (RepL.cat (s := 1) r6 (RepL.cat (s := 1) r7 (RepL.cat (s := 1) r8 (RepL.cat (s := 1) r9 (RepL.cat (s := 3) r10 (RepL.cat (s := 1) r11 (RepL.cat (s := 1) r12 (RepL.cat (s := 1) r13 (RepL.cat (s := 1) r14 (RepL.cat (s := 1) r15 (RepL.done hl))))))))))))))))
end
end Go.Ai.Tryz

set_option linter.unusedVariables false
set_option linter.unusedSimpArgs false
namespace Go.Ai
open Go Go.RowKit
@[go_sem] theorem Sub_refl' {H : AH} (h : H.WF) : H.Sub H = True := eq_true (.refl h)
@[go_sem] theorem Sub_push' {H' H : AH} (h : H'.Sub H) (o : AObj) : H'.Sub (H.push o) = True := eq_true (.push h o)
@[go_sem] theorem Sub_pushTok' {H' H : AH} (h : H'.Sub H) (o : ATok) : H'.Sub (H.pushTok o) = True := eq_true (.pushTok h o)
@[go_sem] theorem WF_pushTok' {H : AH} (h : H.WF) (a : ATok) : (H.pushTok a).WF = True := eq_true (WF_pushTok h a)
@[go_sem] theorem WF_push_cells' {H : AH} (h : H.WF) (cs : List AV) (t : TypeId) (hc : AV.fitL (H.n + 1) H.m cs = true) : (H.push (.cells cs t)).WF = True := eq_true (WF_push_cells h cs t hc)
@[go_sem] theorem lit_arr (l : List UInt8) : Array.mk l = l.toArray := rfl
attribute [go_sem] List.size_toArray
@[go_sem] theorem valC_if (p : Prop) [Decidable p] (v : AV) (K : KV) (H : AH) : valC (if p then some v else none) K H = (p ∧ K v H) := by by_cases h : p <;> simp [h, valC, withAV]
attribute [go_sem] AV.forget
@[go_sem] theorem ne4a (n : Nat) : (n = n + 1 + 1 + 1 + 1) = False := by simp; try omega
@[go_sem] theorem ne4b (n : Nat) : (n + 1 + 1 + 1 + 1 = n) = False := by simp; try omega
@[go_sem] theorem ne5a (n : Nat) : (n = n + 1 + 1 + 1 + 1 + 1) = False := by simp; try omega
@[go_sem] theorem ne5b (n : Nat) : (n + 1 + 1 + 1 + 1 + 1 = n) = False := by simp; try omega
@[go_sem] theorem ne6a (n : Nat) : (n = n + 1 + 1 + 1 + 1 + 1 + 1) = False := by simp; try omega
@[go_sem] theorem ne6b (n : Nat) : (n + 1 + 1 + 1 + 1 + 1 + 1 = n) = False := by simp; try omega
@[go_sem] theorem ne7a (n : Nat) : (n = n + 1 + 1 + 1 + 1 + 1 + 1 + 1) = False := by simp; try omega
@[go_sem] theorem ne7b (n : Nat) : (n + 1 + 1 + 1 + 1 + 1 + 1 + 1 = n) = False := by simp; try omega
@[go_sem] theorem ne8a (n : Nat) : (n = n + 1 + 1 + 1 + 1 + 1 + 1 + 1 + 1) = False := by simp; try omega
@[go_sem] theorem ne8b (n : Nat) : (n + 1 + 1 + 1 + 1 + 1 + 1 + 1 + 1 = n) = False := by simp; try omega
@[go_sem] theorem ne9a (n : Nat) : (n = n + 1 + 1 + 1 + 1 + 1 + 1 + 1 + 1 + 1) = False := by simp; try omega
@[go_sem] theorem ne9b (n : Nat) : (n + 1 + 1 + 1 + 1 + 1 + 1 + 1 + 1 + 1 = n) = False := by simp; try omega
@[go_sem] theorem ne10a (n : Nat) : (n = n + 1 + 1 + 1 + 1 + 1 + 1 + 1 + 1 + 1 + 1) = False := by simp; try omega
@[go_sem] theorem ne10b (n : Nat) : (n + 1 + 1 + 1 + 1 + 1 + 1 + 1 + 1 + 1 + 1 = n) = False := by simp; try omega
@[go_sem] theorem ne11a (n : Nat) : (n = n + 1 + 1 + 1 + 1 + 1 + 1 + 1 + 1 + 1 + 1 + 1) = False := by simp; try omega
@[go_sem] theorem ne11b (n : Nat) : (n + 1 + 1 + 1 + 1 + 1 + 1 + 1 + 1 + 1 + 1 + 1 = n) = False := by simp; try omega
@[go_sem] theorem ne12a (n : Nat) : (n = n + 1 + 1 + 1 + 1 + 1 + 1 + 1 + 1 + 1 + 1 + 1 + 1) = False := by simp; try omega
@[go_sem] theorem ne12b (n : Nat) : (n + 1 + 1 + 1 + 1 + 1 + 1 + 1 + 1 + 1 + 1 + 1 + 1 = n) = False := by simp; try omega
@[go_sem] theorem ne13a (n : Nat) : (n = n + 1 + 1 + 1 + 1 + 1 + 1 + 1 + 1 + 1 + 1 + 1 + 1 + 1) = False := by simp; try omega
@[go_sem] theorem ne13b (n : Nat) : (n + 1 + 1 + 1 + 1 + 1 + 1 + 1 + 1 + 1 + 1 + 1 + 1 + 1 = n) = False := by simp; try omega
@[go_sem] theorem ne14a (n : Nat) : (n = n + 1 + 1 + 1 + 1 + 1 + 1 + 1 + 1 + 1 + 1 + 1 + 1 + 1 + 1) = False := by simp; try omega
@[go_sem] theorem ne14b (n : Nat) : (n + 1 + 1 + 1 + 1 + 1 + 1 + 1 + 1 + 1 + 1 + 1 + 1 + 1 + 1 = n) = False := by simp; try omega
@[go_sem] theorem ne15a (n : Nat) : (n = n + 1 + 1 + 1 + 1 + 1 + 1 + 1 + 1 + 1 + 1 + 1 + 1 + 1 + 1 + 1) = False := by simp; try omega
@[go_sem] theorem ne15b (n : Nat) : (n + 1 + 1 + 1 + 1 + 1 + 1 + 1 + 1 + 1 + 1 + 1 + 1 + 1 + 1 + 1 = n) = False := by simp; try omega
theorem ret1 {tt : TT} {s : Nat} {H : AH} {Q : AV → AH → Prop} {R : APost} {r : AV} {env' : Env} {H' : AH} (hR : ∀ env' H' r, ares tt env' H' [.tmp s] r → Leave H r H' Q → R .ret env' H') (h : Q r H) (h1 : look s env' = r) (hs : H.Sub H') (hf : r.fit H.n H.m = true) : R .ret env' H' :=
  hR _ _ _ h1 (.same hs hf h)
theorem ret1s {tt : TT} {s : Nat} {H : AH} {Q : AV → AH → Prop} {R : APost} {l : List AV} {env' : Env} {H' : AH} (hR : ∀ env' H' r, ares tt env' H' [.tmp s] r → Leave H r H' Q → R .ret env' H') (h : Q (.slice l) H) (h1 : (look s env').forget = .slice l) (hs : H.Sub H') (hf : AV.fitL H.n H.m l = true) : R .ret env' H' :=
  hR _ _ _ rfl (.forget hs (by rw [h1]; exact hf) (by rw [h1]; exact h))
theorem ret2 {tt : TT} {s t : Nat} {H : AH} {Q : AV → AH → Prop} {R : APost} {a b : AV} {env' : Env} {H' : AH} (hR : ∀ env' H' r, ares tt env' H' [.tmp s, .tmp t] r → Leave H r H' Q → R .ret env' H') (h : Q (.tup [a, b]) H) (h1 : look s env' = a) (h2 : look t env' = b) (hs : H.Sub H') (hf : AV.fitL H.n H.m [a, b] = true) : R .ret env' H' :=
  hR _ _ _ ⟨_, ⟨_, _, h1, ⟨_, _, h2, rfl, rfl⟩, rfl⟩, rfl⟩ (.same hs hf h)
section
variable {P : Program} {w0 : World} {tt : TT} {N : Nat}
theorem AX.each (htt : TtOk P tt) {b : XCode} {env : Env} {H : AH} {Q : APost} {α : Type} (e : α → AV) (l : List α) (hl : l.length ≤ 1000000000000000) (E : List α → Env) (T : List α → AH) (inv : List α → List α → Prop) (hE : EW0 env (E [])) (hT : T [] = H) (h0 : inv [] l)
    (nil : inv l [] → (T l).WF → ∀ (K : KE) (R : APost), (∀ e env' H', Q e env' H' → R e env' H') → decide ((l.length : Int) < ((l.map e).length : Int)) = false → awpC P w0 tt N b (athen K R) (E l) (T l))
    (cons : ∀ pre k ks, pre ++ k :: ks = l → inv pre (k :: ks) → (T pre).WF → ∀ (K : KE) (R : APost),
      (∀ env' H', inv (pre ++ [k]) ks → (T (pre ++ [k])).Sub H' → EWeak (T (pre ++ [k])).n (T (pre ++ [k])).m env' (E (pre ++ [k])) → (T pre).n ≤ (T (pre ++ [k])).n → (T pre).m ≤ (T (pre ++ [k])).m → K env' H') → (∀ e env' H', Q e env' H' → R e env' H') →
      decide ((pre.length : Int) < ((l.map e).length : Int)) = true → (l.map e)[((pre.length : Int)).toNat]? = some (e k) → pre.length < l.length → IntKind.i64.wrap ((pre.length : Int) + 1) = pre.length + 1 → awpC P w0 tt N b (athen K R) (E pre) (T pre)) :
    AX P w0 N (.loop b) env H Q := by
  refine AX.iter (S := List α × List α) htt (fun s => E s.1) (fun s => T s.1) (fun s => s.2.length) (fun s => s.1 ++ s.2 = l ∧ inv s.1 s.2) ([], l) hE hT ⟨rfl, h0⟩ ?_
  rintro ⟨pre, post⟩ ⟨h1, h2⟩ hk hwf K R hK hR
  rcases post with _ | ⟨k, ks⟩
  · simp only [List.append_nil] at h1
    subst h1
    exact nil h2 hwf K R hR (by simp)
  · exact cons pre k ks h1 h2 hwf K R (fun env' H' g1 g2 g3 g4 g5 => hK env' H' (pre ++ [k], ks) (by simp) ⟨snoc_of h1, g1⟩ g2 g4 g5 g3) hR (lt_of h1 e) (at_of h1 e) (len_of h1) (wrap_i64.2 (by have := len_of h1; simp only at this ⊢; omega))
theorem AX.each0 (htt : TtOk P tt) {b : XCode} {env : Env} {H : AH} {Q : APost} {α : Type} (e : α → AV) (l : List α) (hl : l.length ≤ 1000000000000000) (E : List α → Env) (inv : List α → List α → Prop) (hE : EW0 env (E [])) (h0 : inv [] l)
    (nil : inv l [] → H.WF → ∀ (K : KE) (R : APost), (∀ e env' H', Q e env' H' → R e env' H') → decide ((l.length : Int) < ((l.map e).length : Int)) = false → awpC P w0 tt N b (athen K R) (E l) H)
    (cons : ∀ pre k ks, pre ++ k :: ks = l → inv pre (k :: ks) → H.WF → ∀ (K : KE) (R : APost),
      (∀ env' H', inv (pre ++ [k]) ks → H.Sub H' → EWeak H.n H.m env' (E (pre ++ [k])) → K env' H') → (∀ e env' H', Q e env' H' → R e env' H') →
      decide ((pre.length : Int) < ((l.map e).length : Int)) = true → (l.map e)[((pre.length : Int)).toNat]? = some (e k) → pre.length < l.length → IntKind.i64.wrap ((pre.length : Int) + 1) = pre.length + 1 → awpC P w0 tt N b (athen K R) (E pre) H) :
    AX P w0 N (.loop b) env H Q :=
  AX.each htt e l hl E (fun _ => H) inv hE rfl h0 nil fun pre k ks h1 h2 h3 K R hK hR => cons pre k ks h1 h2 h3 K R (fun env' H' g1 g2 g3 => hK env' H' g1 g2 g3 (Nat.le_refl _) (Nat.le_refl _)) hR
theorem AX.bytes (htt : TtOk P tt) {b : XCode} {env : Env} {H : AH} {Q : APost} (s : ByteArray) (hl : s.size ≤ 1000000000000000) (E : List Int → Env) (inv : List Int → List Int → Prop) (hE : EW0 env (E [])) (h0 : inv [] (bts s))
    (nil : inv (bts s) [] → H.WF → ∀ (K : KE) (R : APost), (∀ e env' H', Q e env' H' → R e env' H') → decide (((bts s).length : Int) < (s.size : Int)) = false → awpC P w0 tt N b (athen K R) (E (bts s)) H)
    (cons : ∀ pre c ks, pre ++ c :: ks = bts s → inv pre (c :: ks) → H.WF → ∀ (K : KE) (R : APost),
      (∀ env' H', inv (pre ++ [c]) ks → H.Sub H' → EWeak H.n H.m env' (E (pre ++ [c])) → K env' H') → (∀ e env' H', Q e env' H' → R e env' H') →
      decide ((pre.length : Int) < (s.size : Int)) = true → byteAt s ((pre.length : Int)).toNat = c → (pre.length : Int) < s.size → IntKind.i64.wrap ((pre.length : Int) + 1) = pre.length + 1 → awpC P w0 tt N b (athen K R) (E pre) H) :
    AX P w0 N (.loop b) env H Q := by
  refine AX.iter0 (S := List Int × List Int) htt (fun s => E s.1) (fun s => s.2.length) (fun p => p.1 ++ p.2 = bts s ∧ inv p.1 p.2) ([], bts s) hE ⟨rfl, h0⟩ ?_
  rintro ⟨pre, post⟩ ⟨h1, h2⟩ hk hwf K R hK hR
  rcases post with _ | ⟨c, ks⟩
  · have h1' : pre = bts s := by simpa using h1
    subst h1'
    exact nil h2 hwf K R hR (sge_of h1)
  · exact cons pre c ks h1 h2 hwf K R (fun env' H' g1 g2 g3 => hK env' H' (pre ++ [c], ks) (by simp) ⟨snoc_of h1, g1⟩ g2 g3) hR (slt_of h1) (byteAt_of h1) (slt_of' h1) (wrap_i64.2 (by have := slt_of' h1; simp only at this ⊢; omega))
theorem AX.own0j {x : XCode} {env : Env} {H : AH} {Q : APost} {id j : Nat} {cs : List AV} (e : TypeId) (sz : Nat) {t : TypeId} (hk : H.obj id = some (.cells cs t)) (hj : cs[j]? = some .nilS) (h : AX P w0 N x env ((H.pushTok ⟨0, e, sz⟩).put id (.cells (cs.set j (.own [] H.m)) t)) Q) : AX P w0 N x env H Q := by
  intro c hc hd G a w hS hE had
  obtain ⟨h8, h9⟩ := hS.addTok (x := ⟨.slice none 0 0, 0, e, sz, []⟩) (World.ownsRow_nil w _ _ _) (fun b hb => by simp [Value.ownBlock] at hb)
  obtain ⟨b, q1, q2, ⟨vs, q3, q4, q5⟩, q6⟩ := h8.obs id _ (show (H.pushTok ⟨0, e, sz⟩).obj id = _ from hk)
  obtain ⟨v, q7, q8⟩ := q4.index hj
  have hv : v = .slice none 0 0 := by cases q8; rfl
  have hset : vs.set j v = vs := by
    obtain ⟨hlt, hv'⟩ := List.getElem?_eq_some_iff.1 q7
    subst hv'
    exact List.set_getElem_self hlt
  have hself : w.grownBy w (some b) := ⟨rfl, rfl, rfl, Nat.le_refl _, fun _ _ _ => rfl⟩
  have h10 := h8.setObj (o' := .cells (cs.set j (.own [] H.m)) t) (show (H.pushTok ⟨0, e, sz⟩).obj id = _ from hk) q1 hself ⟨vs, q3, by
    rw [← hset]
    exact q4.set j (by rw [hv]; exact .own _ _ _ _ (by simp [Gh.addTk]; rfl) (by simp) (fun _ => rfl) (by simp) .sliceNil), fun c hc => by
    rcases List.mem_or_eq_of_mem_set hc with hc | rfl
    · exact q5 c hc
    · rfl⟩
  exact wp_mono (h c hc hd _ a w h10 (hE.mono h9) had) fun ex a' w' ⟨G', env', H', k1, k2, k3, k4, k5⟩ => ⟨G', env', H', h9.trans k1, k2, k3, k4, k5⟩
end
end Go.Ai
