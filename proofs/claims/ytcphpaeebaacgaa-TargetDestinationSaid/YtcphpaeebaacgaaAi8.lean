/- A part of the proof: no statement of the seat is proved in this text. -/
import Derived.Test.YtcphpaeebaacgaaAi7
set_option linter.unusedVariables false
set_option linter.unusedSimpArgs false
namespace Go.Ai
open Go Go.RowKit

def enumF (k : Nat) : List AV → List (Nat × AV)
  | [] => []
  | x :: xs => (k, x) :: enumF (k + 1) xs

theorem afill_seq (s : Nat) : ∀ (vals done rest : List AV), (∀ x, x ∈ done → x.cells.length = s) → (∀ x, x ∈ vals → x.cells.length = s ∧ x.cells.all AV.scal = true) → rest.length = vals.length * s →
    afill (fun k => some (k * s, s)) (flat done ++ rest) (enumF done.length vals) = some (flat (done ++ vals))
  | [], done, rest, hd, hv, hl => by
    have : rest = [] := List.eq_nil_of_length_eq_zero (by simpa using hl)
    subst this
    simp [enumF, afill]
  | x :: xs, done, rest, hd, hv, hl => by
    have hfl := flat_length hd
    have hx := hv x (List.mem_cons_self ..)
    have hl' : rest.length = xs.length * s + s := by rw [hl, List.length_cons, Nat.add_mul]; omega
    simp only [enumF, afill]
    rw [if_pos ⟨hx.1, by rw [List.length_append, hfl]; omega, hx.2⟩]
    have e : (flat done ++ rest).take (done.length * s) ++ x.cells ++ (flat done ++ rest).drop (done.length * s + s) = flat (done ++ [x]) ++ rest.drop s := by
      rw [← hfl]
      simp [flat_append, flat_cons, flat_nil, List.drop_append]
    rw [e]
    have ih := afill_seq s xs (done ++ [x]) (rest.drop s) (fun y hy => by
      rcases List.mem_append.1 hy with hy | hy
      · exact hd y hy
      · simp at hy; subst hy; exact hx.1) (fun y hy => hv y (List.mem_cons_of_mem _ hy)) (by simp; omega)
    simp at ih
    simp [ih]

theorem RepL.anys (G : Gh) (zs : List Value) : RepL G (List.replicate zs.length .any) zs :=
  ⟨by simp, fun j c v h1 h2 => by
    rw [List.getElem?_replicate] at h1
    split at h1
    · simp at h1; subst h1; exact .any _
    · cases h1⟩

theorem RepK.of_new {G : Gh} {b : Nat} {cs : List AV} {vs : List Value} (h : RepL G cs vs) (hle : G.le (G.addK b vs)) : RepK (G.addK b vs) b 0 cs := by
  intro o c hc
  obtain ⟨v, h1, h2⟩ := h.index hc
  exact ⟨v, by simp [Gh.addK, h1], h2.mono hle⟩

section
variable {P : Program} {w0 : World} {tt : TT} {env : Env} {H : AH} {ty : TypeId}

/-- A new immutable block. -/
theorem Sim.allocImm {G : Gh} {w : World} (hS : Sim w0 G H w) (vs : List Value) (t : TypeId) :
    Sim w0 (G.addK w.heap.size vs) H (w.alloc (.cells vs.toArray t)) ∧ G.le (G.addK w.heap.size vs) :=
  (hS.frame (World.grownBy_alloc w _ _)).addImm (hS.fresh (Nat.le_refl _)) (fun o v hv => by rw [World.cell?_alloc_new]; simpa using hv)

theorem ok_buildSlice (htt : TtOk P tt) (t : TypeId) (i : TyI) (hi : tt t = some i) (e : TypeId) (j : TyI) (hj : tt e = some j) (hu : i.u = .slice e) (n : Nat) (parts : Array (Nat × Operand))
    (hp : parts.toList.map (·.1) = List.range' 0 n) (hv : ∀ x, x ∈ parts.toList.map (fun p => aev env p.2) → x.cells.length = j.size ∧ x.cells.all AV.scal = true) (hlim : n * j.size ≤ 16777216) (hj0 : 0 < j.size) :
    OpOk P w0 env H (.buildSlice t n parts) ty (.lit (parts.toList.map fun p => aev env p.2)) H := by
  intro G N a w oo hS hE ho hty
  obtain ⟨f, z, h1, h2, h3, h4, h5, h6, h7⟩ := (htt e j hj).info
  have hut := (htt t i hi).u
  rw [hu] at hut
  have hn : (parts.toList.map fun p => aev env p.2).length = n := by
    have := congrArg List.length hp; simpa using this
  have henum : ∀ (ps : List (Nat × Operand)) (k : Nat), ps.map (·.1) = List.range' k ps.length → ps.map (fun p => (p.1, aev env p.2)) = enumF k (ps.map fun p => aev env p.2) := by
    intro ps
    induction ps with
    | nil => intro k _; rfl
    | cons p ps ih =>
      intro k hk
      simp [List.range'_succ] at hk
      simp [enumF, hk.1, ih (k + 1) hk.2]
  have hen := henum parts.toList 0 (by rw [hp]; congr 1; simpa using hn.symm)
  let zs : Array Value := (Array.range (n * j.size)).map ((if n * j.size = 0 then #[] else z.cells)[· % (if n * j.size = 0 then #[] else z.cells).size]!)
  have hzs : zs.toList.length = n * j.size := by simp [zs]
  have hfill := afill_seq j.size (parts.toList.map fun p => aev env p.2) [] (List.replicate (n * j.size) .any) (by simp) hv (by simp [hn])
  obtain ⟨us, k1, k2⟩ := fill_rep (G := G) (parts.toList.map fun p => (p.1, aev env p.2)) (parts.toList.map fun p => (p.1, a.eval p.2)) (List.replicate (n * j.size) .any) (flat (parts.toList.map fun p => aev env p.2)) zs
    (by rw [hen]; simpa [flat_nil] using hfill) (by have := RepL.anys G zs.toList; rwa [hzs] at this) (by simp) (by
    intro j x p hx hp
    simp only [List.getElem?_map, Option.map_eq_some_iff] at hx hp
    obtain ⟨q, hq, rfl⟩ := hx
    obtain ⟨q', hq', rfl⟩ := hp
    rw [hq] at hq'; simp at hq'; subst hq'
    exact ⟨rfl, hE.eval _⟩)
  obtain ⟨hS', hle⟩ := hS.allocImm us.toList e
  have hun : ∀ x, x ∈ (parts.toList.map fun p => aev env p.2) → x.cells.length = j.size := fun x hx => (hv x hx).1
  have hn24 : n ≤ 16777216 := Nat.le_trans (Nat.le_mul_of_pos_right n hj0) hlim
  have hrs := Rep.slice_mk (cap := n) (RepK.of_new k2 hle) hun (by omega) (by omega)
  rw [hn] at hrs
  refine ⟨.value (.slice (some ⟨w.heap.size, 0, none⟩) n n), .slice (some ⟨w.heap.size, 0, none⟩) n n, _, _, ?_, rfl, hle, hS', ?_⟩
  · have hz : (sizeOf e).run P w = .ok j.size w := by simp [sizeOf, typeInfo, h1, h2]
    have hl24 : ¬ (n * j.size > 2 ^ 24) := by omega
    have hzr : ((if n * j.size = 0 then Pure.pure #[] else do Pure.pure (← zeroValue e).cells : Sem (Array Value))).run P w = .ok (if n * j.size = 0 then #[] else z.cells) w := by
      split <;> simp [zeroValue, typeInfo, h1, h4]
    have k1' : Instr.fill (fun i => some (i * j.size, j.size)) zs (parts.map fun (i, x) => (i, a.eval x)).toList = some us := by
      rw [← k1]; congr 1; simp
    simp only [execOp, ho, Instr.buildSlice, Sem.run_bind, run_underlying hut, Result.andThen_ok, hz, if_neg hl24, hzr]
    have e1 : (parts.map fun x => (x.1, a.eval x.2)) = parts.map fun (i, x) => (i, a.eval x) := rfl
    by_cases h0 : n * j.size = 0
    · have hz0 : zs = (Array.range (n * j.size)).map (fun x => (#[] : Array Value)[x % (#[] : Array Value).size]!) := by simp only [zs, if_pos h0]
      rw [hz0] at k1'
      simp only [if_pos h0, Sem.run_bind, Sem.run_pure, Result.andThen_ok]
      rw [e1, k1']
      simp [newRow]
    · have hz0 : zs = (Array.range (n * j.size)).map (fun x => z.cells[x % z.cells.size]!) := by simp only [zs, if_neg h0]
      rw [hz0] at k1'
      simp only [if_neg h0, Sem.run_bind, Sem.run_pure, Result.andThen_ok, zeroValue, typeInfo]
      simp only [program, Sem.run, Sem.run_bind, Sem.run_pure, Result.andThen_ok, h1, h4]
      rw [e1, k1']
      simp [newRow]
  · have := Rep.lit _ _ (by rw [hn]; exact hrs)
    rw [hn] at this
    exact this
end
end Go.Ai
