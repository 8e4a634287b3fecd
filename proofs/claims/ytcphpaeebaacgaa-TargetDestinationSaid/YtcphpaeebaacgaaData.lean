/- A part of the proof: no statement of the seat is proved in this text. -/
import Derived.Test.YtcphpaeebaacgaaAi19
namespace Go.Ai
open Go

structure Id where
  act : Int
  item : Int
  n : Int
  deriving DecidableEq, Inhabited
structure Wd where
  text : ByteArray
  origin : Id
  deriving DecidableEq, Inhabited
structure U where
  id : Id
  kind : Int
  label : ByteArray
  head : List Wd
  words : List Wd
  kids : List U
  deriving Inhabited
structure Step where
  kind : Int
  label : ByteArray
  deriving DecidableEq, Inhabited

def Id.cs (i : Id) : List AV := [.int .i64 i.act, .int .i64 i.item, .int .i64 i.n]
def eId (i : Id) : AV := .agg i.cs
def eW (w : Wd) : AV := .agg (.str w.text :: w.origin.cs)
def eS (s : Step) : AV := .agg [.int .i64 s.kind, .str s.label]
mutual
def eU : U → AV
  | ⟨id, kind, label, head, words, kids⟩ => .agg [.int .i64 id.act, .int .i64 id.item, .int .i64 id.n, .int .i64 kind, .str label, .slice (head.map eW), .slice (words.map eW), .slice (eUs kids)]
def eUs : List U → List AV
  | [] => []
  | u :: us => eU u :: eUs us
end
theorem eUs_eq (l : List U) : eUs l = l.map eU := by induction l with
  | nil => rfl
  | cons u l ih => simp [eUs, ih]
def U.cs (u : U) : List AV := [.int .i64 u.id.act, .int .i64 u.id.item, .int .i64 u.id.n, .int .i64 u.kind, .str u.label, .slice (u.head.map eW), .slice (u.words.map eW), .slice (u.kids.map eU)]
theorem eU_eq (u : U) : eU u = .agg u.cs := by cases u; simp [eU, U.cs, eUs_eq]
@[go_sem] theorem cells_eU (u : U) : (eU u).cells = [.int .i64 u.id.act, .int .i64 u.id.item, .int .i64 u.id.n, .int .i64 u.kind, .str u.label, .slice (u.head.map eW), .slice (u.words.map eW), .slice (u.kids.map eU)] := by rw [eU_eq]; rfl
@[go_sem] theorem fold_eU (u : U) : AV.agg [.int .i64 u.id.act, .int .i64 u.id.item, .int .i64 u.id.n, .int .i64 u.kind, .str u.label, .slice (u.head.map eW), .slice (u.words.map eW), .slice (u.kids.map eU)] = eU u := by rw [eU_eq]; rfl
@[go_sem] theorem cells_eId (i : Id) : (eId i).cells = [.int .i64 i.act, .int .i64 i.item, .int .i64 i.n] := rfl
@[go_sem] theorem fold_eId (i : Id) : AV.agg [.int .i64 i.act, .int .i64 i.item, .int .i64 i.n] = eId i := rfl
@[go_sem] theorem cells_eW (w : Wd) : (eW w).cells = [.str w.text, .int .i64 w.origin.act, .int .i64 w.origin.item, .int .i64 w.origin.n] := rfl
@[go_sem] theorem fold_eW (w : Wd) : AV.agg [.str w.text, .int .i64 w.origin.act, .int .i64 w.origin.item, .int .i64 w.origin.n] = eW w := rfl
@[go_sem] theorem cells_eS (w : Step) : (eS w).cells = [.int .i64 w.kind, .str w.label] := rfl
@[go_sem] theorem fold_eS (w : Step) : AV.agg [.int .i64 w.kind, .str w.label] = eS w := rfl
@[go_sem] theorem agg_eU (u : U) : (eU u).isAgg = true := by rw [eU_eq]; rfl
@[go_sem] theorem agg_eId (i : Id) : (eId i).isAgg = true := rfl
@[go_sem] theorem agg_eW (i : Wd) : (eW i).isAgg = true := rfl
@[go_sem] theorem agg_eS (i : Step) : (eS i).isAgg = true := rfl

theorem fit_map {α : Type} (e : α → AV) {n m : Nat} (h : ∀ x, (e x).fit n m = true) (l : List α) : AV.fitL n m (l.map e) = true := by
  rw [fitL_iff]; intro x hx; simp at hx; obtain ⟨y, _, rfl⟩ := hx; exact h y
@[go_sem] theorem fit_eId (i : Id) (n m : Nat) : (eId i).fit n m = true := by simp [eId, Id.cs, AV.fit, AV.fitL]
@[go_sem] theorem fit_eW (i : Wd) (n m : Nat) : (eW i).fit n m = true := by simp [eW, Id.cs, AV.fit, AV.fitL]
@[go_sem] theorem fit_eS (i : Step) (n m : Nat) : (eS i).fit n m = true := by simp [eS, AV.fit, AV.fitL]
mutual
theorem fit_eU (n m : Nat) : (u : U) → (eU u).fit n m = true
  | ⟨id, kind, label, head, words, kids⟩ => by
    simp only [eU, AV.fit, AV.fitL, fit_map eW (fun w => fit_eW w n m), fit_eUs n m kids, Bool.and_self]
theorem fit_eUs (n m : Nat) : (l : List U) → AV.fitL n m (eUs l) = true
  | [] => rfl
  | u :: us => by simp [eUs, AV.fitL, fit_eU n m u, fit_eUs n m us]
end
attribute [go_sem] fit_eU
@[go_sem] theorem fitL_eU (l : List U) (n m : Nat) : AV.fitL n m (l.map eU) = true := fit_map eU (fit_eU n m) l
@[go_sem] theorem fitL_eId (l : List Id) (n m : Nat) : AV.fitL n m (l.map eId) = true := fit_map eId (fun i => fit_eId i n m) l
@[go_sem] theorem fitL_eW (l : List Wd) (n m : Nat) : AV.fitL n m (l.map eW) = true := fit_map eW (fun i => fit_eW i n m) l
@[go_sem] theorem fitL_eS (l : List Step) (n m : Nat) : AV.fitL n m (l.map eS) = true := fit_map eS (fun i => fit_eS i n m) l

/-- What is known of a unit that stands there. -/
structure U.Good (u : U) : Prop where
  act : -9223372036854775808 ≤ u.id.act ∧ u.id.act ≤ 9223372036854775807
  item : -9223372036854775808 ≤ u.id.item ∧ u.id.item ≤ 9223372036854775807
  n : -9223372036854775808 ≤ u.id.n ∧ u.id.n ≤ 9223372036854775807
  kind : -9223372036854775808 ≤ u.kind ∧ u.kind ≤ 9223372036854775807
  label : u.label.size ≤ 281474976710656
  head : u.head.length ≤ 281474976710656
  words : u.words.length ≤ 281474976710656
  kids : u.kids.length ≤ 281474976710656
  kid : ∀ k ∈ u.kids, (eU k).Ok
theorem U.good {u : U} (h : (eU u).Ok) : u.Good := by
  rw [eU_eq] at h
  refine ⟨(h.agg (c := .int .i64 u.id.act) (by simp [U.cs])).i64, (h.agg (c := .int .i64 u.id.item) (by simp [U.cs])).i64, (h.agg (c := .int .i64 u.id.n) (by simp [U.cs])).i64, (h.agg (c := .int .i64 u.kind) (by simp [U.cs])).i64,
    (h.agg (c := .str u.label) (by simp [U.cs])).str, ?_, ?_, ?_, fun k hk => ?_⟩
  · simpa using (h.agg (c := .slice (u.head.map eW)) (by simp [U.cs])).slice
  · simpa using (h.agg (c := .slice (u.words.map eW)) (by simp [U.cs])).slice
  · simpa using (h.agg (c := .slice (u.kids.map eU)) (by simp [U.cs])).slice
  · have := (h.agg (c := .slice (u.kids.map eU)) (by simp [U.cs]))
    rw [eU_eq]
    exact AV.Ok.elem_agg this (by rw [← eU_eq]; exact List.mem_map_of_mem hk)
theorem kid_lt {u k : U} (h : k ∈ u.kids) : SizeOf.sizeOf k < SizeOf.sizeOf u := by
  have := List.sizeOf_lt_of_mem h
  cases u
  simp at this ⊢
  omega
theorem elem_eU (l : List U) : ∀ z, z ∈ l.map eU → z.cells.length = 8 ∧ z.cells.all AV.scal = true := by
  intro z hz
  obtain ⟨u, _, rfl⟩ := List.mem_map.1 hz
  rw [cells_eU]; exact ⟨rfl, rfl⟩
theorem elem_eId (l : List Id) : ∀ z, z ∈ l.map eId → z.cells.length = 3 ∧ z.cells.all AV.scal = true := by
  intro z hz
  obtain ⟨u, _, rfl⟩ := List.mem_map.1 hz
  rw [cells_eId]; exact ⟨rfl, rfl⟩
theorem elem_eW (l : List Wd) : ∀ z, z ∈ l.map eW → z.cells.length = 4 ∧ z.cells.all AV.scal = true := by
  intro z hz
  obtain ⟨u, _, rfl⟩ := List.mem_map.1 hz
  rw [cells_eW]; exact ⟨rfl, rfl⟩
theorem elem_str (l : List ByteArray) : ∀ z, z ∈ l.map AV.str → z.cells.length = 1 ∧ z.cells.all AV.scal = true := by
  intro z hz
  obtain ⟨u, _, rfl⟩ := List.mem_map.1 hz
  exact ⟨rfl, rfl⟩
end Go.Ai
