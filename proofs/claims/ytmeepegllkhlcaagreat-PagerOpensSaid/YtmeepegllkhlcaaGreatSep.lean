/-
  Partial heaps and assertions over them, joined by a product that keeps its two sides apart: plain lemmas, of no program.
-/
import Derived.WalkKit
import Derived.WalkSmall
namespace Go.Proofs.YtmeepegllkhlcaaGreat
open Go Go.RowKit

/-! ### partial heaps and assertions -/
abbrev Hp := Nat → Option Obj
def HProp : Type := Hp → Prop

def disj (a b : Hp) : Prop := ∀ i, a i = none ∨ b i = none
def union (a b : Hp) : Hp := fun i => (a i).or (b i)

theorem disj_symm {a b : Hp} (h : disj a b) : disj b a := fun i => (h i).symm
theorem union_comm {a b : Hp} (h : disj a b) : union a b = union b a := by
  funext i
  rcases h i with e | e <;> simp [union, e]
theorem union_assoc (a b c : Hp) : union (union a b) c = union a (union b c) := by
  funext i
  simp only [union]
  cases a i <;> simp

def sep (A B : HProp) : HProp := fun h => ∃ a b : Hp, disj a b ∧ h = union a b ∧ A a ∧ B b
def emp : HProp := fun h => h = fun _ => none
instance : Mul HProp := ⟨sep⟩
instance : One HProp := ⟨emp⟩

theorem mul_def (A B : HProp) (h : Hp) : (A * B) h = ∃ a b : Hp, disj a b ∧ h = union a b ∧ A a ∧ B b := rfl
theorem sep_comm (A B : HProp) : A * B = B * A := by
  funext h
  apply propext
  constructor
  · rintro ⟨a, b, d, rfl, ha, hb⟩; exact ⟨b, a, disj_symm d, union_comm d, hb, ha⟩
  · rintro ⟨a, b, d, rfl, ha, hb⟩; exact ⟨b, a, disj_symm d, union_comm d, hb, ha⟩
theorem sep_assoc (A B C : HProp) : A * B * C = A * (B * C) := by
  funext h
  apply propext
  constructor
  · rintro ⟨ab, c, d, rfl, ⟨a, b, d', rfl, ha, hb⟩, hc⟩
    have d1 : ∀ i, (a i = none ∧ b i = none) ∨ c i = none := fun i => by
      rcases d i with e | e
      · left; simp only [union, Option.or_eq_none_iff] at e; exact e
      · exact .inr e
    refine ⟨a, union b c, fun i => ?_, union_assoc a b c, ha, b, c, fun i => ?_, rfl, hb, hc⟩
    · rcases d1 i with e | e
      · exact .inl e.1
      · rcases d' i with e' | e'
        · exact .inl e'
        · right; simp [union, e, e']
    · rcases d1 i with e | e
      · exact .inl e.2
      · exact .inr e
  · rintro ⟨a, bc, d, rfl, ha, b, c, d', rfl, hb, hc⟩
    have d1 : ∀ i, a i = none ∨ (b i = none ∧ c i = none) := fun i => by
      rcases d i with e | e
      · exact .inl e
      · right; simp only [union, Option.or_eq_none_iff] at e; exact e
    refine ⟨union a b, c, fun i => ?_, (union_assoc a b c).symm, ⟨a, b, fun i => ?_, rfl, ha, hb⟩, hc⟩
    · rcases d1 i with e | e
      · rcases d' i with e' | e'
        · left; simp [union, e, e']
        · exact .inr e'
      · exact .inr e.2
    · rcases d1 i with e | e
      · exact .inl e
      · exact .inr e.1
theorem sep_left_comm (A B C : HProp) : A * (B * C) = B * (A * C) := by
  rw [← sep_assoc, sep_comm A B, sep_assoc]
theorem emp_sep (A : HProp) : 1 * A = A := by
  funext h
  apply propext
  constructor
  · rintro ⟨a, b, d, rfl, rfl, hb⟩
    have : union (fun _ => none) b = b := by funext i; simp [union]
    rw [this]; exact hb
  · intro hA
    exact ⟨fun _ => none, h, fun _ => .inl rfl, by funext i; simp [union], rfl, hA⟩
theorem sep_emp (A : HProp) : A * 1 = A := by rw [sep_comm, emp_sep]
instance : Std.Associative (α := HProp) (· * ·) := ⟨sep_assoc⟩
instance : Std.Commutative (α := HProp) (· * ·) := ⟨sep_comm⟩

/-- One block. -/
def pt (i : Nat) (o : Obj) : HProp := fun h => h = fun j => if j = i then some o else none
/-- For some x. -/
def ex {α : Sort _} (f : α → HProp) : HProp := fun h => ∃ x, f x h
/-- A plain fact, of no block. -/
def pur (p : Prop) : HProp := fun h => p ∧ h = fun _ => none
/-- All blocks below n, as they are in a heap. -/
def old (n : Nat) (H0 : Array Obj) : HProp := fun h => h = fun i => if i < n then H0[i]? else none

theorem ex_sep {α : Sort _} (f : α → HProp) (B : HProp) : ex f * B = ex fun x => f x * B := by
  funext h
  apply propext
  constructor
  · rintro ⟨a, b, d, e, ⟨x, hx⟩, hb⟩; exact ⟨x, a, b, d, e, hx, hb⟩
  · rintro ⟨x, a, b, d, e, hx, hb⟩; exact ⟨a, b, d, e, ⟨x, hx⟩, hb⟩
theorem pur_sep (p : Prop) (B : HProp) : pur p * B = fun h => p ∧ B h := by
  funext h
  apply propext
  constructor
  · rintro ⟨a, b, d, rfl, ⟨hp, rfl⟩, hb⟩
    have : union (fun _ => none) b = b := by funext i; simp [union]
    rw [this]; exact ⟨hp, hb⟩
  · rintro ⟨hp, hb⟩
    exact ⟨fun _ => none, h, fun _ => .inl rfl, by funext i; simp [union], ⟨hp, rfl⟩, hb⟩

/-- A world bears an assertion (whatever else it holds). -/
def Holds (A : HProp) (w : World) : Prop := ∃ h : Hp, (∀ i o, h i = some o → w.heap[i]? = some o) ∧ A h

theorem Holds.imp {A B : HProp} {w : World} (h : Holds A w) (k : ∀ x, A x → B x) : Holds B w := by
  obtain ⟨x, hx, hA⟩ := h; exact ⟨x, hx, k x hA⟩
theorem Holds.of_heap {A : HProp} {w w' : World} (h : Holds A w) (e : w'.heap = w.heap) : Holds A w' := by
  obtain ⟨x, hx, hA⟩ := h; exact ⟨x, fun i o hi => by rw [e]; exact hx i o hi, hA⟩
theorem holds_ex {α : Sort _} {f : α → HProp} {w : World} : Holds (ex f) w ↔ ∃ x, Holds (f x) w := by
  constructor
  · rintro ⟨h, hh, x, hx⟩; exact ⟨x, h, hh, hx⟩
  · rintro ⟨x, h, hh, hx⟩; exact ⟨h, hh, x, hx⟩
theorem holds_ex_sep {α : Sort _} {f : α → HProp} {B : HProp} {w : World} : Holds (ex f * B) w ↔ ∃ x, Holds (f x * B) w := by
  rw [ex_sep, holds_ex]
theorem holds_pur_sep {p : Prop} {B : HProp} {w : World} : Holds (pur p * B) w ↔ p ∧ Holds B w := by
  rw [pur_sep]
  constructor
  · rintro ⟨h, hh, hp, hB⟩; exact ⟨hp, h, hh, hB⟩
  · rintro ⟨hp, h, hh, hB⟩; exact ⟨h, hh, hp, hB⟩
theorem Holds.right {A B : HProp} {w : World} (h : Holds (A * B) w) : Holds B w := by
  obtain ⟨x, hx, a, b, d, rfl, _, hB⟩ := h
  refine ⟨b, fun i o hi => hx i o ?_, hB⟩
  rcases d i with e | e
  · simp [union, e, hi]
  · rw [hi] at e; cases e
theorem Holds.left {A B : HProp} {w : World} (h : Holds (A * B) w) : Holds A w := by
  rw [sep_comm] at h; exact h.right
theorem Holds.at_ {i : Nat} {o : Obj} {w : World} (h : Holds (pt i o) w) : w.heap[i]? = some o := by
  obtain ⟨x, hx, rfl⟩ := h
  exact hx i o (by simp)
theorem Holds.here {i : Nat} {o : Obj} {F : HProp} {w : World} (h : Holds (pt i o * F) w) : w.heap[i]? = some o := h.left.at_
theorem Holds.lt {i : Nat} {o : Obj} {F : HProp} {w : World} (h : Holds (pt i o * F) w) : i < w.heap.size :=
  (Array.getElem?_eq_some_iff.1 h.here).1
theorem Holds.ne {i j : Nat} {o o' : Obj} {F : HProp} {w : World} (h : Holds (pt i o * (pt j o' * F)) w) : i ≠ j := by
  obtain ⟨x, hx, a, b, d, rfl, rfl, b1, b2, d2, rfl, rfl, _⟩ := h
  intro e
  subst e
  rcases d i with e | e
  · simp at e
  · simp [union] at e
theorem Holds.old_at {n : Nat} {H0 : Array Obj} {w : World} (h : Holds (old n H0) w) (i : Nat) (hi : i < n) (hs : n ≤ H0.size) : w.heap[i]? = H0[i]? := by
  obtain ⟨x, hx, rfl⟩ := h
  have hs' : i < H0.size := by omega
  have := hx i H0[i] (by simp [hi, hs'])
  rw [this]; simp [hs']

/-- What is known of a heap stays known where its blocks stay. -/
theorem Holds.grow {A : HProp} {w w' : World} (h : Holds A w) (hk : ∀ j, j < w.heap.size → w'.heap[j]? = w.heap[j]?) : Holds A w' := by
  obtain ⟨x, hx, hA⟩ := h
  exact ⟨x, fun i o hi => by have := hx i o hi; rw [hk i (Array.getElem?_eq_some_iff.1 this).1]; exact this, hA⟩
/-- One block is turned. -/
theorem Holds.upd {i : Nat} {o o' : Obj} {F : HProp} {w w' : World} (h : Holds (pt i o * F) w) (hi : w'.heap[i]? = some o') (hk : ∀ j, j < w.heap.size → j ≠ i → w'.heap[j]? = w.heap[j]?) :
    Holds (pt i o' * F) w' := by
  obtain ⟨x, hx, a, b, d, rfl, rfl, hF⟩ := h
  have hb : b i = none := by rcases d i with e | e <;> simp_all
  refine ⟨union (fun j => if j = i then some o' else none) b, fun j q hj => ?_, _, b, fun j => ?_, rfl, rfl, hF⟩
  · by_cases e : j = i
    · subst e; simp [union] at hj; subst hj; exact hi
    · simp [union, e] at hj
      have hxj := hx j q (by simp [union, e, hj])
      rw [hk j (Array.getElem?_eq_some_iff.1 hxj).1 e]; exact hxj
  · by_cases e : j = i
    · subst e; exact .inr hb
    · simp [e]
/-- A new block comes. -/
theorem Holds.fresh {F : HProp} {w w' : World} {k : Nat} {o : Obj} (h : Holds F w) (hk : w.heap.size ≤ k) (ho : w'.heap[k]? = some o) (hs : ∀ j, j < w.heap.size → w'.heap[j]? = w.heap[j]?) :
    Holds (pt k o * F) w' := by
  obtain ⟨x, hx, hF⟩ := h
  have hxk : x k = none := by
    cases e : x k with
    | none => rfl
    | some q => have := (Array.getElem?_eq_some_iff.1 (hx k q e)).1; omega
  refine ⟨union (fun j => if j = k then some o else none) x, fun j q hj => ?_, _, x, fun j => ?_, rfl, rfl, hF⟩
  · by_cases e : j = k
    · subst e; simp [union] at hj; subst hj; exact ho
    · simp [union, e] at hj
      have hxj := hx j q hj
      rw [hs j (Array.getElem?_eq_some_iff.1 hxj).1]; exact hxj
  · by_cases e : j = k
    · subst e; exact .inr hxk
    · simp [e]
theorem Holds.alloc {F : HProp} {w : World} (h : Holds F w) (o : Obj) : Holds (pt w.heap.size o * F) (w.alloc o) :=
  h.fresh (Nat.le_refl _) (by show (w.heap.push o)[w.heap.size]? = some o; simp) (fun j hj => by show (w.heap.push o)[j]? = _; simp [Array.getElem?_push, Nat.ne_of_lt hj])
theorem Holds.alloc_only {F : HProp} {w : World} (h : Holds F w) (o : Obj) : Holds F (w.alloc o) := (h.alloc o).right
theorem Holds.drew {F : HProp} {w : World} (h : Holds F w) : Holds F w.drew := h.of_heap rfl
theorem Holds.drewN {F : HProp} {w : World} (h : Holds F w) (n : Nat) : Holds F (w.drewN n) := h.of_heap rfl
theorem Holds.setCell {i off : Nat} {cs : Array Value} {T : TypeId} {fz : Nat × Nat} {F : HProp} {w : World} (h : Holds (pt i (.cells cs T fz) * F) w) (v : Value) :
    Holds (pt i (.cells (cs.setIfInBounds off v) T fz) * F) (w.setCell ⟨i, off, none⟩ v) := by
  have hi := h.here
  refine h.upd ?_ (fun j hj hne => ?_)
  · simp [World.setCell, Array.getElem?_modify, hi]
  · simp [World.setCell, Array.getElem?_modify, Ne.symm hne]
theorem Holds.setCell_only {i off : Nat} {cs : Array Value} {T : TypeId} {fz : Nat × Nat} {F : HProp} {w : World} (h : Holds (pt i (.cells cs T fz) * F) w) (v : Value) :
    Holds F (w.setCell ⟨i, off, none⟩ v) := (h.setCell (off := off) v).right

theorem Holds.cell {i : Nat} {cs : Array Value} {T : TypeId} {fz : Nat × Nat} {F : HProp} {w : World} (h : Holds (pt i (.cells cs T fz) * F) w) (off : Nat) {v : Value} (hv : cs[off]? = some v) : w.cell? ⟨i, off, none⟩ = some v := by
  simp [World.cell?, h.here, hv]
theorem Holds.unfz {i : Nat} {cs : Array Value} {T : TypeId} {F : HProp} {w : World} (h : Holds (pt i (.cells cs T (0, 0)) * F) w) (off : Nat) : w.frozen? ⟨i, off, none⟩ = false := by
  simp [World.frozen?, h.here]

/-- What a call leaves as it was: the outside world, the tape; blocks are only added. -/
structure Keeps (w w' : World) : Prop where
  os : w'.os = w.os
  tape : w'.tape = w.tape
  output : w'.output = w.output
  size : w.heap.size ≤ w'.heap.size
theorem Keeps.refl (w : World) : Keeps w w := ⟨rfl, rfl, rfl, Nat.le_refl _⟩
theorem Keeps.trans {a b c : World} (h : Keeps a b) (k : Keeps b c) : Keeps a c := ⟨k.os.trans h.os, k.tape.trans h.tape, k.output.trans h.output, Nat.le_trans h.size k.size⟩
theorem Keeps.alloc {w w' : World} (h : Keeps w w') (o : Obj) : Keeps w (w'.alloc o) := ⟨h.os, h.tape, h.output, by have := h.size; show w.heap.size ≤ (w'.heap.push o).size; simp; omega⟩
theorem Keeps.drew {w w' : World} (h : Keeps w w') : Keeps w w'.drew := ⟨h.os, h.tape, h.output, h.size⟩
theorem Keeps.drewN {w w' : World} (h : Keeps w w') (n : Nat) : Keeps w (w'.drewN n) := ⟨h.os, h.tape, h.output, h.size⟩
theorem Keeps.setCell {w w' : World} (h : Keeps w w') (a : Addr) (v : Value) : Keeps w (w'.setCell a v) := ⟨h.os, h.tape, h.output, by simp [World.setCell]; exact h.size⟩
theorem Keeps.grown {w w' : World} {row : Option Nat} (h : w.grownBy w' row) : Keeps w w' := ⟨h.os, h.tape, h.output, h.size⟩
theorem Keeps.below {w w' : World} {B : Nat} (h : Below B w w') : Keeps w w' := ⟨h.os, h.tape, h.output, h.size⟩
theorem Holds.below {A : HProp} {w w' : World} (h : Holds A w) (hb : Below w.heap.size w w') : Holds A w' := h.grow fun j hj => hb.block j hj


/-- A call returns v; A holds behind it. -/
def Ret (v : Value) (A : HProp) (w : World) (e : Ending) (w' : World) : Prop := e = .returned v ∧ Holds A w' ∧ Keeps w w'
theorem Ret.mk {v : Value} {A : HProp} {w w' : World} (h : Holds A w') (k : Keeps w w') : Ret v A w (.returned v) w' := ⟨rfl, h, k⟩
theorem ret_int {k : IntKind} {a b : Int} (h : a = b) : Ending.returned (.int k a) = .returned (.int k b) := by rw [h]
theorem ret_str {a b : ByteArray} (h : a = b) : Ending.returned (.string a) = .returned (.string b) := by rw [h]
/-- A text of bytes. -/
def strV (l : List UInt8) : Value := .string ⟨l.toArray⟩
end Go.Proofs.YtmeepegllkhlcaaGreat
