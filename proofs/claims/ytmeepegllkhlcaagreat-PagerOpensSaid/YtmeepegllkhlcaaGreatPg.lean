/-
  A pager as plain data: what its calls come to, over a disk as plain data.
-/
import Derived.Test.YtmeepegllkhlcaaGreatDisk3
import Derived.Test.YtmeepegllkhlcaaGreatHead
namespace Go.Proofs.YtmeepegllkhlcaaGreat

structure Pg where
  first : Nat
  pages : Nat
  root : Int
  frm : Nat
  gen : Nat
  live : List Int
  taken : List Int
  dead : Bool
namespace Pg
structure Ok (p : Pg) (n : Nat) : Prop where
  first2 : 2 ≤ p.first
  pages1 : 1 ≤ p.pages
  fits : p.first + 8 * p.pages ≤ n
  n4096 : n ≤ 4096
  root0 : -1 ≤ p.root
  root1 : p.root < p.pages
  frm1 : 1 ≤ p.frm
  frmMax : p.frm ≤ 1152921504606846976
  gen1 : 1 ≤ p.gen
  genMax : p.gen ≤ 1152921504606846976
  live : ∀ x ∈ p.live, 0 ≤ x ∧ x < p.pages
  liveN : p.live.Nodup
  taken : ∀ x ∈ p.taken, 0 ≤ x ∧ x < p.pages
  takenN : p.taken.Nodup

def is (p : Pg) (x : Int) : Bool := decide (0 ≤ x ∧ x < p.pages)
def used (p : Pg) (x : Int) : Bool := p.live.contains x || p.taken.contains x
def firstFree (p : Pg) : Option Nat := (List.range p.pages).find? fun i : Nat => !p.used (i : Int)
def alloc (p : Pg) : Pg × Int × Int :=
  match p.firstFree with
  | some i => ({ p with taken := (i : Int) :: p.taken }, (i : Int), 0)
  | none => (p, 0, 192)
def free (p : Pg) : Nat := ((List.range p.pages).filter fun i : Nat => !p.used (i : Int)).length
def drop (p : Pg) : Pg := { p with taken := [] }
def told (p : Pg) (e : Int) : Pg := { p with dead := p.dead || e == 2 }
def insAll (xs : List Int) : List Int := xs.foldl (fun l x => l.insert x) []
def setR (may : Int → Bool) (xs : List Int) : Option (List Int) := if xs.all may then some (insAll xs) else none
/-- Pages as a set; none: one may not be in it, or is there twice. -/
def setOf (may : Int → Bool) (xs : List Int) : Option (List Int) := if xs.all may = true ∧ (insAll xs).length = xs.length then some (insAll xs) else none
def setLive (p : Pg) (xs : List Int) : Pg × Int :=
  match setOf p.is xs with
  | some l => ({ p with live := l }, 0)
  | none => (p, 191)
def zeros (n : Nat) : Bs := List.replicate n 0
def write (p : Pg) (D : Dk) (page : Int) (s : Bs) : Pg × Dk × Int :=
  if p.dead then (p, D, 2)
  else if 512 < s.length then (p, D, 193)
  else if p.taken.contains page = false then (p, D, 191)
  else (p.told (D.write ((p.first : Int) + 8 * page) (s ++ zeros (512 - s.length))).2, (D.write ((p.first : Int) + 8 * page) (s ++ zeros (512 - s.length))).1, (D.write ((p.first : Int) + 8 * page) (s ++ zeros (512 - s.length))).2)
def read (p : Pg) (D : Dk) (page : Int) : Bs × Int :=
  if p.is page then D.read ((p.first : Int) + 8 * page) 8 else ([], 191)
/-- A commit's head is written and made safe. -/
def finish (p : Pg) (D : Dk) (root frm : Int) (l : List Int) : Pg × Dk × Int :=
  if D.sync.2 ≠ 0 then (p.told D.sync.2, D.sync.1, D.sync.2)
  else if (D.sync.1.write (((p.gen + 1) % 2 : Nat) : Int) (headL (p.gen + 1) (root + 1).toNat frm.toNat)).2 ≠ 0 then
    (p.told (D.sync.1.write (((p.gen + 1) % 2 : Nat) : Int) (headL (p.gen + 1) (root + 1).toNat frm.toNat)).2, (D.sync.1.write (((p.gen + 1) % 2 : Nat) : Int) (headL (p.gen + 1) (root + 1).toNat frm.toNat)).1, (D.sync.1.write (((p.gen + 1) % 2 : Nat) : Int) (headL (p.gen + 1) (root + 1).toNat frm.toNat)).2)
  else if (D.sync.1.write (((p.gen + 1) % 2 : Nat) : Int) (headL (p.gen + 1) (root + 1).toNat frm.toNat)).1.sync.2 ≠ 0 then
    (p.told (D.sync.1.write (((p.gen + 1) % 2 : Nat) : Int) (headL (p.gen + 1) (root + 1).toNat frm.toNat)).1.sync.2, (D.sync.1.write (((p.gen + 1) % 2 : Nat) : Int) (headL (p.gen + 1) (root + 1).toNat frm.toNat)).1.sync.1, (D.sync.1.write (((p.gen + 1) % 2 : Nat) : Int) (headL (p.gen + 1) (root + 1).toNat frm.toNat)).1.sync.2)
  else ({ p with gen := p.gen + 1, root := root, frm := frm.toNat, live := l, taken := [] }, (D.sync.1.write (((p.gen + 1) % 2 : Nat) : Int) (headL (p.gen + 1) (root + 1).toNat frm.toNat)).1.sync.1, 0)
def commit (p : Pg) (D : Dk) (root frm : Int) (xs : List Int) : Pg × Dk × Int :=
  if p.dead then (p, D, 2)
  else match setOf (fun x => p.is x && p.used x) xs with
    | none => (p, D, 191)
    | some l =>
      if root ≠ -1 ∧ l.contains root = false then (p, D, 191)
      else if frm < 1 ∨ 1152921504606846976 < frm ∨ 1152921504606846976 ≤ p.gen then (p, D, 190)
      else p.finish D root frm l
def check (D : Dk) (first pages frm : Int) : Int :=
  if first < 2 ∨ pages < 1 ∨ 4096 < pages ∨ (D.n : Int) < first ∨ (D.n : Int) - first < 8 * pages ∨ frm < 1 ∨ 1152921504606846976 < frm then 190
  else if D.dead then 2 else 0
/-- What bytes say, the highest first. -/
def beN (s : Bs) : Nat := s.foldl (fun n b => n * 256 + b.toNat) 0
def sub (s : Bs) (a b : Nat) : Bs := (s.drop a).take (b - a)
/-- A head: its number, its root plus one, its From. -/
def parse (pages : Nat) (s : Bs) (at_ : Nat) : Nat × Int × Nat :=
  if beN (sub s 4 12) < 1 ∨ 1152921504606846976 < beN (sub s 4 12) ∨ beN (sub s 4 12) % 2 ≠ at_ ∨ pages < beN (sub s 12 16) ∨ beN (sub s 16 24) < 1 ∨ 1152921504606846976 < beN (sub s 16 24)
      ∨ s ≠ headL (beN (sub s 4 12)) (beN (sub s 12 16)) (beN (sub s 16 24)) then (0, 0, 0)
  else (beN (sub s 4 12), (beN (sub s 12 16) : Int) - 1, beN (sub s 16 24))
def better (p : Pg) (h : Nat × Int × Nat) : Pg := if p.gen < h.1 then { p with gen := h.1, root := h.2.1, frm := h.2.2 } else p
def open_ (D : Dk) (first pages : Int) : Option Pg × Int :=
  if check D first pages 1 ≠ 0 then (none, check D first pages 1)
  else
    let p0 : Pg := { first := first.toNat, pages := pages.toNat, root := 0, frm := 0, gen := 0, live := [], taken := [], dead := false }
    let p1 := (p0.better (parse pages.toNat (D.sec 0) 0)).better (parse pages.toNat (D.sec 1) 1)
    if p1.gen = 0 then (none, 190) else (some p1, 0)
def fresh (first pages frm : Int) : Pg := { first := first.toNat, pages := pages.toNat, root := -1, frm := frm.toNat, gen := 2, live := [], taken := [], dead := false }
def format (D : Dk) (first pages frm : Int) : Dk × Option Pg × Int :=
  if check D first pages frm ≠ 0 then (D, none, check D first pages frm)
  else if (D.write 1 (zeros 64)).2 ≠ 0 then ((D.write 1 (zeros 64)).1, none, 2)
  else if ((D.write 1 (zeros 64)).1.write 0 (headL 2 0 frm.toNat)).2 ≠ 0 then (((D.write 1 (zeros 64)).1.write 0 (headL 2 0 frm.toNat)).1, none, 2)
  else if ((D.write 1 (zeros 64)).1.write 0 (headL 2 0 frm.toNat)).1.sync.2 ≠ 0 then (((D.write 1 (zeros 64)).1.write 0 (headL 2 0 frm.toNat)).1.sync.1, none, 2)
  else (((D.write 1 (zeros 64)).1.write 0 (headL 2 0 frm.toNat)).1.sync.1, some (fresh first pages frm), 0)

/-! ### small facts -/
theorem told_live (p : Pg) (e : Int) : (p.told e).live = p.live := rfl
theorem told_zero {p : Pg} : p.told 0 = p := by simp [told]
theorem mem_foldl_insert (x : Int) : ∀ (xs acc : List Int), x ∈ xs.foldl (fun l x => l.insert x) acc ↔ x ∈ acc ∨ x ∈ xs
  | [], acc => by simp
  | a :: xs, acc => by
    rw [List.foldl_cons, mem_foldl_insert x xs, List.mem_insert_iff, List.mem_cons]
    constructor
    · rintro ((h | h) | h)
      · exact .inr (.inl h)
      · exact .inl h
      · exact .inr (.inr h)
    · rintro (h | h | h)
      · exact .inl (.inr h)
      · exact .inl (.inl h)
      · exact .inr h
theorem mem_insAll (xs : List Int) (x : Int) : x ∈ insAll xs ↔ x ∈ xs := by
  unfold insAll
  rw [mem_foldl_insert]; simp
theorem nodup_insert {l : List Int} (h : l.Nodup) (x : Int) : (l.insert x).Nodup := by
  by_cases hx : x ∈ l
  · rw [List.insert_of_mem hx]; exact h
  · rw [List.insert_of_not_mem hx]; exact List.nodup_cons.2 ⟨hx, h⟩
theorem foldl_insert_nodup : ∀ (xs acc : List Int), acc.Nodup → (xs.foldl (fun l x => l.insert x) acc).Nodup
  | [], _, h => h
  | a :: xs, acc, h => foldl_insert_nodup xs _ (nodup_insert h a)
theorem insAll_nodup (xs : List Int) : (insAll xs).Nodup := foldl_insert_nodup xs [] List.nodup_nil
theorem nodup_lt : ∀ (k : Nat) (l : List Nat), l.Nodup → (∀ x ∈ l, x < k) → l.length ≤ k
  | 0, l, _, h => by
    cases l with
    | nil => simp
    | cons a l => exact absurd (h a (by simp)) (Nat.not_lt_zero _)
  | k + 1, l, hn, h => by
    by_cases hk : k ∈ l
    · have := nodup_lt k (l.erase k) (hn.erase k) (fun x hx => by
        have h1 := (hn.mem_erase_iff).1 hx
        have := h x h1.2
        have := h1.1
        omega)
      rw [List.length_erase_of_mem hk] at this
      omega
    · have := nodup_lt k l hn (fun x hx => by
        have := h x hx
        have : x ≠ k := fun e => hk (e ▸ hx)
        omega)
      omega
theorem nodup_le {l : List Int} {k : Nat} (h : ∀ x ∈ l, 0 ≤ x ∧ x < (k : Int)) (hn : l.Nodup) : l.length ≤ k := by
  have h1 : (l.map Int.toNat).Nodup := by
    rw [List.Nodup, List.pairwise_map]
    exact List.Pairwise.imp_of_mem (fun {a b} ha hb hne he => hne (by have := h a ha; have := h b hb; omega)) hn
  have := nodup_lt k _ h1 (fun x hx => by
    obtain ⟨y, hy, rfl⟩ := List.mem_map.1 hx
    have := h y hy
    omega)
  simpa using this
theorem setOf_some {may : Int → Bool} {xs l : List Int} (h : setOf may xs = some l) : l = insAll xs ∧ (∀ x ∈ l, may x = true) ∧ l.Nodup := by
  unfold setOf at h
  split at h
  · rename_i hc
    cases h
    refine ⟨rfl, fun x hx => List.all_eq_true.1 hc.1 x ((mem_insAll _ _).1 hx), insAll_nodup _⟩
  · cases h
end Pg
end Go.Proofs.YtmeepegllkhlcaaGreat
