/-
  A disk of sectors, as plain data: what is safe, what is written and not safe, when the power goes. No program here.
-/
namespace Go.Proofs.YtmeepegllkhlcaaGreat

abbrev Bs := List UInt8

structure Dk where
  safe : List Bs
  wr : List (Option Bs)
  armed : Int
  kept : List Int
  dead : Bool

namespace Dk
/-- What always holds. -/
structure Ok (D : Dk) : Prop where
  pos : 1 ≤ D.safe.length
  most : D.safe.length ≤ 4096
  wr : D.wr.length = D.safe.length
  safe64 : ∀ s ∈ D.safe, s.length = 64
  wr64 : ∀ s, some s ∈ D.wr → s.length = 64
  armed0 : 0 ≤ D.armed
  armedmax : D.armed ≤ 9223372036854775807

def n (D : Dk) : Nat := D.safe.length
def w? (D : Dk) (i : Nat) : Option Bs := D.wr.getD i none
def sec (D : Dk) (i : Nat) : Bs := (D.w? i).getD (D.safe.getD i [])
def cnt (D : Dk) : Nat := (D.wr.filter Option.isSome).length
def unsafes (D : Dk) : List Nat := (List.range D.wr.length).filter fun i => (D.w? i).isSome
/-- The safe sectors, the first k unsafe ones laid over them: the j-th if c j. -/
def leftTo (D : Dk) (c : Nat → Bool) : Nat → List Bs
  | 0 => D.safe
  | j + 1 => if c j then (D.leftTo c j).set (D.unsafes.getD j 0) (D.sec (D.unsafes.getD j 0)) else D.leftTo c j
def left (D : Dk) (c : Nat → Bool) : List Bs := D.leftTo c D.unsafes.length
def comes (kept : List Int) (j : Nat) : Bool := match kept[j]? with | some x => decide (0 < x) | none => false
def after (D : Dk) (kept : List Int) : List Bs := D.left (comes kept)
def image (D : Dk) : List Bs := D.left fun _ => true
def becomes (D : Dk) (s : List Bs) : Dk := { D with safe := s, wr := List.replicate s.length none }
def die (D : Dk) (kept : List Int) : Dk := { D.becomes (D.after kept) with armed := 0, dead := true }
/-- A step is counted; does the power go in it? -/
def stepD (D : Dk) : Dk := if D.armed = 0 then D else { D with armed := D.armed - 1 }
def gone (D : Dk) : Bool := D.armed == 1
def put (D : Dk) (i : Nat) (s : Bs) : Dk := { D with wr := D.wr.set i (some s) }
/-- Sectors are written one by one; the error: 2 where the power goes. -/
def writeGo (D : Dk) (at_ : Nat) : List Bs → Dk × Int
  | [] => (D, 0)
  | c :: cs => if D.armed = 1 then (((D.put at_ c).stepD).die D.kept, 2) else writeGo ((D.put at_ c).stepD) (at_ + 1) cs
/-- A text cut into sectors. -/
def chunks (s : Bs) : List Bs := (List.range (s.length / 64)).map fun i => (s.drop (64 * i)).take 64
def write (D : Dk) (at_ : Int) (s : Bs) : Dk × Int :=
  if D.dead then (D, 2)
  else if s.length % 64 ≠ 0 then (D, 172)
  else if at_ < 0 ∨ (D.n : Int) < at_ ∨ (D.n : Int) - at_ < ((s.length / 64 : Nat) : Int) then (D, 171)
  else D.writeGo at_.toNat (chunks s)
def sync (D : Dk) : Dk × Int :=
  if D.dead then (D, 2)
  else if D.armed = 1 then (D.stepD.die D.kept, 2)
  else (D.stepD.becomes D.image, 0)
def arm (D : Dk) (m : Int) (kept : List Int) : Dk × Int :=
  if D.dead then (D, 2) else if m < 0 then (D, 1) else ({ D with armed := m, kept := kept }, 0)
def crash (D : Dk) (kept : List Int) : Dk × Int := if D.dead then (D, 2) else (D.die kept, 0)
def revive (D : Dk) : Dk := { D with armed := 0, dead := false }
def secs (D : Dk) (at_ count : Nat) : List Bs := (List.range count).map fun i => D.sec (at_ + i)
def read (D : Dk) (at_ count : Int) : Bs × Int :=
  if D.dead then ([], 2)
  else if at_ < 0 ∨ count < 0 ∨ (D.n : Int) < at_ ∨ (D.n : Int) - at_ < count then ([], 171)
  else ((D.secs at_.toNat count.toNat).flatten, 0)
def new (image : Bs) : Dk := { safe := chunks image, wr := List.replicate (image.length / 64) none, armed := 0, kept := [], dead := false }
def newOk (image : Bs) : Bool := decide (image.length ≠ 0 ∧ image.length % 64 = 0 ∧ image.length ≤ 262144)

/-! ### small facts -/
theorem sec_length {D : Dk} (h : D.Ok) {i : Nat} (hi : i < D.n) : (D.sec i).length = 64 := by
  unfold sec w?
  cases e : D.wr.getD i none with
  | some t =>
    have : i < D.wr.length := by rw [h.wr]; exact hi
    simp only [Option.getD_some]
    refine h.wr64 t ?_
    rw [List.getD_eq_getElem?_getD, List.getElem?_eq_getElem this] at e
    simp at e
    rw [← e]; exact List.getElem_mem this
  | none =>
    have hi' : i < D.safe.length := hi
    simp only [Option.getD_none, List.getD_eq_getElem?_getD, List.getElem?_eq_getElem hi', Option.getD_some]
    exact h.safe64 _ (List.getElem_mem hi')

theorem mem_unsafes {D : Dk} (h : D.Ok) {i : Nat} : i ∈ D.unsafes ↔ (D.w? i).isSome = true := by
  simp only [unsafes, List.mem_filter, List.mem_range]
  refine ⟨fun h => h.2, fun hs => ⟨?_, hs⟩⟩
  rcases Nat.lt_or_ge i D.wr.length with h1 | h1
  · exact h1
  · simp [w?, List.getD_eq_getElem?_getD, List.getElem?_eq_none h1] at hs
theorem unsafes_lt {D : Dk} (h : D.Ok) {i : Nat} (hi : i ∈ D.unsafes) : i < D.n := by
  simp only [unsafes, List.mem_filter, List.mem_range] at hi
  have := h.wr
  have : D.n = D.safe.length := rfl
  omega
theorem leftTo_length (D : Dk) (c : Nat → Bool) : ∀ k, (D.leftTo c k).length = D.n
  | 0 => rfl
  | k + 1 => by
    unfold leftTo
    split
    · rw [List.length_set]; exact leftTo_length D c k
    · exact leftTo_length D c k
theorem leftTo_at {D : Dk} (h : D.Ok) (c : Nat → Bool) : ∀ k, k ≤ D.unsafes.length → ∀ i, i < D.n → (D.leftTo c k).getD i [] = D.safe.getD i [] ∨ ((D.leftTo c k).getD i [] = D.sec i ∧ (D.w? i).isSome = true)
  | 0, _, i, _ => .inl rfl
  | k + 1, hk, i, hi => by
    have ih := leftTo_at h c k (by omega) i hi
    unfold leftTo
    split
    · have hu : D.unsafes.getD k 0 ∈ D.unsafes := by
        rw [List.getD_eq_getElem?_getD, List.getElem?_eq_getElem (by omega)]
        exact List.getElem_mem _
      by_cases e : D.unsafes.getD k 0 = i
      · refine .inr ?_
        rw [e] at hu ⊢
        refine ⟨?_, (mem_unsafes h).1 hu⟩
        have hl := leftTo_length D c k
        simp [List.getD_eq_getElem?_getD, List.getElem?_set, hl, hi]
      · have e1 : ((D.leftTo c k).set (D.unsafes.getD k 0) (D.sec (D.unsafes.getD k 0))).getD i [] = (D.leftTo c k).getD i [] := by
          simp only [List.getD_eq_getElem?_getD, List.getElem?_set]
          simp only [List.getD_eq_getElem?_getD] at e
          rw [if_neg e]
        rw [e1]; exact ih
    · exact ih
theorem leftTo_all {D : Dk} (h : D.Ok) : ∀ k, k ≤ D.unsafes.length → ∀ j, j < k → (D.leftTo (fun _ => true) k).getD (D.unsafes.getD j 0) [] = D.sec (D.unsafes.getD j 0)
  | 0, _, j, hj => by omega
  | k + 1, hk, j, hj => by
    have hl := leftTo_length D (fun _ => true) k
    unfold leftTo
    rw [if_pos rfl]
    have hlt : ∀ m, m < D.unsafes.length → D.unsafes.getD m 0 < D.n := fun m hm => by
      refine unsafes_lt h ?_
      rw [List.getD_eq_getElem?_getD, List.getElem?_eq_getElem hm]
      exact List.getElem_mem _
    have h1 := hlt k (by omega)
    by_cases e : D.unsafes.getD k 0 = D.unsafes.getD j 0
    · rw [e] at h1 ⊢
      rw [List.getD_eq_getElem?_getD, List.getElem?_set, if_pos rfl, if_pos (by rw [hl]; exact h1)]
      rfl
    · have hjk : j < k := by
        rcases Nat.lt_or_ge j k with h' | h'
        · exact h'
        · exact absurd (by rw [show j = k from by omega]) e
      rw [List.getD_eq_getElem?_getD, List.getElem?_set, if_neg e, ← List.getD_eq_getElem?_getD]
      exact leftTo_all h k (by omega) j hjk
theorem left_length (D : Dk) (c : Nat → Bool) : (D.left c).length = D.n := leftTo_length D c _
theorem left_at {D : Dk} (h : D.Ok) (c : Nat → Bool) {i : Nat} (hi : i < D.n) : (D.left c).getD i [] = D.safe.getD i [] ∨ ((D.left c).getD i [] = D.sec i ∧ (D.w? i).isSome = true) :=
  leftTo_at h c _ (Nat.le_refl _) i hi
/-- All that is read is the image. -/
theorem image_at {D : Dk} (h : D.Ok) {i : Nat} (hi : i < D.n) : D.image.getD i [] = D.sec i := by
  rcases left_at h (fun _ => true) hi with h1 | h1
  · cases hw : D.w? i with
    | none => unfold image; rw [h1]; simp [sec, hw]
    | some t =>
      have hm := (mem_unsafes h (i := i)).2 (by simp [hw])
      obtain ⟨j, hj, rfl⟩ := List.getElem_of_mem hm
      have := leftTo_all h _ (Nat.le_refl _) j hj
      have e : D.unsafes.getD j 0 = D.unsafes[j] := by simp [List.getD_eq_getElem?_getD, List.getElem?_eq_getElem hj]
      rw [e] at this
      exact this
  · exact h1.1
theorem left_64 {D : Dk} (h : D.Ok) (c : Nat → Bool) : ∀ s ∈ D.left c, s.length = 64 := by
  intro s hs
  obtain ⟨i, hi, rfl⟩ := List.getElem_of_mem hs
  have hi' : i < D.n := by rw [left_length] at hi; exact hi
  have e : (D.left c)[i] = (D.left c).getD i [] := by simp [List.getD_eq_getElem?_getD, List.getElem?_eq_getElem hi]
  rw [e]
  rcases left_at h c hi' with h1 | h1
  · rw [h1]
    have hi2 : i < D.safe.length := hi'
    simp only [List.getD_eq_getElem?_getD, List.getElem?_eq_getElem hi2, Option.getD_some]
    exact h.safe64 _ (List.getElem_mem hi2)
  · rw [h1.1]; exact sec_length h hi'

theorem Ok.becomes {D : Dk} (h : D.Ok) {s : List Bs} (hl : s.length = D.n) (h64 : ∀ x ∈ s, x.length = 64) : (D.becomes s).Ok :=
  ⟨by simp only [Dk.becomes, hl]; exact h.pos, by simp only [Dk.becomes, hl]; exact h.most, by simp [Dk.becomes], h64, fun x hx => by simp [Dk.becomes] at hx, h.armed0, h.armedmax⟩
theorem Ok.die {D : Dk} (h : D.Ok) (kept : List Int) : (D.die kept).Ok := by
  have := h.becomes (left_length D _) (left_64 h (comes kept))
  exact ⟨this.pos, this.most, this.wr, this.safe64, this.wr64, by simp [Dk.die], by simp [Dk.die]⟩
theorem Ok.stepD {D : Dk} (h : D.Ok) : D.stepD.Ok := by
  unfold Dk.stepD
  split
  · exact h
  · have := h.armed0; have := h.armedmax
    exact ⟨h.pos, h.most, h.wr, h.safe64, h.wr64, by simp only; omega, by simp only; omega⟩
theorem Ok.put {D : Dk} (h : D.Ok) (i : Nat) {s : Bs} (hs : s.length = 64) : (D.put i s).Ok :=
  ⟨h.pos, h.most, by simp [Dk.put, h.wr], h.safe64, fun x hx => by
    rcases List.mem_or_eq_of_mem_set hx with h' | h'
    · exact h.wr64 x h'
    · cases h'; exact hs, h.armed0, h.armedmax⟩
theorem Ok.revive {D : Dk} (h : D.Ok) : D.revive.Ok := ⟨h.pos, h.most, h.wr, h.safe64, h.wr64, by simp [Dk.revive], by simp [Dk.revive]⟩
theorem Ok.arm {D : Dk} (h : D.Ok) {m : Int} (kept : List Int) (hm : m ≤ 9223372036854775807) : (D.arm m kept).1.Ok := by
  unfold Dk.arm
  split
  · exact h
  · split
    · exact h
    · exact ⟨h.pos, h.most, h.wr, h.safe64, h.wr64, by simp only; omega, hm⟩
theorem Ok.crash {D : Dk} (h : D.Ok) (kept : List Int) : (D.crash kept).1.Ok := by
  unfold Dk.crash
  split
  · exact h
  · exact h.die kept
theorem Ok.sync {D : Dk} (h : D.Ok) : D.sync.1.Ok := by
  unfold Dk.sync
  split
  · exact h
  · split
    · exact h.stepD.die _
    · refine h.stepD.becomes ?_ (left_64 h _)
      have : D.stepD.n = D.n := by unfold Dk.stepD; split <;> rfl
      rw [this]; exact left_length D _
theorem chunks_64 (s : Bs) : ∀ x ∈ chunks s, x.length = 64 := by
  intro x hx
  simp only [chunks, List.mem_map, List.mem_range] at hx
  obtain ⟨i, hi, rfl⟩ := hx
  rw [List.length_take, List.length_drop]
  have := Nat.div_mul_le_self s.length 64
  omega
theorem chunks_length (s : Bs) : (chunks s).length = s.length / 64 := by simp [chunks]
theorem Ok.writeGo : ∀ (cs : List Bs) {D : Dk} (_ : D.Ok) (at_ : Nat) (_ : ∀ x ∈ cs, x.length = 64), (D.writeGo at_ cs).1.Ok
  | [], D, h, _, _ => h
  | c :: cs, D, h, at_, h64 => by
    unfold Dk.writeGo
    split
    · exact ((h.put at_ (h64 c (by simp))).stepD).die _
    · exact Ok.writeGo cs ((h.put at_ (h64 c (by simp))).stepD) (at_ + 1) fun x hx => h64 x (by simp [hx])
theorem Ok.write {D : Dk} (h : D.Ok) (at_ : Int) (s : Bs) : (D.write at_ s).1.Ok := by
  unfold Dk.write
  repeat' split
  all_goals first | exact h | exact Ok.writeGo _ h _ (chunks_64 s)
theorem ok_new {s : Bs} (h : newOk s = true) : (new s).Ok := by
  simp only [newOk, decide_eq_true_eq] at h
  refine ⟨?_, ?_, ?_, chunks_64 s, fun x hx => by simp [new] at hx, by simp [new], by simp [new]⟩
  · simp only [new, chunks_length]; omega
  · simp only [new, chunks_length]; omega
  · simp [new, chunks_length]
theorem put_n (D : Dk) (i : Nat) (s : Bs) : (D.put i s).n = D.n := rfl
theorem stepD_n (D : Dk) : D.stepD.n = D.n := by unfold stepD; split <;> rfl
theorem stepD_kept (D : Dk) : D.stepD.kept = D.kept := by unfold stepD; split <;> rfl
theorem stepD_dead (D : Dk) : D.stepD.dead = D.dead := by unfold stepD; split <;> rfl
theorem stepD_wr (D : Dk) : D.stepD.wr = D.wr := by unfold stepD; split <;> rfl
theorem stepD_safe (D : Dk) : D.stepD.safe = D.safe := by unfold stepD; split <;> rfl
theorem die_n (D : Dk) (kept : List Int) : (D.die kept).n = D.n := left_length D _
theorem cnt_le (D : Dk) : D.cnt ≤ D.wr.length := List.length_filter_le _ _
theorem filter_set {α : Type} (p : Option α → Bool) : ∀ (l : List (Option α)) (i : Nat) (x : Option α), i < l.length → p x = true →
    ((l.set i x).filter p).length = if p (l.getD i none) then (l.filter p).length else (l.filter p).length + 1
  | [], i, _, h, _ => by simp at h
  | a :: l, 0, x, _, hx => by
    simp only [List.set_cons_zero, List.filter_cons, hx, if_true, List.getD_cons_zero]
    cases p a <;> simp
  | a :: l, i + 1, x, h, hx => by
    have ih := filter_set p l i x (by simpa using h) hx
    simp only [List.set_cons_succ, List.filter_cons, List.getD_cons_succ]
    cases p a <;> simp only [if_true, if_false, Bool.false_eq_true, List.length_cons, ih] <;> split <;> rfl
theorem cnt_put {D : Dk} (h : D.Ok) {i : Nat} (hi : i < D.n) (s : Bs) : (D.put i s).cnt = if (D.w? i).isSome then D.cnt else D.cnt + 1 :=
  filter_set Option.isSome D.wr i (some s) (by rw [h.wr]; exact hi) rfl
theorem w?_put {D : Dk} (h : D.Ok) {i : Nat} (hi : i < D.n) (s : Bs) (j : Nat) : (D.put i s).w? j = if j = i then some s else D.w? j := by
  have hi' : i < D.wr.length := by rw [h.wr]; exact hi
  simp only [w?, put, List.getD_eq_getElem?_getD, List.getElem?_set]
  by_cases e : i = j
  · subst e; simp [hi']
  · simp [e, Ne.symm e]
theorem flatten_length_of (l : List Bs) (h : ∀ s ∈ l, s.length = 64) : l.flatten.length = 64 * l.length := by
  induction l with
  | nil => rfl
  | cons a l ih => simp only [List.flatten_cons, List.length_append, List.length_cons, h a (by simp), ih fun s hs => h s (by simp [hs])]; omega
theorem flatten_at : ∀ (l : List Bs) (_ : ∀ s ∈ l, s.length = 64) (i : Nat) (_ : i < l.length), (l.flatten.drop (64 * i)).take 64 = l.getD i []
  | [], _, i, hi => by simp at hi
  | a :: l, h, 0, _ => by
    have ha := h a (by simp)
    simp [List.take_append_of_le_length (Nat.le_of_eq ha.symm), List.take_of_length_le (Nat.le_of_eq ha)]
  | a :: l, h, i + 1, hi => by
    have ha := h a (by simp)
    have : 64 * (i + 1) = a.length + 64 * i := by omega
    simp only [List.flatten_cons, this, List.drop_length_add_append, List.getD_cons_succ]
    exact flatten_at l (fun s hs => h s (by simp [hs])) i (by simpa using hi)
theorem flatten_set : ∀ (l : List Bs) (_ : ∀ s ∈ l, s.length = 64) (i : Nat) (_ : i < l.length) (s : Bs) (_ : s.length = 64), (l.set i s).flatten = l.flatten.take (64 * i) ++ (s ++ l.flatten.drop (64 * i + s.length))
  | [], _, i, hi, _, _ => by simp at hi
  | a :: l, h, 0, _, s, hs => by
    have ha := h a (by simp)
    simp [hs, List.drop_append, ha, List.drop_eq_nil_of_le (Nat.le_of_eq ha)]
  | a :: l, h, i + 1, hi, s, hs => by
    have ha := h a (by simp)
    have ih := flatten_set l (fun s hs => h s (by simp [hs])) i (by simpa using hi) s hs
    have e1 : 64 * (i + 1) = a.length + 64 * i := by omega
    have e2 : 64 * (i + 1) + s.length = a.length + (64 * i + s.length) := by omega
    rw [List.set_cons_succ, List.flatten_cons, ih, List.flatten_cons, e2, e1, List.take_length_add_append, List.drop_length_add_append, List.append_assoc]
theorem leftTo_64 {D : Dk} (h : D.Ok) (c : Nat → Bool) (k : Nat) (hk : k ≤ D.unsafes.length) : ∀ s ∈ D.leftTo c k, s.length = 64 := by
  intro s hs
  obtain ⟨i, hi, rfl⟩ := List.getElem_of_mem hs
  have hi' : i < D.n := by rw [leftTo_length] at hi; exact hi
  have e : (D.leftTo c k)[i] = (D.leftTo c k).getD i [] := by simp [List.getD_eq_getElem?_getD, List.getElem?_eq_getElem hi]
  rw [e]
  rcases leftTo_at h c k hk i hi' with h1 | h1
  · rw [h1]
    have hi2 : i < D.safe.length := hi'
    simp only [List.getD_eq_getElem?_getD, List.getElem?_eq_getElem hi2, Option.getD_some]
    exact h.safe64 _ (List.getElem_mem hi2)
  · rw [h1.1]; exact sec_length h hi'
theorem image_length {D : Dk} (h : D.Ok) : D.safe.flatten.length = 64 * D.n := flatten_length_of _ h.safe64
end Dk
end Go.Proofs.YtmeepegllkhlcaaGreat
