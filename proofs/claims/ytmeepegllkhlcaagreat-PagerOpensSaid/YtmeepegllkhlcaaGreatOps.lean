/-
  A script of a pager's calls, as plain data and as it lies in memory; how it is read out of the argument.
-/
import Derived.Test.YtmeepegllkhlcaaGreatDisk2
import Derived.Test.YtmeepegllkhlcaaGreatRow
import Derived.Lib.SmallJoins
namespace Go.Proofs.YtmeepegllkhlcaaGreat
open Go Go.RowKit Go.ChangeShapes Go.WideShapes Go.Deep

/-- A call of a script, as it lies. -/
structure OpP where
  kind : Int
  at_ : Int
  n : Int
  s : Bs
  pages : List Int
  kept : List Int
  pv : Value
  kv : Value
def OpP.cells (o : OpP) : Array Value := #[.int .i64 o.kind, .int .i64 o.at_, .int .i64 o.n, strV o.s, o.pv, o.kv]
def i64ok (x : Int) : Prop := -9223372036854775808 ≤ x ∧ x ≤ 9223372036854775807
/-- A script that can be read wherever F holds. -/
def ReadsOps (F : HProp) (v : Value) (os : List OpP) : Prop := ∀ w, Holds F w → ∃ (a : Option Addr) (c : Nat), v = .slice a os.length c ∧ os.length ≤ c ∧ os.length ≤ 9223372036854775807 ∧
  (0 < os.length → ∃ b off : Nat, a = some ⟨b, off, none⟩ ∧ b < w.heap.size ∧ ∀ j (o : OpP), os[j]? = some o → ∀ i u, o.cells[i]? = some u → w.cell? ⟨b, off + j * 6 + i, none⟩ = some u)

/-! ### what is known of the memory that was there -/
theorem cell_lt {w : World} {a : Addr} {v : Value} (h : w.cell? a = some v) : a.block < w.heap.size ∧ a = ⟨a.block, a.off, none⟩ := by
  unfold World.cell? at h
  split at h
  · rename_i c _ _ hb
    refine ⟨(Array.getElem?_eq_some_iff.1 hb).1, ?_⟩
    split at h
    · cases h
    · rename_i hs
      obtain ⟨b, o, s⟩ := a
      cases s with
      | none => rfl
      | some x => simp at hs
  · cases h
theorem old_block {W w : World} (h : Holds (old W.heap.size W.heap) w) {b : Nat} (hb : b < W.heap.size) : w.heap[b]? = W.heap[b]? := h.old_at b hb (Nat.le_refl _)
theorem old_cell {W w : World} (h : Holds (old W.heap.size W.heap) w) {a : Addr} {v : Value} (hc : W.cell? a = some v) : w.cell? a = some v := by
  rw [World.cell?_of_block (w := W) (old_block h (cell_lt hc).1)]; exact hc
theorem old_lt {W w : World} (h : Holds (old W.heap.size W.heap) w) {b : Nat} (hb : b < W.heap.size) : b < w.heap.size := by
  have h1 := old_block h hb
  rw [Array.getElem?_eq_getElem hb] at h1
  exact (Array.getElem?_eq_some_iff.1 h1).1

section
variable {H : Type} {enc : TypeId × Value → H} {P : Program} {W : World}
/-- A slice of ints, as data. -/
def IntsD (xs : List Int) (d : DataW H) : Prop := (d = .nil ∧ xs = []) ∨ ∃ sp : List (DataW H), d = .slice (lits .i64 xs) sp
theorem wf_i64 {x : Int} (h : (Lit.int .i64 x).wf = true) : i64ok x := by
  unfold i64ok
  simp [Lit.wf, IntKind.min, IntKind.max, IntKind.bits, IntKind.signed] at h
  omega
theorem read_ints {t e : TypeId} {n : Nat} {v : Value} {y : DataW H × List MemPlace} (ht : P.underlying t = some (.slice e)) (he : P.underlying e = some (.int .i64)) (hc : P.cellsOf e = 1) (h : DataW.trod enc P W 0 (fun _ => true) true n t [v] = some y) :
    ∃ xs, Reads (old W.heap.size W.heap) v xs ∧ IntsD xs y.1 ∧ ∀ x ∈ xs, i64ok x := by
  rcases open_ints ht he hc h with ⟨h1, rfl⟩ | ⟨a, len, cap, zs, h1, _, hle, hmax, hzl, rfl, hcell, hwf⟩
  · injection h1 with h1 _
    subst h1
    exact ⟨[], fun w _ => ⟨none, 0, rfl, Nat.le_refl _, Nat.zero_le _, fun h => by cases h⟩, .inl ⟨rfl, rfl⟩, fun x hx => by cases hx⟩
  · injection h1 with h1 _
    subst h1
    simp only [if_true] at hzl
    have hl : (zs.take len).length = len := by rw [List.length_take]; omega
    refine ⟨zs.take len, fun w hw => ⟨some a, cap, by rw [hl], by omega, ?_, fun hp => ⟨a, rfl, fun j hj => ?_⟩⟩, .inr ⟨_, rfl⟩, fun x hx => wf_i64 (hwf x (List.mem_of_mem_take hx))⟩
    · unfold maxLen at hmax; omega
    · refine old_cell hw ?_
      rw [hcell j (by omega)]
      congr 2
      rw [List.getD_eq_getElem?_getD, List.getD_eq_getElem?_getD, List.getElem?_take_of_lt (by omega)]

/-- The fields of a struct of one-cell fields. -/
theorem read_fields {t : TypeId} {fs : Array Field} {n : Nat} {cs : List Value} {x : DataW H × List MemPlace} (hs : P.underlying t = some (.struct fs)) (hone : oneCellFields P fs = true) (hC : P.cellsOf t = fs.size)
    (h : DataW.trod enc P W 0 (fun _ => true) true n t cs = some x) :
    cs.length = fs.size ∧ ∃ (ys : List (DataW H × List MemPlace)) (m : Nat), x = (.agg (ys.map (·.1)), ys.flatMap (·.2)) ∧ ys.length = fs.size ∧
      ∀ (j : Nat) (f : Field), fs[j]? = some f → ∃ v y, cs[j]? = some v ∧ ys[j]? = some y ∧ DataW.trod enc P W 0 (fun _ => true) true m f.type [v] = some y := by
  obtain ⟨ys, m, _, hx, hl, hyl, hf⟩ := DataW.trod_struct hs h
  rw [hC] at hl
  refine ⟨hl, ys, m, hx, hyl, fun j f hj => ?_⟩
  obtain ⟨ho, hk⟩ := hone_of hone j f hj
  have hjl : j < fs.size := (Array.getElem?_eq_some_iff.1 hj).1
  have h1 := hf j f hj
  rw [ho, hk, List.drop_eq_getElem_cons (by omega : j < cs.length)] at h1
  have hy : ys[j]? = some (ys[j]'(by omega)) := List.getElem?_eq_getElem (by omega)
  exact ⟨cs[j]'(by omega), ys[j]'(by omega), List.getElem?_eq_getElem (by omega), hy, h1.trans hy⟩

/-- A call, as data. -/
def OpD (o : OpP) (d : DataW H) : Prop := ∃ pd kd : DataW H, d = .agg [.lit (.int .i64 o.kind), .lit (.int .i64 o.at_), .lit (.int .i64 o.n), .lit (.string o.s), pd, kd] ∧ IntsD o.pages pd ∧ IntsD o.kept kd
/-- What is known of each call. -/
structure OpP.In (W : World) (o : OpP) : Prop where
  kind : i64ok o.kind
  at_ : i64ok o.at_
  n : i64ok o.n
  pages : Reads (old W.heap.size W.heap) o.pv o.pages
  kept : Reads (old W.heap.size W.heap) o.kv o.kept
  pagesI : ∀ x ∈ o.pages, i64ok x
/-- A script, as data. -/
def OpsD (os : List OpP) (d : DataW H) : Prop := (d = .nil ∧ os = []) ∨ ∃ ds sp : List (DataW H), d = .slice ds sp ∧ ds.length = os.length ∧ ∀ (j : Nat) (o : OpP), os[j]? = some o → ∃ e, ds[j]? = some e ∧ OpD o e

theorem read_op {t ti ts tl : TypeId} {n : Nat} {cs : List Value} {y : DataW H × List MemPlace} {f0 f1 f2 f3 f4 f5 : Field} (hs : P.underlying t = some (.struct #[f0, f1, f2, f3, f4, f5])) (hone : oneCellFields P #[f0, f1, f2, f3, f4, f5] = true) (hC : P.cellsOf t = 6)
    (e0 : f0.type = ti) (e1 : f1.type = ti) (e2 : f2.type = ti) (e3 : f3.type = ts) (e4 : f4.type = tl) (e5 : f5.type = tl) (hi : P.underlying ti = some (.int .i64)) (hst : P.underlying ts = some .string) (hl : P.underlying tl = some (.slice ti)) (hci : P.cellsOf ti = 1)
    (h : DataW.trod enc P W 0 (fun _ => true) true n t cs = some y) :
    ∃ o : OpP, cs = o.cells.toList ∧ OpD o y.1 ∧ o.In W := by
  obtain ⟨hlen, ys, m, rfl, hyl, hf⟩ := read_fields hs hone hC h
  obtain ⟨v0, y0, c0, z0, r0⟩ := hf 0 f0 rfl
  obtain ⟨v1, y1, c1, z1, r1⟩ := hf 1 f1 rfl
  obtain ⟨v2, y2, c2, z2, r2⟩ := hf 2 f2 rfl
  obtain ⟨v3, y3, c3, z3, r3⟩ := hf 3 f3 rfl
  obtain ⟨v4, y4, c4, z4, r4⟩ := hf 4 f4 rfl
  obtain ⟨v5, y5, c5, z5, r5⟩ := hf 5 f5 rfl
  rw [e0] at r0
  rw [e1] at r1
  rw [e2] at r2
  rw [e3] at r3
  rw [e4] at r4
  rw [e5] at r5
  obtain ⟨k0, q0, rfl, w0⟩ := DataW.trod_int hi r0
  obtain ⟨k1, q1, rfl, w1⟩ := DataW.trod_int hi r1
  obtain ⟨k2, q2, rfl, w2⟩ := DataW.trod_int hi r2
  obtain ⟨s, q3, rfl, w3⟩ := DataW.trod_string hst r3
  obtain ⟨xs, p4, d4, i4⟩ := read_ints hl hi hci r4
  obtain ⟨zs, p5, d5, _⟩ := read_ints hl hi hci r5
  injection q0 with q0 _
  injection q1 with q1 _
  injection q2 with q2 _
  injection q3 with q3 _
  subst q0 q1 q2 q3
  have hsv : strV s.data.toList = .string s := by
    obtain ⟨d⟩ := s
    rfl
  match cs, hlen, c0, c1, c2, c3, c4, c5 with
  | [a, b, c, d, e, f], _, c0, c1, c2, c3, c4, c5 =>
    simp only [List.getElem?_cons_zero, List.getElem?_cons_succ, Option.some.injEq] at c0 c1 c2 c3 c4 c5
    subst c0 c1 c2 c3 c4 c5
    match ys, hyl, z0, z1, z2, z3, z4, z5 with
    | [a, b, c, d, e, f], _, z0, z1, z2, z3, z4, z5 =>
      simp only [List.getElem?_cons_zero, List.getElem?_cons_succ, Option.some.injEq] at z0 z1 z2 z3 z4 z5
      subst z0 z1 z2 z3 z4 z5
      refine ⟨⟨k0, k1, k2, s.data.toList, xs, zs, _, _⟩, ?_, ⟨_, _, rfl, d4, d5⟩, ⟨wf_i64 w0, wf_i64 w1, wf_i64 w2, p4, p5, i4⟩⟩
      show _ = [_, _, _, strV s.data.toList, _, _]
      rw [hsv]

theorem choose_list {α β : Type} {R : Nat → α → β → Prop} : ∀ (l : List α) (k : Nat), (∀ j a, l[j]? = some a → ∃ b, R (k + j) a b) → ∃ m : List β, m.length = l.length ∧ ∀ j a b, l[j]? = some a → m[j]? = some b → R (k + j) a b
  | [], _, _ => ⟨[], rfl, fun j a b h => by simp at h⟩
  | x :: l, k, h => by
    obtain ⟨b, hb⟩ := h 0 x rfl
    obtain ⟨m, hm, hr⟩ := choose_list l (k + 1) (fun j a ha => by
      obtain ⟨b, hb⟩ := h (j + 1) a ha
      exact ⟨b, by rw [show k + 1 + j = k + (j + 1) from by omega]; exact hb⟩)
    refine ⟨b :: m, by simp [hm], fun j a c ha hc => ?_⟩
    cases j with
    | zero =>
      simp at ha hc
      subst ha hc
      exact hb
    | succ j =>
      have := hr j a c (by simpa using ha) (by simpa using hc)
      rw [show k + 1 + j = k + (j + 1) from by omega] at this
      exact this

theorem read_ops {t te ti ts tl : TypeId} {n : Nat} {v : Value} {y : DataW H × List MemPlace} {f0 f1 f2 f3 f4 f5 : Field} (ht : P.underlying t = some (.slice te)) (hs : P.underlying te = some (.struct #[f0, f1, f2, f3, f4, f5])) (hone : oneCellFields P #[f0, f1, f2, f3, f4, f5] = true) (hC : P.cellsOf te = 6)
    (e0 : f0.type = ti) (e1 : f1.type = ti) (e2 : f2.type = ti) (e3 : f3.type = ts) (e4 : f4.type = tl) (e5 : f5.type = tl) (hi : P.underlying ti = some (.int .i64)) (hst : P.underlying ts = some .string) (hl : P.underlying tl = some (.slice ti)) (hci : P.cellsOf ti = 1)
    (h : DataW.trod enc P W 0 (fun _ => true) true n t [v] = some y) :
    ∃ os : List OpP, ReadsOps (old W.heap.size W.heap) v os ∧ OpsD os y.1 ∧ ∀ o ∈ os, o.In W := by
  rcases open_slice ht h with ⟨h1, rfl⟩ | ⟨a, len, cap, m, n', D, Pl, h1, _, hle, hmax, hm, rfl, hi'⟩
  · injection h1 with h1 _
    subst h1
    exact ⟨[], fun w _ => ⟨none, 0, rfl, Nat.le_refl _, Nat.zero_le _, fun h => by cases h⟩, .inl ⟨rfl, rfl⟩, fun o ho => by cases ho⟩
  · injection h1 with h1 _
    subst h1
    simp only [if_true] at hm
    rw [hC] at hi'
    have each : ∀ j k, (List.range len)[j]? = some k → ∃ o : OpP, (OpD o (D j) ∧ o.In W) ∧ ∀ i u, o.cells[i]? = some u → W.cell? (a.add (j * 6 + i)) = some u := by
      intro j k hj
      have hjl : j < len := by
        have := (List.getElem?_eq_some_iff.1 hj).1
        simpa using this
      obtain ⟨cs', hcells, htrod⟩ := hi' j (by omega)
      obtain ⟨_, hcl, hat⟩ := World.cells?_some hcells
      obtain ⟨o, hcs, hd, hin⟩ := read_op hs hone hC e0 e1 e2 e3 e4 e5 hi hst hl hci htrod
      refine ⟨o, ⟨hd, hin⟩, fun i u hu => ?_⟩
      have hi6 : i < 6 := by
        have := (Array.getElem?_eq_some_iff.1 hu).1
        simpa [OpP.cells] using this
      have h2 := hat i hi6
      rw [Go.Deep.add_add] at h2
      rw [h2, hcs, Array.getElem?_toList]
      exact hu
    obtain ⟨os, hol, hos⟩ := choose_list (R := fun j (_ : Nat) (o : OpP) => (OpD o (D j) ∧ o.In W) ∧ ∀ i u, o.cells[i]? = some u → W.cell? (a.add (j * 6 + i)) = some u) (List.range len) 0 (fun j k hj => by rw [Nat.zero_add]; exact each j k hj)
    simp only [List.length_range, Nat.zero_add] at hol hos
    have hos2 : ∀ j o, os[j]? = some o → (OpD o (D j) ∧ o.In W) ∧ ∀ i u, o.cells[i]? = some u → W.cell? (a.add (j * 6 + i)) = some u := fun j o ho => by
      have hjl : j < len := by rw [← hol]; exact (List.getElem?_eq_some_iff.1 ho).1
      exact hos j j o (by simp [hjl]) ho
    refine ⟨os, fun w hw => ⟨some a, cap, by rw [hol], by omega, by unfold maxLen at hmax; omega, fun hp => ?_⟩, .inr ⟨_, _, rfl, by simp [hol], fun j o ho => ?_⟩, fun o ho => ?_⟩
    · have h0 : os[0]? = some os[0] := List.getElem?_eq_getElem hp
      have hc0 := (hos2 0 _ h0).2 0 _ rfl
      obtain ⟨hb, ha⟩ := cell_lt hc0
      have ha2 : a = ⟨a.block, a.off, none⟩ := by
        have h1 : (a.add (0 * 6 + 0)) = a := by simp [Addr.add]
        rw [h1] at ha
        exact ha
      refine ⟨a.block, a.off, congrArg some ha2, old_lt hw hb, fun j o ho i u hu => ?_⟩
      have := old_cell hw ((hos2 j o ho).2 i u hu)
      have h2 : a.add (j * 6 + i) = ⟨a.block, a.off + (j * 6 + i), none⟩ := by
        unfold Addr.add
        split
        · rename_i h0
          rw [h0]; exact ha2
        · rfl
      rw [h2] at this
      rw [Nat.add_assoc]
      exact this
    · have hjl : j < len := by rw [← hol]; exact (List.getElem?_eq_some_iff.1 ho).1
      exact ⟨D j, by simp [hjl], (hos2 j o ho).1.1⟩
    · obtain ⟨j, hj, rfl⟩ := List.getElem_of_mem ho
      exact (hos2 j _ (List.getElem?_eq_getElem hj)).1.2
end
end Go.Proofs.YtmeepegllkhlcaaGreat
