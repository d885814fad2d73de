/-
  A map's block as an assertion: what it holds at each key, how many keys there are; look-up, store, clear, len, clone: of any program.
-/
import Derived.Test.YtmeepegllkhlcaaGreatSep
import Derived.Maps.OwnSet
import Derived.WalkSpells
namespace Go.Proofs.YtmeepegllkhlcaaGreat
open Go Go.RowKit Go.Maps Go.ChangeMaps Go.MapKept
open Go.WideElems (Fit rd rg pl rd_val elemAt)

/-- An element, read as itself. -/
def heldR (v : Value) : Option (DataW Value × List MemPlace) := some (.held v, [])
/-- What entries read as. -/
def datumOf (P : Program) (k : TypeId) (es : Array MapEntry) : DataW Value := .map ((es.toList.map (rg P k heldR)).foldr DataW.insert [])
/-- Entries hold M. -/
structure MapObj (P : Program) (k : TypeId) (es : Array MapEntry) (clock : Nat) (M : Lit → Option Value) (n : Nat) : Prop where
  fit : Fit P k heldR es clock
  size : es.size = n
  has : ∀ kl, Maps.has (datumOf P k es) kl = (M kl).isSome
  at_ : ∀ kl v, M kl = some v → ∀ z, (datumOf P k es).atKey kl z = .held v

def mapA (P : Program) (k : TypeId) (b : Nat) (M : Lit → Option Value) (n : Nat) : HProp :=
  ex fun es : Array MapEntry => ex fun clock : Nat => pur (MapObj P k es clock M n) * pt b (.map es clock)

section
variable {P : Program} {k : TypeId} {b n : Nat} {M M' : Lit → Option Value} {F : HProp} {w : World}

theorem mapA_open : Holds (mapA P k b M n * F) w ↔ ∃ es clock, MapObj P k es clock M n ∧ Holds (pt b (.map es clock) * F) w := by
  unfold mapA
  rw [holds_ex_sep]
  constructor
  · rintro ⟨es, h⟩
    rw [holds_ex_sep] at h
    obtain ⟨clock, h⟩ := h
    rw [sep_assoc, holds_pur_sep] at h
    exact ⟨es, clock, h.1, h.2⟩
  · rintro ⟨es, clock, h1, h2⟩
    refine ⟨es, ?_⟩
    rw [holds_ex_sep]
    refine ⟨clock, ?_⟩
    rw [sep_assoc, holds_pur_sep]
    exact ⟨h1, h2⟩

theorem MapObj.empty (P : Program) (k : TypeId) (clock : Nat) : MapObj P k #[] clock (fun _ => none) 0 :=
  ⟨⟨by simp, stamped_empty clock, by simp⟩, rfl, fun kl => by simp [datumOf, Maps.has], fun kl v h => by cases h⟩

theorem MapObj.congr {es : Array MapEntry} {clock : Nat} (h : MapObj P k es clock M n) (e : ∀ kl, M' kl = M kl) : MapObj P k es clock M' n :=
  ⟨h.fit, h.size, fun kl => by rw [e]; exact h.has kl, fun kl v hv => h.at_ kl v (by rw [← e]; exact hv)⟩

theorem MapObj.owns {es : Array MapEntry} {clock : Nat} (h : MapObj P k es clock M n) (hb : w.heap[b]? = some (.map es clock)) : w.ownsMap P k heldR b n (datumOf P k es) :=
  ⟨es, clock, hb, h.fit, Nat.le_of_eq h.size, rfl⟩

/-- 'v, ok := m[k]' -/
theorem mapA_look_ok {t e : TypeId} (h : Holds (mapA P k b M n * F) w) (K : Keyed P k) (ht : P.underlying t = some (.map k e)) {z : Value} (hz : (zeroValue e).run P w = .ok z w) {key : Value} {kl : Lit} (hkey : keyOf P k key = some kl) :
    (Instr.lookup t (.map (some b)) key true).run P w = .ok (.tuple #[(M kl).getD z, .bool (M kl).isSome]) w := by
  obtain ⟨es, clock, hm, hp⟩ := mapA_open.1 h
  obtain ⟨v, ps, hrun, hR⟩ := (hm.owns hp.here).look_ok K ht hz (zd := .held z) (zp := []) rfl hkey
  rw [hm.has kl] at hrun
  rw [hrun]
  have hv : v = (M kl).getD z := by
    simp only [heldR, Option.some.injEq, Prod.mk.injEq] at hR
    cases hM : M kl with
    | none =>
      have hh : Maps.has (datumOf P k es) kl = false := by rw [hm.has kl, hM]; rfl
      rw [Maps.atKey_of_not_has hh] at hR
      have := hR.1
      injection this
    | some u =>
      rw [hm.at_ kl u hM] at hR
      have := hR.1
      injection this
  rw [hv]
/-- 'm[k]' -/
theorem mapA_look {t e : TypeId} (h : Holds (mapA P k b M n * F) w) (K : Keyed P k) (ht : P.underlying t = some (.map k e)) {z : Value} (hz : (zeroValue e).run P w = .ok z w) {key : Value} {kl : Lit} (hkey : keyOf P k key = some kl) :
    (Instr.lookup t (.map (some b)) key false).run P w = .ok ((M kl).getD z) w := by
  obtain ⟨es, clock, hm, hp⟩ := mapA_open.1 h
  obtain ⟨v, ps, hrun, hR⟩ := (hm.owns hp.here).lookup K ht hz (zd := .held z) (zp := []) rfl hkey
  rw [hrun]
  have hv : v = (M kl).getD z := by
    simp only [heldR, Option.some.injEq, Prod.mk.injEq] at hR
    cases hM : M kl with
    | none =>
      have hh : Maps.has (datumOf P k es) kl = false := by rw [hm.has kl, hM]; rfl
      rw [Maps.atKey_of_not_has hh] at hR
      have := hR.1
      injection this
    | some u =>
      rw [hm.at_ kl u hM] at hR
      have := hR.1
      injection this
  rw [hv]
/-- 'len(m)' -/
theorem mapA_len {t e : TypeId} (h : Holds (mapA P k b M n * F) w) (ht : P.underlying t = some (.map k e)) (ty : TypeId) : (Builtin.len_ #[t] ty #[.map (some b)]).run P w = .ok (.int .i64 n) w := by
  obtain ⟨es, clock, hm, hp⟩ := mapA_open.1 h
  have := (hm.owns hp.here).len ht ty
  rw [this]
  have e1 : Maps.size (datumOf P k es) = es.size := by simp [Maps.size, datumOf, length_sorted]
  rw [e1, hm.size]
/-- The block is turned. -/
theorem holds_setBlock {o o' : Obj} (h : Holds (pt b o * F) w) : Holds (pt b o' * F) (setBlock w b o') := by
  have hl := h.lt
  refine h.upd ?_ (fun j hj hne => ?_)
  · simp [setBlock, hl]
  · simp [setBlock, Array.getElem?_setIfInBounds, Ne.symm hne]
theorem keeps_setBlock (w : World) (b : Nat) (o : Obj) : Keeps w (setBlock w b o) := ⟨rfl, rfl, rfl, by simp [setBlock]⟩
/-- 'm[k] = v' -/
theorem mapA_store {t e : TypeId} (h : Holds (mapA P k b M n * F) w) (K : Keyed P k) (ht : P.underlying t = some (.map k e)) (hn : n < maxLen) {key val : Value} {kl : Lit} (hkey : keyOf P k key = some kl)
    (hM : M' kl = some val) (hM' : ∀ z, z ≠ kl → M' z = M z) :
    ∃ o, (Instr.mapUpdate t (.map (some b)) key val).run P w = .ok () (setBlock w b o) ∧ Holds (mapA P k b M' (if (M kl).isSome then n else n + 1) * F) (setBlock w b o) := by
  obtain ⟨es, clock, hm, hp⟩ := mapA_open.1 h
  have hks : WideAt.IsKeyLit kl := K.key hkey
  obtain ⟨es', clock', hrun, F', hput, _⟩ := Maps.fit_store (R' := heldR) K ht hp.here hm.fit (by rw [hm.size]; exact hn) (fun _ _ _ _ hz => hz) hkey (yv := (.held val, [])) rfl
  have hD : datumOf P k es' = (datumOf P k es).put kl (.held val) := by
    unfold datumOf
    rw [DataW.put_eq, hput]
  have hT : Tidy (datumOf P k es) := (hm.owns hp.here).tidy K
  refine ⟨.map es' clock', hrun, mapA_open.2 ⟨es', clock', ⟨F', ?_, fun z => ?_, fun z v hv q => ?_⟩, holds_setBlock hp⟩⟩
  · have e1 : es'.size = Maps.size (datumOf P k es') := by simp [Maps.size, datumOf, length_sorted]
    have e2 : es.size = Maps.size (datumOf P k es) := by simp [Maps.size, datumOf, length_sorted]
    rw [e1, hD, Maps.size_put hT, hm.has kl, ← e2, hm.size]
  · rw [hD]
    by_cases e : z = kl
    · subst e; rw [Maps.has_put_same hT.isMap hks, hM]; rfl
    · rw [Maps.has_put_other e, hM' z e]; exact hm.has z
  · rw [hD]
    by_cases e : z = kl
    · subst e
      rw [hM] at hv
      cases hv
      rw [Maps.atKey_put_same hT.isMap hks]
    · rw [hM' z e] at hv
      rw [Maps.atKey_put_other e]; exact hm.at_ z v hv q
/-- 'clear(m)' -/
theorem mapA_clear {t e : TypeId} (h : Holds (mapA P k b M n * F) w) (ht : P.underlying t = some (.map k e)) (ty : TypeId) :
    ∃ o, (Builtin.clear_ #[t] ty #[.map (some b)]).run P w = .ok (.tuple #[]) (setBlock w b o) ∧ Holds (mapA P k b (fun _ => none) 0 * F) (setBlock w b o) := by
  obtain ⟨es, clock, hm, hp⟩ := mapA_open.1 h
  refine ⟨.map #[] clock, ?_, mapA_open.2 ⟨_, _, MapObj.empty P k clock, holds_setBlock hp⟩⟩
  simp [Builtin.clear_, run_underlying ht, MapKept.run_getObj_map hp.here, Result.andThen, setObj, Sem.run, hp.here, setBlock]
/-- 'make(map[K]V)' -/
theorem mapA_made (h : Holds F w) (P : Program) (k : TypeId) : Holds (mapA P k w.heap.size (fun _ => none) 0 * F) (w.alloc (.map #[] 0)) :=
  mapA_open.2 ⟨_, _, MapObj.empty P k 0, h.alloc _⟩
theorem mapA_congr (h : Holds (mapA P k b M n * F) w) (e : ∀ kl, M' kl = M kl) : Holds (mapA P k b M' n * F) w := by
  obtain ⟨es, clock, hm, hp⟩ := mapA_open.1 h
  exact mapA_open.2 ⟨es, clock, hm.congr e, hp⟩
theorem mapA_lt (h : Holds (mapA P k b M n * F) w) : b < w.heap.size := by
  obtain ⟨es, clock, hm, hp⟩ := mapA_open.1 h
  exact hp.lt
theorem mapA_heap (h : Holds (mapA P k b M n * F) w) : ∃ es clock, w.heap[b]? = some (.map es clock) ∧ MapObj P k es clock M n := by
  obtain ⟨es, clock, hm, hp⟩ := mapA_open.1 h
  exact ⟨es, clock, hp.here, hm⟩
theorem mapA_size_le (h : Holds (mapA P k b M n * F) w) : n ≤ maxLen := by
  obtain ⟨es, clock, hm, hp⟩ := mapA_open.1 h
  rw [← hm.size]; exact hm.fit.size
end

/-- A store into a map, at the operation. -/
theorem wpList_store_sep {P : Program} {k : TypeId} {b n : Nat} {M : Lit → Option Value} {F : HProp} {w : World} {ops : Array Oper} {rest : List Oper} {o : Oper} {a : Act} {Q : Exit → Act → World → Prop}
    (hg : o.guard = none) (m x v : Operand) (t : TypeId) (hop : o.op = Op.mapUpdate t m x v) (e : TypeId) (K : Keyed P k) (ht : P.underlying t = some (.map k e))
    (hm : a.eval m = .map (some b)) (M' : Lit → Option Value) (h : Holds (mapA P k b M n * F) w) (hn : n < maxLen) (key val : Value) (kl : Lit) (hx : a.eval x = key) (hv : a.eval v = val) (hkey : keyOf P k key = some kl)
    (hM : M' kl = some val) (hM' : ∀ z, z ≠ kl → M' z = M z)
    (hK : ∀ w', Holds (mapA P k b M' (if (M kl).isSome then n else n + 1) * F) w' → Keeps w w' → wpList P ops Q rest (a.put o.dst undef) w') : wpList P ops Q (o :: rest) a w := by
  refine wpList_plain hg fun K' hK' => ?_
  obtain ⟨o', hrun, hH⟩ := mapA_store h K ht hn hkey hM hM'
  unfold Oper.wp
  simp [execOp, hop, hm, hx, hv, hrun, Result.andThen]
  exact hK' _ _ (hK _ hH (keeps_setBlock _ _ _))

/-- 'clear(m)', at the operation. -/
theorem wpList_clear_sep {P : Program} {k : TypeId} {b n : Nat} {M : Lit → Option Value} {F : HProp} {w : World} {ops : Array Oper} {rest : List Oper} {o : Oper} {a : Act} {Q : Exit → Act → World → Prop}
    (hg : o.guard = none) (m : Operand) (t : TypeId) (hop : o.op = Op.call { callee := Callee.builtin Builtin.clear, args := #[m], argTypes := #[t] }) (e : TypeId) (ht : P.underlying t = some (.map k e))
    (hm : a.eval m = .map (some b)) (h : Holds (mapA P k b M n * F) w)
    (hK : ∀ w', Holds (mapA P k b (fun _ => none) 0 * F) w' → Keeps w w' → wpList P ops Q rest (a.put o.dst (.tuple #[])) w') : wpList P ops Q (o :: rest) a w := by
  refine wpList_plain hg fun K' hK' => ?_
  obtain ⟨o', hrun, hH⟩ := mapA_clear h ht o.type
  unfold Oper.wp
  simp [execOp, hop, resolve, invoke, builtin, hm, hrun, Result.andThen]
  exact hK' _ _ (hK _ hH (keeps_setBlock _ _ _))

/-! ### keys that are ints -/
def liftI (m : Int → Option Value) : Lit → Option Value
  | .int .i64 x => m x
  | _ => none
def updI (m : Int → Option Value) (x : Int) (v : Value) : Int → Option Value := fun y => if y = x then some v else m y
theorem liftI_upd_here (m : Int → Option Value) (x : Int) (v : Value) : liftI (updI m x v) (.int .i64 x) = some v := by simp [liftI, updI]
theorem liftI_upd_other (m : Int → Option Value) (x : Int) (v : Value) (z : Lit) (hz : z ≠ .int .i64 x) : liftI (updI m x v) z = liftI m z := by
  unfold liftI
  split
  · rename_i y
    have : y ≠ x := fun e => hz (by rw [e])
    simp [updI, this]
  · rfl
end Go.Proofs.YtmeepegllkhlcaaGreat
