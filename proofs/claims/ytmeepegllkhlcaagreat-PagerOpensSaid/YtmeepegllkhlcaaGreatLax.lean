/-
  A region that draws its order, whose operations keep a class of worlds, some of them yielding one of several values: one walk in one order serves every order. Of no program.
-/
import Derived.Deep.Quiet
import Derived.BigQuiet
namespace Go.Proofs.YtmeepegllkhlcaaGreat
open Go

section
variable {P : Program} {ops : Array Oper} {md : Region.Mode} {C : World → Prop}

/-- What is asked of one step, where it may yield any value of V, and leaves a world of the class. -/
def laxUpon (P : Program) (C : World → Prop) (V : Value → Prop) : Result Next → Prop
  | .ok (.value u) w' => C w' ∧ V u
  | .ok .skip w' => C w' ∧ V undef
  | .ok (.enter f args) w' => Calls P f args w' fun e w'' => ∃ u, e = .returned u ∧ V u ∧ C w''
  | _ => False
def laxAt (P : Program) (o : Oper) (a : Act) (C : World → Prop) (V : Value → Prop) : Prop := ∀ w, C w → laxUpon P C V ((execOp a.eval o).run P w)
def lax (P : Program) (o : Oper) (a : Act) (C : World → Prop) (next : Act → Prop) : Prop := ∃ V, laxAt P o a C V ∧ ∀ u, V u → next (a.put o.dst u)
/-- An operation comes up. -/
def laxOp (P : Program) (ops : Array Oper) (C : World → Prop) (o : Oper) (K : Act → Prop) (a : Act) : Prop :=
  if Region.wanted o (yielded ops a.tmps) then lax P o a C K else K (a.put o.dst undef)
def lOp (P : Program) (ops : Array Oper) (C : World → Prop) (i : Nat) (K : Act → Prop) (a : Act) : Prop :=
  match ops[i]? with
  | none => K a
  | some o => laxOp P ops C o K a
theorem laxOp_mono {o : Oper} {a : Act} {K K' : Act → Prop} (h : ∀ a, K a → K' a) (hh : laxOp P ops C o K a) : laxOp P ops C o K' a := by
  unfold laxOp at *
  split
  · rename_i hw
    rw [if_pos hw] at hh
    obtain ⟨V, h1, h2⟩ := hh
    exact ⟨V, h1, fun u hu => h _ (h2 u hu)⟩
  · rename_i hw
    rw [if_neg hw] at hh
    exact h _ hh
theorem lOp_mono {i : Nat} {a : Act} {K K' : Act → Prop} (h : ∀ a, K a → K' a) (hh : lOp P ops C i K a) : lOp P ops C i K' a := by
  unfold lOp at *
  split
  · rename_i ho; rw [ho] at hh; exact h _ hh
  · rename_i o ho; rw [ho] at hh; exact laxOp_mono h hh

/-- Whatever order is picked from here on. -/
def wpAnyL (P : Program) (md : Region.Mode) (ops : Array Oper) (C : World → Prop) (Q : Act → Prop) : Nat → Array Bool → Act → Prop
  | 0, listed, a => Region.ready md ops listed = [] ∧ Q a
  | fuel + 1, listed, a =>
    (Region.ready md ops listed = [] → Q a) ∧
    ∀ i ∈ Region.ready md ops listed, lOp P ops C i (wpAnyL P md ops C Q fuel (listed.setIfInBounds i true)) a

theorem wp_of_lax {o : Oper} {a : Act} {K : Act → Prop} {K' : Act → World → Prop} {Q' : Exit → Act → World → Prop} {w : World} (hw : C w) (h : ∀ a w', C w' → K a → K' a w') (hh : lax P o a C K) : o.wp P a w K' Q' := by
  obtain ⟨V, h1, h2⟩ := hh
  have h3 := h1 w hw
  unfold Oper.wp
  generalize (execOp a.eval o).run P w = r at *
  cases r with
  | halt x w' => simp only [laxUpon] at h3
  | ok n w' =>
    cases n <;> simp only [laxUpon] at h3 <;> simp only [Oper.upon]
    case value u => exact h _ _ h3.1 (h2 u h3.2)
    case skip => exact h _ _ h3.1 (h2 _ h3.2)
    case enter f args =>
      refine h3.mono fun e w'' ⟨u, he, hu, hc⟩ => ?_
      subst he
      exact h _ _ hc (h2 u hu)
theorem wpOp_of_lOp {i : Nat} {a : Act} {K : Act → Prop} {K' : Act → World → Prop} {Q' : Exit → Act → World → Prop} {w : World} (hC : C w) (h : ∀ a w', C w' → K a → K' a w') (hh : lOp P ops C i K a) : wpOp P ops Q' i K' a w := by
  unfold lOp at hh
  unfold wpOp
  split
  · rename_i ho; rw [ho] at hh; exact h _ _ hC hh
  · rename_i o ho
    rw [ho] at hh
    simp only [laxOp] at hh
    split
    · rename_i hw
      rw [if_pos hw] at hh
      exact .inl (wp_of_lax hC h hh)
    · rename_i hw
      rw [if_neg hw] at hh
      exact h _ _ hC hh
theorem wpAny_of_lax {Q : Act → Prop} {Q' : Exit → Act → World → Prop} (hQ : ∀ a w, C w → Q a → Q' .normal a w) : ∀ (fuel : Nat) (listed : Array Bool) (a : Act) (w : World), C w →
    wpAnyL P md ops C Q fuel listed a → wpAny P md ops Q' fuel listed a w
  | 0, _, _, _, hw, h => ⟨h.1, hQ _ _ hw h.2⟩
  | fuel + 1, _, _, _, hw, h => ⟨fun h0 => hQ _ _ hw (h.1 h0), fun i hi => wpOp_of_lOp hw (fun a' w' hw' => wpAny_of_lax hQ fuel _ a' w' hw') (h.2 i hi)⟩

theorem laxUpon_of_quiet {v : Value} {w : World} (hw : C w) {r : Result Next} (h : Oper.quietUpon P C w v r) : laxUpon P C (fun u => u = v) r := by
  cases r with
  | halt x w' => simp only [Oper.quietUpon] at h
  | ok n w' =>
    cases n <;> simp only [Oper.quietUpon] at h <;> simp only [laxUpon]
    case value u => exact ⟨h.1 ▸ hw, h.2⟩
    case skip => exact ⟨h.1 ▸ hw, h.2.symm⟩
    case enter f args =>
      obtain ⟨rfl, h⟩ := h
      exact h.mono fun e w'' ⟨he, hc⟩ => ⟨v, he, rfl, hc⟩
theorem yieldsIn_lOp {i : Nat} {o : Oper} {v : Value} {a : Act} (hi : ops[i]? = some o) (hy : YieldsIn P ops C o v a) {K : Act → Prop} (h : K (a.put o.dst v)) : lOp P ops C i K a := by
  unfold lOp laxOp
  rw [hi]
  rcases hy with ⟨hw, hv⟩ | ⟨hw, rfl⟩
  · simp only []
    rw [if_pos hw]
    exact ⟨fun u => u = v, fun w hw' => laxUpon_of_quiet hw' (hv w hw'), fun u hu => by rw [hu]; exact h⟩
  · simp only []
    rw [if_neg (by rw [hw]; decide)]
    exact h
/-- An operation that yields one value, and another, apart from it: they change places. -/
theorem lOp_put {j : Nat} {oi oj : Oper} {v : Value} (hj : ops[j]? = some oj) (hap : oi.apart ops oj = true) (hsi : ∀ cs b, oi.op ≠ .select cs b) (hsj : ∀ cs b, oj.op ≠ .select cs b) {K : Act → Prop} {a : Act}
    (hy : YieldsIn P ops C oi v a) (h : lOp P ops C j K (a.put oi.dst v)) : lOp P ops C j (fun a' => YieldsIn P ops C oi v a' ∧ K (a'.put oi.dst v)) a := by
  obtain ⟨h1, h2, h3⟩ := Oper.apart_spec hap
  have keep : ∀ u, YieldsIn P ops C oi v (a.put oj.dst u) := fun u => hy.of_same (execOp_put oi hsi a oj.dst u h3) (wanted_put oi a oj.dst u h3)
  unfold lOp laxOp at *
  rw [hj] at h ⊢
  simp only [] at h ⊢
  rw [wanted_put oj a oi.dst v h1] at h
  split
  · rename_i hw
    rw [if_pos hw] at h
    obtain ⟨V, hV, hn⟩ := h
    refine ⟨V, fun w hw' => ?_, fun u hu => ⟨keep u, by rw [← Act.put_comm a v u h2]; exact hn u hu⟩⟩
    have := hV w hw'
    rwa [execOp_put oj hsj a oi.dst v h1] at this
  · rename_i hw
    rw [if_neg hw] at h
    exact ⟨keep _, by rw [← Act.put_comm a v undef h2]; exact h⟩
/-- What yields one value, and may come up now, may be taken first. -/
theorem wpAnyL_first {Q : Act → Prop} {i : Nat} {oi : Oper} {v : Value} (hi : ops[i]? = some oi) (hsel : ∀ (j : Nat) (o : Oper) cs b, ops[j]? = some o → o.op ≠ .select cs b) :
    ∀ (fuel : Nat) (listed : Array Bool) (a : Act),
      (∀ j oj, ops[j]? = some oj → j ≠ i → listed.getD j true = false → (∀ e ∈ oj.after, Region.binds md e = true → e.on ≠ i) → oi.apart ops oj = true) →
      i ∈ Region.ready md ops listed → YieldsIn P ops C oi v a → wpAnyL P md ops C Q fuel (listed.setIfInBounds i true) (a.put oi.dst v) → wpAnyL P md ops C Q (fuel + 1) listed a
  | 0, listed, a, _, hr, hy, H => by
    refine ⟨fun h => (by rw [h] at hr; cases hr), fun j hj => ?_⟩
    by_cases hji : j = i
    · subst hji; exact yieldsIn_lOp hi hy H
    · have := ready_mono hj hji
      rw [H.1] at this
      cases this
  | fuel + 1, listed, a, hfree, hr, hy, H => by
    refine ⟨fun h => (by rw [h] at hr; cases hr), fun j hj => ?_⟩
    by_cases hji : j = i
    · subst hji; exact yieldsIn_lOp hi hy H
    · obtain ⟨hjun, oj, hoj, hall⟩ := mem_ready.1 hj
      have hnot : ∀ e ∈ oj.after, Region.binds md e = true → e.on ≠ i := fun e he hb heq => by
        have h1 := hall e he hb
        have h0 := (mem_ready.1 hr).1
        rw [heq] at h1
        rcases Nat.lt_or_ge i listed.size with h' | h'
        · simp [h'] at h0 h1; rw [h0] at h1; cases h1
        · simp [Array.getElem?_eq_none h'] at h1
      refine lOp_mono (fun a' h3 => wpAnyL_first hi hsel fuel (listed.setIfInBounds j true) a' (fun k ok hk hki hun hno => ?_) (ready_mono hr (Ne.symm hji)) h3.1 ?_)
        (lOp_put hoj (hfree j oj hoj hji hjun hnot) (fun cs b => hsel i oi cs b hi) (fun cs b => hsel j oj cs b hoj) hy (H.2 j (ready_mono hj hji)))
      · refine hfree k ok hk hki ?_ hno
        by_cases hjk : j = k
        · subst hjk; exact hjun
        · rw [getD_set_ne true hjk] at hun; exact hun
      · rw [Array.setIfInBounds_comm _ _ hji]
        exact h3.2

/-! ### an order of our own -/
/-- Is it an order: each may come up in its turn; one of one value may be taken first; one of several stands alone? -/
def ordB (md : Region.Mode) (ops : Array Oper) : List (Bool × Nat) → Array Bool → Bool
  | [], listed => (Region.ready md ops listed).isEmpty
  | (m, i) :: r, listed => (Region.ready md ops listed).contains i && (if m then Region.ready md ops listed == [i] else Region.free md ops listed i) && ordB md ops r (listed.setIfInBounds i true)
def wpSegs (P : Program) (ops : Array Oper) (C : World → Prop) (Q : Act → Prop) : List (Bool × List Oper) → Act → Prop
  | [], a => Q a
  | (false, l) :: r, a => wpQuiet P ops C (wpSegs P ops C Q r) l a
  | (true, []) :: r, a => wpSegs P ops C Q r a
  | (true, o :: _) :: r, a => laxOp P ops C o (wpSegs P ops C Q r) a
/-- One by one. -/
def wpOrd (P : Program) (ops : Array Oper) (C : World → Prop) (Q : Act → Prop) : List (Bool × Oper) → Act → Prop
  | [], a => Q a
  | (m, o) :: r, a => if m then laxOp P ops C o (wpOrd P ops C Q r) a else (if Region.wanted o (yielded ops a.tmps) then o.quiet P a C (wpOrd P ops C Q r) else wpOrd P ops C Q r (a.put o.dst undef))
def flatSegs : List (Bool × List Oper) → List (Bool × Oper)
  | [] => []
  | (false, l) :: r => l.map (fun o => (false, o)) ++ flatSegs r
  | (true, []) :: r => flatSegs r
  | (true, o :: _) :: r => (true, o) :: flatSegs r
theorem wpOrd_quiet {Q : Act → Prop} (r : List (Bool × Oper)) : ∀ (l : List Oper) (a : Act), wpQuiet P ops C (wpOrd P ops C Q r) l a → wpOrd P ops C Q (l.map (fun o => (false, o)) ++ r) a
  | [], _, h => h
  | o :: l, a, h => by
    show (if Region.wanted o (yielded ops a.tmps) then o.quiet P a C _ else _)
    have h' : (if Region.wanted o (yielded ops a.tmps) then o.quiet P a C (wpQuiet P ops C (wpOrd P ops C Q r) l) else wpQuiet P ops C (wpOrd P ops C Q r) l (a.put o.dst undef)) := h
    split
    · rename_i hw
      rw [if_pos hw] at h'
      exact Oper.quiet_mono (fun a' h => wpOrd_quiet r l a' h) h'
    · rename_i hw
      rw [if_neg hw] at h'
      exact wpOrd_quiet r l _ h'
theorem wpQuiet_imp {Q Q' : Act → Prop} (h : ∀ a, Q a → Q' a) : ∀ (l : List Oper) (a : Act), wpQuiet P ops C Q l a → wpQuiet P ops C Q' l a
  | [], _, hh => h _ hh
  | o :: l, a, hh => by
    have h' : (if Region.wanted o (yielded ops a.tmps) then o.quiet P a C (wpQuiet P ops C Q l) else wpQuiet P ops C Q l (a.put o.dst undef)) := hh
    show (if Region.wanted o (yielded ops a.tmps) then o.quiet P a C (wpQuiet P ops C Q' l) else wpQuiet P ops C Q' l (a.put o.dst undef))
    split
    · rename_i hw
      rw [if_pos hw] at h'
      exact Oper.quiet_mono (fun a' h1 => wpQuiet_imp h l a' h1) h'
    · rename_i hw
      rw [if_neg hw] at h'
      exact wpQuiet_imp h l _ h'
theorem wpOrd_of_segs {Q : Act → Prop} : ∀ (s : List (Bool × List Oper)) (a : Act), wpSegs P ops C Q s a → wpOrd P ops C Q (flatSegs s) a
  | [], _, h => h
  | (false, l) :: r, a, h => wpOrd_quiet (flatSegs r) l a (wpQuiet_imp (fun a' h' => wpOrd_of_segs r a' h') l a h)
  | (true, []) :: r, a, h => wpOrd_of_segs r a h
  | (true, o :: _) :: r, a, h => by
    show (if true = true then laxOp P ops C o _ a else _)
    rw [if_pos rfl]
    exact laxOp_mono (fun a' h' => wpOrd_of_segs r a' h') h
theorem wpAnyL_ord {Q : Act → Prop} (hs : Region.noSelect ops = true) : ∀ (ord : List (Bool × Nat)) (l : List (Bool × Oper)) (listed : Array Bool) (a : Act),
    l.length = ord.length → (∀ (j : Nat) (x : Bool × Oper) (y : Bool × Nat), l[j]? = some x → ord[j]? = some y → x.1 = y.1 ∧ ops[y.2]? = some x.2) → ordB md ops ord listed = true → wpOrd P ops C Q l a → wpAnyL P md ops C Q ord.length listed a
  | [], l, listed, a, hl, _, hB, h => by
    have : l = [] := List.eq_nil_of_length_eq_zero hl
    subst this
    exact ⟨by simpa [ordB] using hB, h⟩
  | (m, i) :: ord, [], _, _, hl, _, _, _ => by simp at hl
  | (m, i) :: ord, (m', o) :: l, listed, a, hl, hx, hB, h => by
    obtain ⟨e1, e2⟩ := hx 0 _ _ rfl rfl
    simp only at e1 e2
    subst e1
    simp only [ordB, Bool.and_eq_true] at hB
    obtain ⟨⟨hr, hf⟩, hB'⟩ := hB
    have hrest : ∀ a', wpOrd P ops C Q l a' → wpAnyL P md ops C Q ord.length (listed.setIfInBounds i true) a' := fun a' h' =>
      wpAnyL_ord hs ord l _ a' (by simpa using hl) (fun j x y h1 h2 => hx (j + 1) x y (by simpa using h1) (by simpa using h2)) hB' h'
    cases m' with
    | true =>
      have hone : Region.ready md ops listed = [i] := by simpa using hf
      have h' : laxOp P ops C o (wpOrd P ops C Q l) a := h
      refine ⟨fun h0 => (by rw [h0] at hone; cases hone), fun j hj => ?_⟩
      rw [hone, List.mem_singleton] at hj
      subst hj
      unfold lOp
      rw [e2]
      exact laxOp_mono hrest h'
    | false =>
      have h' : (if Region.wanted o (yielded ops a.tmps) then o.quiet P a C (wpOrd P ops C Q l) else wpOrd P ops C Q l (a.put o.dst undef)) := h
      have hq : qOp P ops C i (wpOrd P ops C Q l) a := by unfold qOp; rw [e2]; exact h'
      obtain ⟨v, hy, hK⟩ := yieldsIn_of_qOp e2 hq
      exact wpAnyL_first e2 (Region.noSelect_spec hs) ord.length listed a (Region.free_spec e2 (by simpa using hf)) (by simpa using hr) hy (hrest _ hK)

/-- A region that draws its order, walked once in an order of our own. -/
theorem wp_region_segs {id : Nat} {Q : Exit → Act → World → Prop} {a : Act} {w : World} {l : List Oper} (C : World → Prop) (segs : List Oper → List (Bool × List Oper)) (ord : List (Bool × Nat))
    (hm : P.follows .mixedOrders = true) (hs : Region.noSelect l.toArray = true) (hlen : ord.length = l.length) (hB : ordB .any l.toArray ord (Array.replicate l.length false) = true)
    (hl : (flatSegs (segs l)).map (fun x => (x.1, some x.2)) = ord.map (fun y => (y.1, l[y.2]?))) (hC : C w.drew)
    (h : wpSegs P l.toArray C (fun a' => ∀ w', C w' → Q .normal a' w') (segs l) a) : (Code.region id l.toArray true).wp P Q a w := by
  refine wp_region_any hm (wpAny_of_lax (C := C) (Q := fun a' => ∀ w', C w' → Q .normal a' w') (fun _ w' hw' h => h w' hw') _ _ _ _ hC ?_)
  have hlen2 : (flatSegs (segs l)).length = ord.length := by
    have := congrArg List.length hl
    simpa using this
  have h2 := wpAnyL_ord (md := .any) hs ord (flatSegs (segs l)) (Array.replicate l.length false) a hlen2 (fun j x y h1 h2 => by
    have h3 := congrArg (fun z => z[j]?) hl
    simp only [List.getElem?_map, h1, h2, Option.map_some, Option.some.injEq, Prod.mk.injEq] at h3
    exact ⟨h3.1, by rw [List.getElem?_toArray]; exact h3.2.symm⟩) hB (wpOrd_of_segs _ a h)
  rw [hlen] at h2
  simpa using h2
/-- The same, in the order of the text, where all yield one value. -/
theorem wp_region_keeps {id : Nat} {Q : Exit → Act → World → Prop} {a : Act} {w : World} {l : List Oper} (C : World → Prop) (hm : P.follows .mixedOrders = true) (hB : Region.lexB .any l.toArray = true) (hC : C w.drew)
    (h : wpQuiet P l.toArray C (fun a' => ∀ w', C w' → Q .normal a' w') l a) : (Code.region id l.toArray true).wp P Q a w :=
  wp_region_quiet (C := C) hm hB hC h
end
end Go.Proofs.YtmeepegllkhlcaaGreat
