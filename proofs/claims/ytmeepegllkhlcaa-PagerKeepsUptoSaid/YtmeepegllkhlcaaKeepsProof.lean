/-
  PagerKeeps: for every World that is read with at most 1048576 values and letters, the law returns true, and the World reads as it did.
-/
import Derived.Test.YtmeepegllkhlcaaRows
import Derived.Test.YtmeepegllkhlcaaKeeps
import Derived.Test.YtmeepegllkhlcaaWorld
import Derived.WalkKit
import Derived.ProofKit
import Derived.OpenShut
import Derived.JoinedCond
import Derived.Carry
namespace Go.Proofs.Ytmeepegllkhlcaa
open Go Go.ChangeShapes Go.WideShapes Go.ChangeAt Go.RowKit

namespace KeepsRow
theorem own : ownKnob Try.prog.godebug = none := by kernel_rfl
theorem laidOut : laidOutB Try.prog = true := by kernel_rfl

/-! ### what the bound gives -/
section
variable {H : Type}
theorem part_le {d : DataW H} : ∀ {l : List (DataW H)}, d ∈ l → Rows.uptoBulk d ≤ Rows.uptoBulkAll l
  | x :: r, h => by
    unfold Rows.uptoBulkAll
    rcases List.mem_cons.1 h with e | e
    · subst e; omega
    · have := part_le e; omega
theorem lits_le (k : IntKind) : ∀ (l : List Int), l.length ≤ Rows.uptoBulkAll (H := H) (lits k l)
  | [] => by simp
  | x :: l => by
    have := lits_le k l
    unfold lits at this ⊢
    rw [List.map_cons]
    unfold Rows.uptoBulkAll
    have : 1 ≤ Rows.uptoBulk (H := H) (.lit (.int k x)) := by simp [Rows.uptoBulk]
    simp only [List.length_cons]
    omega
theorem ints_le {xs : List Int} {d : DataW H} (h : IntsD xs d) : xs.length ≤ Rows.uptoBulk d := by
  rcases h with ⟨rfl, rfl⟩ | ⟨sp, rfl⟩
  · simp
  · have := lits_le (H := H) .i64 xs
    simp only [Rows.uptoBulk]
    omega
theorem op_le {o : OpP} {d : DataW H} (h : OpD o d) : o.s.length ≤ Rows.uptoBulk d ∧ o.pages.length ≤ Rows.uptoBulk d ∧ o.kept.length ≤ Rows.uptoBulk d := by
  obtain ⟨pd, kd, rfl, h1, h2⟩ := h
  have h1 := ints_le h1
  have h2 := ints_le h2
  simp only [Rows.uptoBulk, Rows.uptoBulkAll]
  omega
theorem ops_le {os : List OpP} {d : DataW H} (h : OpsD os d) {o : OpP} (ho : o ∈ os) : o.s.length ≤ Rows.uptoBulk d ∧ o.pages.length ≤ Rows.uptoBulk d ∧ o.kept.length ≤ Rows.uptoBulk d := by
  rcases h with ⟨rfl, rfl⟩ | ⟨ds, sp, rfl, hl, he⟩
  · cases ho
  · obtain ⟨j, hj, rfl⟩ := List.getElem_of_mem ho
    obtain ⟨e, h1, h2⟩ := he j _ (List.getElem?_eq_getElem hj)
    have h3 := op_le h2
    have h4 := part_le (List.mem_of_getElem? h1)
    simp only [Rows.uptoBulk]
    omega
set_option maxRecDepth 100000 in
theorem world_le {img : Bs} {f pg fr : Int} {os : List OpP} {d : DataW H} (h : WorldD img f pg fr os d) (hk : Rows.uptoSmall H [d] = true) {o : OpP} (ho : o ∈ os) : o.s.length ≤ 1048576 ∧ o.pages.length ≤ 1048576 ∧ o.kept.length ≤ 1048576 := by
  have hk' : Rows.uptoBulkAll [d] ≤ 1048576 := of_decide_eq_true hk
  obtain ⟨sd, rfl, h1⟩ := h
  have h2 := ops_le h1 ho
  simp only [Rows.uptoBulk, Rows.uptoBulkAll] at hk'
  omega
end

set_option maxRecDepth 100000 in
theorem walk {img : Bs} {f pg fr : Int} {sv : Value} {os : List OpP} {W : World} (hpg : i64ok pg) (hr : ReadsOps (old W.heap.size W.heap) sv os) (hin : ∀ o ∈ os, o.In W) (hle : ∀ o ∈ os, o.s.length ≤ 1048576 ∧ o.pages.length ≤ 1048576 ∧ o.kept.length ≤ 1048576) :
    Calls Try.prog 4 #[.agg #[strV img, .int .i64 f, .int .i64 pg, .int .i64 fr, sv]] W fun e w' => e = .returned (.bool true) ∧ Below W.heap.size W w' :=
  (PagerKeeps_calls (holds_old W) img f pg fr sv os hpg hr (fun o ho => by
    have h1 := hin o ho
    have h2 := hle o ho
    exact ⟨h1.kind, h1.at_, h1.n, by omega, h1.pages, h1.kept, h1.pagesI, by omega, by omega⟩)).mono fun _ _ h => ⟨h.1, below_of_old h⟩

set_option maxRecDepth 100000 in
theorem contract (H : Type) (enc : TypeId × Value → H) (W : World) (base : Nat) (args : Array Value) (ds gs : List (DataW H)) (before : List MemPlace)
    (hval : ∀ (j : Nat) t v, Try.f4.params[j]? = some t → args[j]? = some v → Value.okWide Try.prog W .any base t v)
    (hW : DataW.Whole enc Try.prog Try.f4.params.toList Rows.pagerKeepsSpec.vars false W args.toList ds gs before) (hk : Rows.uptoSmall H (ds ++ gs) = true) :
    Calls Try.prog 4 args W fun e W' => ∃ v, e = .returned v ∧ Rows.pagerKeepsSpec.post enc Try.prog Try.f4 false true false false W args v W' := by
  have hW' := hW
  obtain ⟨p, q, hA0, hV, rfl, hfz, hnd⟩ := hW
  have hA : DataW.TrodAll enc Try.prog W 0 (fun _ => true) true Try.f4.params.toList args.toList ds p := hA0
  rw [Try.params4] at hA hval
  obtain ⟨v0, vs0, d0, ds0, p0, q0, hargs, rfl, rfl, h0, r0⟩ := trodAll_cons hA
  obtain ⟨rfl, rfl, rfl⟩ := trodAll_nil r0
  obtain rfl : args = #[v0] := by cases args; simp_all
  obtain ⟨rfl, rfl⟩ := trodVars_none hV
  obtain ⟨img, f, pg, fr, sv, os, rfl, _, hpg, _, _, hr, hd, hin⟩ := read_world (hval 0 32 v0 rfl rfl) h0
  clear hA0
  simp only [List.append_nil] at hW' hk
  refine (walk hpg hr hin (fun o ho => world_le hd hk ho)).mono fun e W' ⟨he, hg⟩ => ?_
  subst he
  refine ⟨_, rfl, post_of_old (pa := p0) (pv := []) hW' (fun _ _ _ => trodAll_cons_mk (shut_bool Try.underlying4 _) trodAll_mk0) (fun sp hs => ?_) (fun _ _ => rfl) (by simp)
    hg (ok_one (by kernel_rfl) rfl (okWide_bool_mk Try.underlying4 _))⟩
  refine trodAll_mk1 (WideElems.Trod_stays laidOut (by kernel_rfl) (of_decide_eq_true (by kernel_rfl)) h0 (fun x hx => hg.same (hW'.lt x (by simpa using hx))) (fun x hx => hs x (by simpa using hx)))

set_option maxRecDepth 100000 in
theorem lifted (os : Os) (started : os.Started) (H : Type) (enc : TypeId × Value → H) (F : Stop.Interp) :
    ReturnsInHanded {} Try.checked os 4 .any ((Rows.OpenSpec.upto Rows.pagerKeepsSpec).pre6 enc Try.prog Try.f4 Rows.pagerKeepsUptoRow.domain false) (((Rows.OpenSpec.upto Rows.pagerKeepsSpec).at F).post enc Try.prog Try.f4 false true false false) := by
  refine returnsInHanded_of_cond (C := Try.checked) (s := Rows.OpenSpec.upto Rows.pagerKeepsSpec) (k := Rows.uptoSmall) rfl own started (by kernel_rfl) Try.func4
    (OpenSpec.witness (enc := enc) (C := Try.checked) (s := Rows.OpenSpec.upto Rows.pagerKeepsSpec) (k := Rows.uptoSmall) rfl false ⟨#[], #[.agg #[.string .empty, .int .i64 0, .int .i64 0, .int .i64 0, .slice none 0 0]], []⟩ 8 (by kernel_rfl) (by kernel_rfl) (by kernel_rfl)
      (x := ([.agg [.lit (.string []), .lit (.int .i64 0), .lit (.int .i64 0), .lit (.int .i64 0), .nil]], [], [])) (by kernel_rfl) rfl (by kernel_rfl)) ?_
  intro W base args ds gs before hval hW _ hk _
  exact contract H enc W base args ds gs before hval hW hk

theorem over : Rows.PagerKeepsUptoSaid :=
  OpenClaim.holds_of_cond 4 Try.f4 rfl rfl rfl rfl rfl rfl rfl ⟨rfl, rfl, rfl, rfl, rfl⟩ rfl rfl rfl rfl rfl (by kernel_rfl) Try.func4 (by kernel_rfl)
    (of_decide_eq_true (by kernel_rfl)) (by unfold Func.isWrapper; first | (rw [if_pos (by decide +kernel)]; kernel_rfl) | (rw [if_neg (by decide +kernel)]; exact ⟨rfl, rfl⟩))
    (fun os started H enc _ F => lifted os started H enc F)
end KeepsRow
theorem pagerKeepsUpto_holds : Rows.PagerKeepsUptoSaid := KeepsRow.over
#print axioms pagerKeepsUpto_holds
end Go.Proofs.Ytmeepegllkhlcaa
