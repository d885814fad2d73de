/-
  The argument of the pager's laws, read: a disk's bytes, numbers, a script.
-/
import Derived.Test.YtmeepegllkhlcaaGreatOps
import Derived.Test.YtmeepegllkhlcaaGreatChecked
namespace Go.Proofs.YtmeepegllkhlcaaGreat
open Go Go.RowKit Go.ChangeShapes Go.WideShapes Go.Deep

section
variable {H : Type} {enc : TypeId × Value → H} {W : World}
/-- A World, as data. -/
def WorldD (img : Bs) (f pg fr : Int) (os : List OpP) (d : DataW H) : Prop := ∃ sd : DataW H, d = .agg [.lit (.string img), .lit (.int .i64 f), .lit (.int .i64 pg), .lit (.int .i64 fr), sd] ∧ OpsD os sd

set_option maxRecDepth 100000 in
theorem read_world {r : Reach} {b0 : Nat} {v : Value} {d : DataW H} {ps : List MemPlace} (hv : Value.okWide Tryz.prog W r b0 24 v) (h : DataW.Trod enc Tryz.prog W 0 (fun _ => true) true 24 v d ps) :
    ∃ (img : Bs) (f pg fr : Int) (sv : Value) (os : List OpP), v = .agg #[strV img, .int .i64 f, .int .i64 pg, .int .i64 fr, sv] ∧ i64ok f ∧ i64ok pg ∧ i64ok fr ∧ img.length ≤ 9223372036854775807 ∧ ReadsOps (old W.heap.size W.heap) sv os ∧ WorldD img f pg fr os d ∧ ∀ o ∈ os, o.In W := by
  obtain ⟨cs, rfl, hsz⟩ := okWide_struct Tryz.underlying24 hv
  obtain ⟨n, h⟩ := h
  obtain ⟨hlen, ys, m, hx, hyl, hf⟩ := read_fields Tryz.underlying24 (by kernel_rfl) (by kernel_rfl) h
  obtain ⟨v0, y0, c0, z0, r0⟩ := hf 0 _ rfl
  obtain ⟨v1, y1, c1, z1, r1⟩ := hf 1 _ rfl
  obtain ⟨v2, y2, c2, z2, r2⟩ := hf 2 _ rfl
  obtain ⟨v3, y3, c3, z3, r3⟩ := hf 3 _ rfl
  obtain ⟨v4, y4, c4, z4, r4⟩ := hf 4 _ rfl
  obtain ⟨s, q0, rfl, w0⟩ := DataW.trod_string Tryz.underlying9 r0
  obtain ⟨k1, q1, rfl, w1⟩ := DataW.trod_int Tryz.underlying3 r1
  obtain ⟨k2, q2, rfl, w2⟩ := DataW.trod_int Tryz.underlying3 r2
  obtain ⟨k3, q3, rfl, w3⟩ := DataW.trod_int Tryz.underlying3 r3
  obtain ⟨os, h4, d4, i4⟩ := read_ops Tryz.underlying22 Tryz.underlying47 (by kernel_rfl) (by kernel_rfl) rfl rfl rfl rfl rfl rfl Tryz.underlying3 Tryz.underlying9 Tryz.underlying38 (by kernel_rfl) r4
  injection q0 with q0 _
  injection q1 with q1 _
  injection q2 with q2 _
  injection q3 with q3 _
  subst q0 q1 q2 q3
  have hsv : strV s.data.toList = .string s := by
    obtain ⟨d⟩ := s
    rfl
  have hsl : s.data.toList.length = s.size := by rw [Array.length_toList]; rfl
  obtain ⟨l⟩ := cs
  have hlen' : l.length = 5 := hlen
  have e0 : l[0]? = some (.string s) := c0
  have e1 : l[1]? = some (.int .i64 k1) := c1
  have e2 : l[2]? = some (.int .i64 k2) := c2
  have e3 : l[3]? = some (.int .i64 k3) := c3
  have e4 : l[4]? = some v4 := c4
  clear c0 c1 c2 c3 c4 hlen hsz hv h hf r0 r1 r2 r3 r4
  injection hx with hd hp
  subst hd
  clear hp
  match l, hlen', e0, e1, e2, e3, e4 with
  | [a, b, c, d, e], _, c0, c1, c2, c3, c4 =>
    simp only [List.getElem?_cons_zero, List.getElem?_cons_succ, Option.some.injEq] at c0 c1 c2 c3 c4
    subst c0 c1 c2 c3 c4
    match ys, hyl, z0, z1, z2, z3, z4 with
    | [a, b, c, d, e], _, z0, z1, z2, z3, z4 =>
      simp only [List.getElem?_cons_zero, List.getElem?_cons_succ, Option.some.injEq] at z0 z1 z2 z3 z4
      subst z0 z1 z2 z3 z4
      refine ⟨s.data.toList, k1, k2, k3, _, os, ?_, wf_i64 w1, wf_i64 w2, wf_i64 w3, by rw [hsl]; unfold maxLen at w0; omega, h4, ⟨_, rfl, d4⟩, i4⟩
      rw [hsv]
end
end Go.Proofs.YtmeepegllkhlcaaGreat
