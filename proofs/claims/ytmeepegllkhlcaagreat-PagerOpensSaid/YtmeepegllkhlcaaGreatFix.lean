/-
  The calls whose answers the document fixes, as plain data.
-/
import Derived.Test.YtmeepegllkhlcaaGreatPg
import Derived.KernelRfl
namespace Go.Proofs.YtmeepegllkhlcaaGreat
namespace Fx
def D0 : Dk := Dk.new (Pg.zeros 2176)
def D1 : Dk := (Pg.format D0 2 4 1).1
def p0 : Pg := Pg.fresh 2 4 1
def p1 : Pg := p0.alloc.1
def p2 : Pg := p1.alloc.1
def D2 : Dk := (p2.write D1 0 [97]).2.1
def D3 : Dk := (p2.commit D2 0 5 [0]).2.1
def p3 : Pg := { first := 2, pages := 4, root := 0, frm := 5, gen := 3, live := [0], taken := [], dead := false }
def q3 : Pg := { first := 2, pages := 4, root := 0, frm := 5, gen := 3, live := [], taken := [], dead := false }
def s3 : Bs := (p3.read D3 0).1

theorem ok0 : Dk.newOk (Pg.zeros 2176) = true := by kernel_rfl
theorem n0 : D0.n = 34 := by kernel_rfl
theorem fmt : (Pg.format D0 2 4 1).2 = (some p0, 0) := by kernel_rfl
theorem fmt2 : Pg.format D1 2 5 1 = (D1, none, 190) := by
  have h : Pg.check D1 2 5 1 = 190 := by kernel_rfl
  unfold Pg.format
  rw [if_pos (by rw [h]; decide), h]
theorem al0 : p0.alloc = (p1, 0, 0) := by kernel_rfl
theorem al1 : p1.alloc = (p2, 1, 0) := by kernel_rfl
theorem fr0 : p0.free = 4 := by kernel_rfl
theorem wr1 : (p2.write D1 0 [97]).1 = p2 ∧ (p2.write D1 0 [97]).2.2 = 0 := ⟨by kernel_rfl, by kernel_rfl⟩
theorem wr2 : p2.write D2 2 [97] = (p2, D2, 191) := by
  unfold Pg.write
  rw [if_neg (by decide), if_neg (by decide), if_pos (by kernel_rfl)]
theorem com : (p2.commit D2 0 5 [0]).1 = p3 ∧ (p2.commit D2 0 5 [0]).2.2 = 0 := ⟨by kernel_rfl, by kernel_rfl⟩
theorem wr3 : p3.write D3 0 [98] = (p3, D3, 191) := by
  unfold Pg.write
  rw [if_neg (by decide), if_neg (by decide), if_pos (by kernel_rfl)]
theorem rd3 : (p3.read D3 0).2 = 0 ∧ s3.length = 512 ∧ s3.getD 0 0 = 97 := ⟨by kernel_rfl, by kernel_rfl, by kernel_rfl⟩
theorem op3 : Pg.open_ D3 2 4 = (some q3, 0) := by kernel_rfl
theorem fr3 : p3.free = 3 ∧ q3.free = 4 := ⟨by kernel_rfl, by kernel_rfl⟩
end Fx
end Go.Proofs.YtmeepegllkhlcaaGreat
