/-
  The library's contracts in the words of these texts: a builder that a call has made; slices.Clone; strings.Repeat.
-/
import Derived.Test.YtmeepegllkhlcaaGreatSep
import Derived.Test.YtmeepegllkhlcaaGreatShelf
import Derived.Test.YtmeepegllkhlcaaGreatChecked
import Derived.WalkLawsBesides
import Derived.Lib.Hide
import Derived.StillTailTactics
namespace Go.Proofs
open Go.Shelf
theorem Tryz.l166 : Go.Proofs.Lays.n166 Tryz.prog Tryz.lays105_ren := { Tryz.lays105 with }
end Go.Proofs
namespace Go.Proofs.YtmeepegllkhlcaaGreat
open Go Go.RowKit

/-- A region that draws its order, reads, and ends in one thing that writes. -/
theorem region_tail {P : Program} {id : Nat} {Q : Exit → Act → World → Prop} {a : Act} {w : World} {l : List Oper} (n : Nat) (hm : P.follows .mixedOrders = true) (hB : Region.lexTailB .any l.toArray n = true)
    (h : wpStill P l.toArray w.drew (fun a' => wpList P l.toArray Q (l.drop n) a' w.drew) (l.take n) a) : (Code.region id l.toArray true).wp P Q a w := wp_region_still_tail n hm hB h

theorem Holds_below {A : HProp} {w w' : World} {B : Nat} (h : Holds A w) (hB : w.heap.size ≤ B) (hb : Below B w w') : Holds A w' := h.grow fun j hj => hb.block j (by omega)

/-- A builder in block b, of the call's own from b on, holds l. -/
def isB (b : Nat) (l : List UInt8) (w : World) : Prop := Lib.IsBuilderF 107 5 b b (Lib.byteCells l) w
theorem isB_fresh (w : World) : isB w.heap.size [] (w.alloc (.cells #[.pointer none, .slice none 0 0] 107)) := Lib.IsBuilderF.of (Lib.fresh_isBuilder _ _ w)
theorem isB_lt {b : Nat} {l : List UInt8} {w : World} (h : isB b l w) : b < w.heap.size := by
  rcases h with h | h <;> (obtain ⟨_, v, hb, _⟩ := h; exact (Array.getElem?_eq_some_iff.1 hb).1)
theorem WriteString_calls {b : Nat} {l : List UInt8} {w : World} (h : isB b l w) (s : List UInt8) (hl : l.length + s.length ≤ 140737488355328) :
    Calls Tryz.prog 81 #[.pointer (some ⟨b, 0, none⟩), strV s] w fun e w' => e = .returned (.tuple #[.int .i64 (s.length : Int), .nilIface]) ∧ isB b (l ++ s) w' ∧ Below b w w' := by
  have hsz : (⟨s.toArray⟩ : ByteArray).size = s.length := by simp [ByteArray.size]
  have := Any.Builder_WriteString_f Tryz.l166 Tryz.Builder_Extra_105 b b (Lib.byteCells l) ⟨s.toArray⟩ w h (by rw [Lib.byteCells_length, hsz]; exact hl) (Nat.le_of_lt (isB_lt h))
  refine this.mono fun e w' ⟨h1, h2, h3⟩ => ⟨by rw [h1, hsz], ?_, h3⟩
  have e1 : Lib.strCells ⟨s.toArray⟩ = Lib.byteCells s := rfl
  rw [e1, ← Lib.byteCells_append] at h2
  exact .inr h2
theorem BuilderString_calls {b : Nat} {l : List UInt8} {w : World} (h : isB b l w) :
    Calls Tryz.prog 83 #[.pointer (some ⟨b, 0, none⟩)] w fun e w' => e = .returned (strV l) ∧ isB b l w' ∧ Below b w w' :=
  Tryz.Builder_String_any_f b b l w h (Nat.le_of_lt (isB_lt h))
end Go.Proofs.YtmeepegllkhlcaaGreat
