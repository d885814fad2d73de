/-
  A slice of texts of the call's own, to which texts are appended.
-/
import Derived.Test.YtmeepegllkhlcaaGreatLaw
namespace Go.Proofs.YtmeepegllkhlcaaGreat
open Go Go.RowKit Go.Maps

theorem Tryz_infoStr : (Tryz.prog.info? 9).map (fun i => (i.zero, i.size, i.bytes)) = some (some (.string ⟨#[]⟩), 1, 16) := by kernel_rfl

/-- Texts in a row of the call's own. -/
def rowS (v : Value) (l : List Bs) : HProp :=
  ex fun g : Nat => ex fun cap : Nat => ex fun cur : Array Value => pur (v = .slice (some ⟨g, 0, none⟩) l.length cap ∧ l.length ≤ cap ∧ cap ≤ maxLen ∧ cur.size = cap ∧ cur.toList.take l.length = l.map strV) * pt g (.cells cur 9 (0, 0))
theorem rowS_open {v : Value} {l : List Bs} {F : HProp} {w : World} : Holds (rowS v l * F) w ↔ ∃ g cap cur, (v = .slice (some ⟨g, 0, none⟩) l.length cap ∧ l.length ≤ cap ∧ cap ≤ maxLen ∧ cur.size = cap ∧ cur.toList.take l.length = l.map strV) ∧ Holds (pt g (.cells cur 9 (0, 0)) * F) w := by
  unfold rowS
  rw [holds_ex_sep]
  constructor
  · rintro ⟨g, h⟩
    rw [holds_ex_sep] at h
    obtain ⟨cap, h⟩ := h
    rw [holds_ex_sep] at h
    obtain ⟨cur, h⟩ := h
    rw [sep_assoc, holds_pur_sep] at h
    exact ⟨g, cap, cur, h.1, h.2⟩
  · rintro ⟨g, cap, cur, h1, h2⟩
    refine ⟨g, ?_⟩
    rw [holds_ex_sep]
    refine ⟨cap, ?_⟩
    rw [holds_ex_sep]
    refine ⟨cur, ?_⟩
    rw [sep_assoc, holds_pur_sep]
    exact ⟨h1, h2⟩
theorem rowS_cell {v : Value} {l : List Bs} {F : HProp} {w : World} (h : Holds (rowS v l * F) w) : ∃ g cap, v = .slice (some ⟨g, 0, none⟩) l.length cap ∧ l.length ≤ cap ∧ ∀ j, j < l.length → w.cell? ⟨g, j, none⟩ = some (strV (l.getD j [])) := by
  obtain ⟨g, cap, cur, ⟨hv, h1, h2, h3, h4⟩, hp⟩ := rowS_open.1 h
  refine ⟨g, cap, hv, h1, fun j hj => ?_⟩
  refine hp.cell j ?_
  have h5 : (cur.toList.take l.length)[j]? = (l.map strV)[j]? := by rw [h4]
  rw [List.getElem?_take, if_pos hj] at h5
  rw [← Array.getElem?_toList, h5, List.getElem?_map, List.getElem?_eq_getElem hj, List.getD_eq_getElem?_getD, List.getElem?_eq_getElem hj]
  rfl
theorem rowS_made {F : HProp} {w : World} (H : Holds F w) : Holds (rowS (.slice (some ⟨w.heap.size, 0, none⟩) 0 0) [] * F) (w.alloc (.cells #[] 9)) :=
  rowS_open.2 ⟨w.heap.size, 0, #[], ⟨rfl, Nat.le_refl _, Nat.zero_le _, rfl, rfl⟩, H.alloc _⟩

theorem rowS_of_own {F : HProp} {w' : World} {v : Value} {l : List Bs} {B : Nat} (h : w'.ownsRow B 9 1 v l.length (l.map strV)) (hne : 0 < l.length) (hg : ∀ g n c, v = .slice (some ⟨g, 0, none⟩) n c → w'.heap[g]? ≠ none → ∀ o, w'.heap[g]? = some o → Holds (pt g o * F) w') : Holds (rowS v l * F) w' := by
  rcases h.2 with ⟨_, h0⟩ | ⟨g, cap, cur, hv, hb, hh, h1, h2, h3, h4⟩
  · omega
  · refine rowS_open.2 ⟨g, cap, cur, ⟨hv, h1, h2, by rw [h3, Nat.mul_one], by rw [← h4, Nat.mul_one]⟩, hg g _ _ hv (by rw [hh]; simp) _ hh⟩

/-- 'append(v, s)', v a row of texts of the call's own. -/
theorem append_str {W : World} {ops : Array Oper} {rest : List Oper} {o : Oper} {a : Act} {Q : Exit → Act → World → Prop} {F : HProp} (hgd : o.guard = none) (s x : Operand)
    (ho : o.op = .call { callee := .builtin .append, args := #[s, x], argTypes := #[79, 79] }) (v : Value) (l : List Bs) (b : Bs) (y : Value) (hy : y = strV b) (hs : a.eval s = v) (hx : a.eval x = .slice (some ⟨W.heap.size, 0, none⟩) 1 1)
    (H : Holds (rowS v l * F) W) (hl : l.length ≤ 4000000)
    (hK : ∀ v1 w1, Holds (rowS v1 (l ++ [b]) * F) w1 → Keeps W w1 → wpList Tryz.prog ops Q rest (a.put o.dst v1) w1) : wpList Tryz.prog ops Q (o :: rest) a (W.alloc (.cells #[y] 9)) := by
  obtain ⟨i0, hi, hz0, hz1, hz2⟩ := info_parts Tryz_infoStr
  subst hy
  obtain ⟨g, cap, cur, ⟨rfl, h1, h2, h3, h4⟩, hp⟩ := rowS_open.1 H
  have hlt := hp.lt
  have hp' := hp.alloc_only (.cells #[strV b] 9)
  have hhere := hp'.here
  have hlen : (l ++ [b]).length = l.length + 1 := by simp
  have hmap : (l ++ [b]).map strV = l.map strV ++ [strV b] := by simp
  have hold : ∀ j u, (l.map strV)[j]? = some u → (W.alloc (.cells #[strV b] 9)).cell? ((⟨g, 0, none⟩ : Addr).add j) = some u := by
    intro j u hj
    have hjl : j < l.length := by
      rcases Nat.lt_or_ge j l.length with h | h
      · exact h
      · rw [List.getElem?_eq_none (by simpa using h)] at hj; cases hj
    have ha : (⟨g, 0, none⟩ : Addr).add j = ⟨g, j, none⟩ := by unfold Addr.add; split <;> simp_all
    rw [ha]
    refine hp'.cell j ?_
    rw [← h4, List.getElem?_take, if_pos hjl, Array.getElem?_toList] at hj
    exact hj
  have hnew : ∀ j u, ([strV b] : List Value)[j]? = some u → (W.alloc (.cells #[strV b] 9)).cell? ((⟨W.heap.size, 0, none⟩ : Addr).add j) = some u := by
    intro j u hj
    match j, hj with
    | 0, hj =>
      simp at hj; subst hj
      have hh : (W.alloc (.cells #[strV b] 9)).heap[W.heap.size]? = some (.cells #[strV b] 9) := World.alloc_heap_new W _
      have ha : (⟨W.heap.size, 0, none⟩ : Addr).add 0 = ⟨W.heap.size, 0, none⟩ := rfl
      rw [ha]
      unfold World.cell?
      rw [hh]
      rfl
  have hone : ∀ u ∈ ([strV b] : List Value), u.oneCell' = true := by intro u hu; simp at hu; subst hu; rfl
  have KW := (Keeps.refl W).alloc (.cells #[strV b] 9)
  by_cases hroom : l.length + 1 ≤ cap
  · have hown : (W.alloc (.cells #[strV b] 9)).ownsRow 0 9 1 (.slice (some ⟨g, 0, none⟩) l.length cap) l.length (l.map strV) :=
      ⟨by simp, .inr ⟨g, cap, cur, rfl, Nat.zero_le _, hhere, h1, h2, by rw [h3, Nat.mul_one], by rw [Nat.mul_one]; exact h4⟩⟩
    refine wpList_append_fits (W.alloc (.cells #[strV b] 9)) hgd s x 79 ho 0 9 i0 1 Tryz.underlying79 hi hz1 g l.length cap (l.map strV) hs hown ⟨W.heap.size, 0, none⟩ 1 1 [strV b] hx rfl hnew hone hroom ?_
    intro w1 ho1 hg1
    rw [← hlen, ← hmap] at ho1
    have hv : (Value.slice (some ⟨g, 0, none⟩) (l.length + 1) cap) = .slice (some ⟨g, 0, none⟩) (l ++ [b]).length cap := by rw [hlen]
    refine hK _ w1 ?_ (KW.trans (Keeps.grown hg1))
    rw [hv]
    rw [hlen, ← hlen] at ho1
    refine rowS_of_own ho1 (by rw [hlen]; omega) (fun g' n c hv2 _ o' ho' => ?_)
    have hgg : g' = g := by
      have : (l ++ [b]).length = l.length + 1 := hlen
      simp only [Value.slice.injEq, Option.some.injEq, Addr.mk.injEq] at hv2
      exact hv2.1.1.symm
    subst hgg
    exact hp'.upd ho' (fun j hj hne => hg1.block j hj (fun e => hne (by cases e; rfl)))
  · refine wpList_append_grows (W.alloc (.cells #[strV b] 9)) hgd s x 79 ho 9 i0 (.string ⟨#[]⟩) 1 16 Tryz.underlying79 hi hz0 hz1 hz2 rfl (by decide) (some ⟨g, 0, none⟩) l.length cap (l.map strV) hs (fun h => by cases h) (by simp) (fun q hq => by cases hq; exact hold) ⟨W.heap.size, 0, none⟩ 1 1 [strV b] hx rfl hnew hone (by omega) (by unfold maxLen; omega) (by omega) ?_
    intro v1 w1 ho1 hg1
    rw [← hlen, ← hmap] at ho1
    refine hK _ w1 ?_ (KW.trans (Keeps.grown hg1))
    have hge : ∀ g' n c, v1 = .slice (some ⟨g', 0, none⟩) n c → (W.alloc (.cells #[strV b] 9)).heap.size ≤ g' := by
      intro g' n c hv
      rcases ho1.2 with ⟨_, h0⟩ | ⟨g2, cap2, cur2, hv2, hb2, _⟩
      · rw [hlen] at h0; omega
      · rw [hv2] at hv
        simp only [Value.slice.injEq, Option.some.injEq, Addr.mk.injEq] at hv
        rw [← hv.1.1]; exact hb2
    refine rowS_of_own ho1 (by rw [hlen]; omega) (fun g' n c hv2 _ o' ho' => ?_)
    exact hp'.right.fresh (hge g' n c hv2) ho' (fun j hj => hg1.block j hj (fun e => by cases e))
theorem strV_size (l : Bs) : ∃ sb : ByteArray, strV l = .string sb ∧ sb.size = l.length := ⟨⟨l.toArray⟩, rfl, by simp [ByteArray.size]⟩
/-- A slice of texts that can be read wherever F holds. -/
def ReadsS (F : HProp) (v : Value) (l : List Bs) : Prop := ∀ w, Holds F w → ∃ (a : Option Addr) (c : Nat), v = .slice a l.length c ∧ l.length ≤ c ∧ (0 < l.length → ∃ ad : Addr, a = some ad ∧ ∀ j, j < l.length → w.cell? (ad.add j) = some (strV (l.getD j [])))
theorem ReadsS.frame {F : HProp} {v : Value} {l : List Bs} (h : ReadsS F v l) (G : HProp) : ReadsS (G * F) v l := fun w hw => h w hw.right
theorem reads_rowS {v : Value} {l : List Bs} (F : HProp) : ReadsS (rowS v l * F) v l := fun w hw => by
  obtain ⟨g, cap, hv, hc, hcell⟩ := rowS_cell hw
  refine ⟨_, cap, hv, hc, fun _ => ⟨⟨g, 0, none⟩, rfl, fun j hj => ?_⟩⟩
  have hadd : (⟨g, 0, none⟩ : Addr).add j = ⟨g, j, none⟩ := by unfold Addr.add; split <;> simp_all
  rw [hadd]
  exact hcell j hj
/-! ### a row of bytes of the call's own, to which texts are appended -/
/-- Bytes in a row of the call's own. -/
def ownB (B : Nat) (v : Value) (l : Bs) (w : World) : Prop := ∃ g c, v = .slice (some ⟨g, 0, none⟩) l.length c ∧ B ≤ g ∧ w.ownsRow B 5 1 v l.length (Lib.byteCells l)
theorem ownB_made {B : Nat} {w : World} (h : B ≤ w.heap.size) : ownB B (.slice (some ⟨w.heap.size, 0, none⟩) 0 0) [] (w.alloc (.cells #[] 5)) :=
  ⟨_, _, rfl, h, World.ownsRow_made w #[] 0 h (Nat.zero_le _) rfl⟩
theorem ownB_val {B : Nat} {v : Value} {l : Bs} {w : World} (h : ownB B v l w) : ∃ g c, v = .slice (some ⟨g, 0, none⟩) l.length c := by
  obtain ⟨g, c, hv, _⟩ := h
  exact ⟨g, c, hv⟩
theorem ownB_string {B g c : Nat} {l : Bs} {w : World} (h : ownB B (.slice (some ⟨g, 0, none⟩) l.length c) l w) : (convert 60 9 (.slice (some ⟨g, 0, none⟩) l.length c)).run Tryz.prog w = .ok (strV l) w := by
  obtain ⟨_, _, _, _, h⟩ := h
  exact run_own_string h rfl
/-- 'append(v, s...)', v a row of bytes of the call's own, s a text. -/
theorem append_text {W : World} {ops : Array Oper} {rest : List Oper} {o : Oper} {a : Act} {Q : Exit → Act → World → Prop} (B : Nat) (hgd : o.guard = none) (sl x : Operand)
    (ho : o.op = .call { callee := .builtin .append, args := #[sl, x], argTypes := #[60, 9] }) (v : Value) (cur t : Bs) (s : ByteArray) (hst : strV t = .string s) (hs : a.eval sl = v) (hx : a.eval x = .string s)
    (hown : ownB B v cur W) (hB : B ≤ W.heap.size) (hl : cur.length + t.length ≤ 100000000)
    (hK : ∀ v1 w1, ownB B v1 (cur ++ t) w1 → Below B W w1 → wpList Tryz.prog ops Q rest (a.put o.dst v1) w1) : wpList Tryz.prog ops Q (o :: rest) a W := by
  obtain ⟨i0, hi, hz0, hz1, hz2⟩ := info_parts Tryz_infoByte
  obtain ⟨g, c, rfl, hg, hrow⟩ := hown
  injection hst with hst
  subst hst
  have hsz : (⟨t.toArray⟩ : ByteArray).size = t.length := by simp [ByteArray.size]
  refine Lib.wpList_append_own_string _ hgd sl x 60 9 ho B 5 i0 Tryz.underlying60 Tryz.underlying9 hi hz0 hz1 hz2 _ cur.length (Lib.byteCells cur) hs hrow _ hx (by rw [hsz]; unfold maxLen; omega) (by rw [hsz]; omega) hB ?_
  intro v1 w1 h1 hg1 hnil
  have e1 : Lib.strCells ⟨t.toArray⟩ = Lib.byteCells t := rfl
  have e2 : cur.length + (⟨t.toArray⟩ : ByteArray).size = (cur ++ t).length := by rw [hsz, List.length_append]
  rw [e1, ← Lib.byteCells_append, e2] at h1
  refine hK v1 w1 ?_ ((Below.refl B W).grown hg1 hB (fun r hr => by cases hr; exact hg))
  have h2 := h1
  rcases h1.2 with ⟨hv, _⟩ | ⟨g2, c2, cur2, hv, hb, _⟩
  · exact absurd (hnil.1 hv).1 (by intro h; cases h)
  · exact ⟨g2, c2, hv, hb, h2⟩
end Go.Proofs.YtmeepegllkhlcaaGreat
