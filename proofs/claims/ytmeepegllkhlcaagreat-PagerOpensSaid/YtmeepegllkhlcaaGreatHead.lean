/-
  A head's bytes: numbers laid the highest byte first.
-/
import Derived.Test.YtmeepegllkhlcaaGreatLib
import Derived.Lib.AppendZerosOnto
import Derived.Lib.SlBytesConst
import Derived.RangeFuncRecord
namespace Go.Proofs.YtmeepegllkhlcaaGreat
open Go Go.RowKit

theorem Tryz_infoByte : (Tryz.prog.info? 5).map (fun i => (i.zero, i.size, i.bytes)) = some (some (.int .u8 0), 1, 1) := by kernel_rfl

/-- n in k bytes, the highest first. -/
def beL (n : Nat) : Nat → List UInt8
  | 0 => []
  | k + 1 => UInt8.ofNat (n / 256 ^ k % 256) :: beL n k
theorem beL_length (n : Nat) : ∀ k, (beL n k).length = k
  | 0 => rfl
  | k + 1 => by simp [beL, beL_length n k]

theorem below_of_grown {B : Nat} {w w' : World} {v : Value} {n : Nat} {xs : List Value} {e : TypeId} (hown : w.ownsRow B e 1 v n xs) (hg : w.grownBy w' v.ownBlock) (hB : B ≤ w.heap.size) : Below B w w' :=
  (Below.refl B w).grown hg hB (fun k hk => (hown.lt k hk).1)

theorem own_base {W : World} {base base' : Nat} {e : TypeId} {size : Nat} {v : Value} {k : Nat} {xs : List Value} (h : W.ownsRow base e size v k xs) (hb : base' ≤ base) : W.ownsRow base' e size v k xs := by
  refine ⟨h.1, ?_⟩
  rcases h.2 with hn | ⟨g, cap, cur, hv, hbg, rest⟩
  · exact .inl hn
  · exact .inr ⟨g, cap, cur, hv, Nat.le_trans hb hbg, rest⟩
/-- Bytes that lie in a slice without room. -/
def fullB (v : Value) (l : List UInt8) (w : World) : Prop := ∃ g, v = .slice (some ⟨g, 0, none⟩) l.length l.length ∧ ∀ j, j < l.length → w.cell? ⟨g, j, none⟩ = some (.int .u8 ((l.getD j 0).toNat : Int))
def rowB (B : Nat) (v : Value) (l : List UInt8) (w : World) : Prop := w.ownsRow B 5 1 v l.length (Lib.byteCells l) ∨ fullB v l w
theorem fullB.alloc {v : Value} {l : List UInt8} {w : World} (h : fullB v l w) (o : Obj) : fullB v l (w.alloc o) := by
  obtain ⟨g, hv, hc⟩ := h
  exact ⟨g, hv, fun j hj => Lib.cell?_alloc_marked o (hc j hj)⟩

theorem append_byte_full {W : World} {ops : Array Oper} {rest : List Oper} {o : Oper} {a : Act} {Q : Exit → Act → World → Prop} (B : Nat) (hgd : o.guard = none) (s x : Operand)
    (ho : o.op = .call { callee := .builtin .append, args := #[s, x], argTypes := #[60, 60] }) (v : Value) (cur : List UInt8) (c : UInt8) (y : Int) (hy : y = (c.toNat : Int)) (hs : a.eval s = v) (hx : a.eval x = .slice (some ⟨W.heap.size, 0, none⟩) 1 1)
    (hown : fullB v cur W) (hB : B ≤ W.heap.size) (hl : cur.length ≤ 1000000000)
    (hK : ∀ v1 w1, w1.ownsRow B 5 1 v1 (cur ++ [c]).length (Lib.byteCells (cur ++ [c])) → Below B W w1 → wpList Tryz.prog ops Q rest (a.put o.dst v1) w1) : wpList Tryz.prog ops Q (o :: rest) a (W.alloc (.cells #[.int .u8 y] 5)) := by
  obtain ⟨i0, hi, hz0, hz1, hz2⟩ := info_parts Tryz_infoByte
  subst hy
  obtain ⟨g, rfl, hc⟩ := hown.alloc (.cells #[.int .u8 (c.toNat : Int)] 5)
  refine wpList_append_grows (W.alloc (.cells #[.int .u8 (c.toNat : Int)] 5)) hgd s x 60 ho 5 i0 (.int .u8 0) 1 1 Tryz.underlying60 hi hz0 hz1 hz2 rfl (by decide) (some ⟨g, 0, none⟩) cur.length cur.length (Lib.byteCells cur) hs (fun h => by cases h) (by simp [Lib.byteCells]) ?_ ⟨W.heap.size, 0, none⟩ 1 1 [.int .u8 (c.toNat : Int)] hx rfl ?_ ?_ (by omega) (by unfold maxLen; omega) (by omega) ?_
  · intro b hb j u hj
    cases hb
    have ha : (⟨g, 0, none⟩ : Addr).add j = ⟨g, j, none⟩ := by unfold Addr.add; split <;> simp_all
    have hjl : j < cur.length := by
      rcases Nat.lt_or_ge j cur.length with h | h
      · exact h
      · simp [Lib.byteCells, List.getElem?_eq_none h] at hj
    rw [ha, hc j hjl]
    simp [Lib.byteCells, List.getElem?_eq_getElem hjl] at hj
    subst hj
    simp [List.getD_eq_getElem?_getD, List.getElem?_eq_getElem hjl]
  · intro j u hj
    match j, hj with
    | 0, hj =>
      simp at hj; subst hj
      have hh : (W.alloc (.cells #[.int .u8 (c.toNat : Int)] 5)).heap[W.heap.size]? = some (.cells #[.int .u8 (c.toNat : Int)] 5) := World.alloc_heap_new W _
      have ha : (⟨W.heap.size, 0, none⟩ : Addr).add 0 = ⟨W.heap.size, 0, none⟩ := rfl
      rw [ha]
      unfold World.cell?
      rw [hh]
      rfl
  · intro u hu; simp at hu; subst hu; rfl
  · intro v1 w1 h1 hg
    refine hK v1 w1 ?_ (((Below.refl B W).alloc hB _).grown hg (by simp; omega) (fun k hk => by cases hk))
    have := own_base h1 (base' := B) (by simp; omega)
    simpa [Lib.byteCells] using this

/-- 'append(v, c)', v a row of bytes of the call's own. -/
theorem append_byte {W : World} {ops : Array Oper} {rest : List Oper} {o : Oper} {a : Act} {Q : Exit → Act → World → Prop} (B : Nat) (hgd : o.guard = none) (s x : Operand)
    (ho : o.op = .call { callee := .builtin .append, args := #[s, x], argTypes := #[60, 60] }) (v : Value) (cur : List UInt8) (c : UInt8) (y : Int) (hy : y = (c.toNat : Int)) (hs : a.eval s = v) (hx : a.eval x = .slice (some ⟨W.heap.size, 0, none⟩) 1 1)
    (hown : W.ownsRow B 5 1 v cur.length (Lib.byteCells cur)) (hB : B ≤ W.heap.size) (hl : cur.length ≤ 1000000000)
    (hK : ∀ v1 w1, w1.ownsRow B 5 1 v1 (cur ++ [c]).length (Lib.byteCells (cur ++ [c])) → Below B W w1 → wpList Tryz.prog ops Q rest (a.put o.dst v1) w1) : wpList Tryz.prog ops Q (o :: rest) a (W.alloc (.cells #[.int .u8 y] 5)) := by
  obtain ⟨i0, hi, hz0, hz1, hz2⟩ := info_parts Tryz_infoByte
  subst hy
  refine wpList_append_own (W.alloc (.cells #[.int .u8 (c.toNat : Int)] 5)) hgd s x 60 ho B 5 i0 (.int .u8 0) 1 1 Tryz.underlying60 hi hz0 hz1 hz2 rfl (by decide) v cur.length (Lib.byteCells cur) hs (hown.alloc _) ⟨W.heap.size, 0, none⟩ 1 1 [.int .u8 (c.toNat : Int)] hx rfl ?_ ?_ ?_ ?_ ?_ ?_
  · intro j u hj
    match j, hj with
    | 0, hj =>
      simp at hj; subst hj
      have hh : (W.alloc (.cells #[.int .u8 (c.toNat : Int)] 5)).heap[W.heap.size]? = some (.cells #[.int .u8 (c.toNat : Int)] 5) := by
        show (W.heap.push _)[W.heap.size]? = _
        simp
      have ha : (⟨W.heap.size, 0, none⟩ : Addr).add 0 = ⟨W.heap.size, 0, none⟩ := rfl
      rw [ha]
      unfold World.cell?
      rw [hh]
      rfl
  · intro u hu; simp at hu; subst hu; rfl
  · unfold maxLen; omega
  · omega
  · simp; omega
  · intro v1 w1 h1 hg _
    refine hK v1 w1 ?_ (((Below.refl B W).alloc hB _).trans (below_of_grown (hown.alloc _) hg (by simp; omega)))
    simpa [Lib.byteCells] using h1

set_option maxRecDepth 100000 in
set_option maxHeartbeats 1000000 in
theorem big_calls {B : Nat} {v : Value} {l : List UInt8} {w : World} (n k : Nat) (hn : n < 9223372036854775808) (hk0 : 0 < k) (hk : k ≤ 8) (hl : l.length ≤ 1000000) (hB : B ≤ w.heap.size) (hown : rowB B v l w) :
    Calls Tryz.prog 90 #[v, .int .i64 (n : Int), .int .i64 (k : Int)] w fun e w' => ∃ v', e = .returned v' ∧ w'.ownsRow B 5 1 v' (l ++ beL n k).length (Lib.byteCells (l ++ beL n k)) ∧ Below B w w' := by
  obtain ⟨i0, hi, hz0, hz1, hz2⟩ := info_parts Tryz_infoByte
  have hn' : (n : Int) ≤ 9223372036854775807 := by omega
  clear hn
  go_enter Tryz.func90, Tryz.ntmps90
  go_wp2_with fail
  go_loopw [0, 7] (fun b i wr => ∃ (j : Nat) (cur : List UInt8), j ≤ k ∧ i = .int .i64 ((j : Int) - 1) ∧ l ++ beL n k = cur ++ beL n j ∧ rowB B b cur wr ∧ (j < k → wr.ownsRow B 5 1 b cur.length (Lib.byteCells cur)) ∧ cur.length + j = l.length + k ∧ Below B w wr) (fun _ i _ => (intOf i + 1).toNat)
  case atStart => exact ⟨k, l, Nat.le_refl _, rfl, rfl, hown, fun h => absurd h (Nat.lt_irrefl _), rfl, Below.refl _ _⟩
  case round =>
    obtain ⟨j, cur, hj, rfl, heq, hrow, hrow2, hlen, hb⟩ := hrel
    have Hrow2 := Lib.hid hrow2
    clear hrow2
    have Heq := Lib.hid heq
    have Hlen := Lib.hid hlen
    clear heq hlen
    cases j with
    | zero =>
      have hfin : wr.ownsRow B 5 1 u0 (l ++ beL n k).length (Lib.byteCells (l ++ beL n k)) := by
        have := Hrow2.out hk0
        rw [Heq.out]; simpa [beL] using this
      go_wp2_with fail
      go_ret
      exact ⟨_, rfl, hfin, hb⟩
    | succ j =>
      have hy : (n : Int) / 2 ^ (8 * j) % 256 = ((UInt8.ofNat (n / 256 ^ j % 256)).toNat : Int) := by
        have h1 : (UInt8.ofNat (n / 256 ^ j % 256)).toNat = n / 256 ^ j % 256 := by simp
        have h2 : (2 : Nat) ^ (8 * j) = 256 ^ j := by rw [Nat.pow_mul]
        rw [h1, ← h2]
        simp
      have Hy := Lib.hid hy
      have hlc : cur.length ≤ 2000000 := by have := Hlen.out; omega
      have hBr : B ≤ wr.heap.size := Nat.le_trans hB hb.size
      clear hy
      rcases hrow with hrow | hrow
      · go_wp2_with (at_builtin; refine append_byte B rfl (.tmp 14) (.tmp 20) rfl _ cur (UInt8.ofNat (n / 256 ^ j % 256)) _ Hy.out rfl rfl hrow hBr (by omega) ?_; intro v1 w1 hrow1 hb1)
        have hb2 := hb.trans hb1
        clear hb1
        go_roundw
        case rel => exact ⟨j, cur ++ [UInt8.ofNat (n / 256 ^ j % 256)], by omega, by go_num, by rw [Heq.out]; simp [beL], .inl hrow1, fun _ => hrow1, by have := Hlen.out; simp; omega, hb2⟩
        case measure => simp [intOf]
      · go_wp2_with (at_builtin; refine append_byte_full B rfl (.tmp 14) (.tmp 20) rfl _ cur (UInt8.ofNat (n / 256 ^ j % 256)) _ Hy.out rfl rfl hrow hBr (by omega) ?_; intro v1 w1 hrow1 hb1)
        have hb2 := hb.trans hb1
        clear hb1
        go_roundw
        case rel => exact ⟨j, cur ++ [UInt8.ofNat (n / 256 ^ j % 256)], by omega, by go_num, by rw [Heq.out]; simp [beL], .inl hrow1, fun _ => hrow1, by have := Hlen.out; simp; omega, hb2⟩
        case measure => simp [intOf]

theorem zeroCells_u8 (k : Nat) : (Builtin.zeroCells (Value.int .u8 0).cells k).toList = Lib.byteCells (List.replicate k 0) := by
  apply List.ext_getElem
  · simp [Builtin.zeroCells, Value.cells, Lib.byteCells]
  · intro i h1 h2
    simp [Builtin.zeroCells, Value.cells, Lib.byteCells, Nat.mod_one]

/-- 'append(v, make([]byte, k)...)', v a row of bytes of the call's own. -/
theorem run_append_zeros_own (B : Nat) (v : Value) (l : List UInt8) (k : Nat) (w : World) (ty : TypeId) (hown : w.ownsRow B 5 1 v l.length (Lib.byteCells l)) (hB : B ≤ w.heap.size) (hk : 0 < k) (hl : l.length + k ≤ 1000000) (hl0 : l ≠ []) :
    ∃ v' w', (Builtin.append_ #[60, 3] ty #[v, .int .i64 (k : Int)]).run Tryz.prog w = .ok v' w' ∧ w'.ownsRow B 5 1 v' (l ++ List.replicate k 0).length (Lib.byteCells (l ++ List.replicate k 0)) ∧ Below B w w' := by
  obtain ⟨i0, hi, hz0, hz1, hz2⟩ := info_parts Tryz_infoByte
  rcases hown.2 with ⟨rfl, h0⟩ | ⟨g, cap, cur, rfl, hg, hh, h1, h2, h3, h4⟩
  · exact absurd (List.eq_nil_of_length_eq_zero h0) hl0
  have hlen : (l ++ List.replicate k 0).length = l.length + k := by simp
  have hw : IntKind.i64.wrap (k : Int) = k := by rw [IntKind.wrap_i64]; omega
  by_cases hroom : l.length + k ≤ cap
  · have hst := run_storeCells_at Tryz.prog g l.length 5 (Builtin.zeroCells (Value.int .u8 0).cells k).toList 0 cur w hh (by rw [zeroCells_u8]; simp [Lib.byteCells]; omega) (by rw [zeroCells_u8]; intro u hu; simp [Lib.byteCells] at hu; obtain ⟨_, rfl⟩ := hu; rfl)
    simp only [Nat.add_zero] at hst
    have hne : k ≠ 0 := by omega
    have hneg : ¬ ((k : Int) < 0) := by omega
    have h48 : ¬ (281474976710656 < (k : Int) * 1) := by omega
    have hadd : (⟨g, 0, none⟩ : Addr).add l.length = ⟨g, l.length, none⟩ := by unfold Addr.add; split <;> simp_all
    rw [zeroCells_u8] at hst
    have hzl : (Lib.byteCells (List.replicate k 0)).length = k := by simp [Lib.byteCells]
    rw [hzl] at hst
    have hz8 : (Builtin.zeroCells (Value.int .u8 0).cells k) = (Lib.byteCells (List.replicate k 0)).toArray := by rw [← zeroCells_u8, Array.toArray_toList]
    obtain ⟨W, hW⟩ : ∃ W, W = w.setRow g (cur.toList.take l.length ++ Lib.byteCells (List.replicate k 0) ++ cur.toList.drop (l.length + k)).toArray := ⟨_, rfl⟩
    refine ⟨.slice (some ⟨g, 0, none⟩) (l.length + k) cap, W, ?_, ?_, ?_⟩
    · rw [← hW] at hst
      simp [Builtin.append_, run_underlying Tryz.underlying60, run_underlying Tryz.underlying3, sizeOf, typeInfo, zeroValue, hi, hz0, hz1, hz2, asInt, asIntOf, hw, hroom, hneg, hne, h48, hz8, hadd, hst]
      intro h; omega
    · rw [hlen]
      refine ⟨by simp [Lib.byteCells], .inr ⟨g, cap, _, rfl, hg, by rw [hW]; exact setRow_heap w g cur _ _ _ hh, hroom, h2, ?_, ?_⟩⟩
      · simp [Lib.byteCells]; omega
      · rw [Nat.mul_one] at h4
        have e1 : (cur.toList.take l.length ++ Lib.byteCells (List.replicate k 0)).length = l.length + k := by simp [Lib.byteCells]; omega
        simp only [List.toList_toArray, Nat.mul_one]
        rw [List.take_append_of_le_length (Nat.le_of_eq e1.symm), List.take_of_length_le (Nat.le_of_eq e1), h4, ← Lib.byteCells_append]
    · rw [hW]
      exact ⟨rfl, rfl, rfl, by simp, fun j hj => setRow_other w g j _ (by omega)⟩
  · have hold : (Builtin.firstCells i0.size l.length (.slice (some ⟨g, 0, none⟩) l.length cap)).run Tryz.prog w.drew = .ok (Lib.byteCells l).toArray w.drew := by
      rw [hz1]
      have hd : w.drew.heap[g]? = some (.cells cur 5 (0, 0)) := hh
      refine run_firstCells_some (P := Tryz.prog) w.drew 1 l.length ⟨g, 0, none⟩ l.length cap (Lib.byteCells l) (by simp [Lib.byteCells]) (fun j v hj => ?_)
      have ha : (⟨g, 0, none⟩ : Addr).add j = ⟨g, j, none⟩ := by unfold Addr.add; split <;> simp_all
      rw [ha]
      simp only [World.cell?, hd]
      rw [← h4, Nat.mul_one, List.getElem?_take] at hj
      split at hj
      · simpa using hj
      · cases hj
    have hnx : Builtin.nextslicecap (l.length + k) cap * i0.bytes ≤ 281474976710656 := growslice_fits (by omega) (by rw [hz2]; omega)
    have hrun := Lib.run_append_grow_zeros (P := Tryz.prog) w 60 3 ty 5 i0 (.int .u8 0) .i64 .i64 Tryz.underlying60 Tryz.underlying3 hi hz0 (some ⟨g, 0, none⟩) l.length cap (Lib.byteCells l) hold k hk (by omega) (by omega) (by omega) (by rw [hz2]; omega) hnx
    refine ⟨_, _, hrun, ?_, ?_⟩
    · rw [hlen]
      have hge := grownCap_ge w (l.length + k) cap 5
      have hle := grownCap_le_maxLen w (l.length + k) cap 5 (by unfold maxLen; omega)
      refine ⟨by simp [Lib.byteCells], .inr ⟨w.heap.size, _, _, rfl, hB, World.alloc_heap_new w.drew _, hge, hle, ?_, ?_⟩⟩
      · simp only [Array.size_append, List.size_toArray]
        have e0 : ∀ m, (Builtin.zeroCells (Value.int .u8 0).cells m).size = m := fun m => by simp [Builtin.zeroCells, Value.cells]
        rw [e0, e0, Lib.byteCells_length]
        omega
      · have e1 : (Lib.byteCells l).toArray.toList ++ (Builtin.zeroCells (Value.int .u8 0).cells k).toList = Lib.byteCells (l ++ List.replicate k 0) := by rw [zeroCells_u8, Lib.byteCells_append]
        have e2 : (Lib.byteCells (l ++ List.replicate k 0)).length = l.length + k := by simp [Lib.byteCells]
        simp only [Array.toList_append, Nat.mul_one]
        rw [e1, List.take_append_of_le_length (Nat.le_of_eq e2.symm), List.take_of_length_le (Nat.le_of_eq e2)]
    · exact ((Below.refl B w).drew).alloc (by simpa using hB) _

/-- 'string(b)', b a row of bytes of the call's own. -/
theorem run_own_string {B g n cap : Nat} {l : List UInt8} {w : World} (h : w.ownsRow B 5 1 (.slice (some ⟨g, 0, none⟩) n cap) n (Lib.byteCells l)) (hn : n = l.length) :
    (convert 60 9 (.slice (some ⟨g, 0, none⟩) n cap)).run Tryz.prog w = .ok (strV l) w := by
  subst hn
  have := run_convert_bytes_arg w 60 5 Tryz.underlying60 Tryz.underlying5 g 0 l.length cap (l.map fun b : UInt8 => (b.toNat : Int)) (by simp) (fun i hi => by
    have hc := h.cells (g := g) rfl i (.int .u8 ((l.getD i 0).toNat : Int)) (by simp [Lib.byteCells, List.getElem?_eq_getElem hi, List.getD_eq_getElem?_getD])
    have ha : (⟨g, 0, none⟩ : Addr).add i = ⟨g, i, none⟩ := by unfold Addr.add; split <;> simp_all
    rw [ha] at hc
    rw [Nat.zero_add, hc]
    simp [List.getD_eq_getElem?_getD, List.getElem?_eq_getElem hi]) 9 Tryz.underlying9
  rw [this]
  have e1 : (l.map fun b : UInt8 => (b.toNat : Int)).map (fun n : Int => UInt8.ofNat n.toNat) = l := by
    rw [List.map_map]
    conv => rhs; rw [← List.map_id l]
    apply List.map_congr_left
    intro b _
    simp
  have e2 : strOfNums (l.map fun b : UInt8 => (b.toNat : Int)) = ⟨l.toArray⟩ := by
    unfold strOfNums; rw [e1]
  rw [e2]; rfl

def headL (gen root1 frm : Nat) : List UInt8 :=
  [82, 90, 72, 49] ++ beL gen 8 ++ beL root1 4 ++ beL frm 8 ++ List.replicate 40 0

set_option maxRecDepth 100000 in
set_option maxHeartbeats 1000000 in
theorem head_calls {w : World} (gen root1 frm : Nat) (hg : gen < 9223372036854775808) (hr : root1 < 9223372036854775807) (hf : frm < 9223372036854775808) :
    Calls Tryz.prog 52 #[.int .i64 (gen : Int), .int .i64 ((root1 : Int) - 1), .int .i64 (frm : Int)] w fun e w' => e = .returned (strV (headL gen root1 frm)) ∧ Below w.heap.size w w' := by
  have kc := fun (w : World) (C : Array Value) (n c : Nat) => Lib.run_convert_bytes_const (P := Tryz.prog) w 60 5 C n c Tryz.underlying60 Tryz.underlying5
  go_enter Tryz.func52, Tryz.ntmps52
  go_wp2_with fail
  have hf0 : fullB (.slice (some ⟨w.heap.size, 0, none⟩) 4 4) [82, 90, 72, 49] (w.alloc (.cells #[.int .u8 82, .int .u8 90, .int .u8 72, .int .u8 49] 5 (4, 5))) := by
    refine ⟨w.heap.size, rfl, fun j hj => ?_⟩
    have hh := World.alloc_heap_new w (.cells #[.int .u8 82, .int .u8 90, .int .u8 72, .int .u8 49] 5 (4, 5))
    simp only [World.cell?, hh]
    have : j = 0 ∨ j = 1 ∨ j = 2 ∨ j = 3 := by simp at hj; omega
    rcases this with rfl | rfl | rfl | rfl <;> rfl
  refine (big_calls (B := w.heap.size) (l := [82, 90, 72, 49]) gen 8 hg (by omega) (by omega) (by simp) (by simp) (.inr hf0)).mono ?_
  rintro e w1 ⟨v1, rfl, h1, hb1⟩
  have hb1' : Below w.heap.size w w1 := ((Below.refl _ w).alloc (Nat.le_refl _) _).trans hb1
  clear hf0 hb1
  go_wp2_with fail
  refine (big_calls (B := w.heap.size) root1 4 (by omega) (by omega) (by omega) (by simp [beL_length]) hb1'.size (.inl h1)).mono ?_
  rintro e w2 ⟨v2, rfl, h2, hb2⟩
  have hb2' := hb1'.trans hb2
  clear hb2 h1 hb1'
  go_wp2_with fail
  refine (big_calls (B := w.heap.size) frm 8 hf (by omega) (by omega) (by simp [beL_length]) hb2'.size (.inl h2)).mono ?_
  rintro e w3 ⟨v3, rfl, h3, hb3⟩
  have hb3' := hb2'.trans hb3
  clear hb3 h2 hb2'
  obtain ⟨l, hl⟩ : ∃ l, l = [82, 90, 72, 49] ++ beL gen 8 ++ beL root1 4 ++ beL frm 8 := ⟨_, rfl⟩
  have hll : l.length = 24 := by rw [hl]; simp [beL_length]
  have hne : l ≠ [] := by intro h; rw [h] at hll; simp at hll
  rw [← hl] at h3
  have hfin : headL gen root1 frm = l ++ List.replicate 40 0 := by rw [hl]; rfl
  have HF := Lib.hid hfin
  clear hl hfin
  obtain ⟨g, cap, rfl⟩ : ∃ g cap, v3 = .slice (some ⟨g, 0, none⟩) 24 cap := by
    rcases h3.2 with ⟨_, h0⟩ | ⟨g, cap, cur, rfl, _⟩
    · omega
    · exact ⟨g, cap, by rw [hll]⟩
  obtain ⟨v4, w4, hrun, h4, hb4⟩ := run_append_zeros_own w.heap.size (.slice (some ⟨g, 0, none⟩) 24 cap) l 40 w3 60 h3 hb3'.size (by omega) (by omega) hne
  have hb4' := hb3'.trans hb4
  have hlen : (l ++ List.replicate 40 0).length = 64 := by simp [hll]
  rw [hlen] at h4
  obtain ⟨g4, cap4, rfl⟩ : ∃ g4 cap4, v4 = .slice (some ⟨g4, 0, none⟩) 64 cap4 := by
    rcases h4.2 with ⟨_, h0⟩ | ⟨g, cap, cur, rfl, _⟩
    · omega
    · exact ⟨g, cap, rfl⟩
  have hstr := run_own_string h4 hlen.symm
  unfold strV at hstr
  obtain ⟨S, hS⟩ : ∃ S : ByteArray, S = ⟨(l ++ List.replicate 40 0).toArray⟩ := ⟨_, rfl⟩
  have HFIN : Hid (strV (headL gen root1 frm) = .string S) := Lib.hid (by rw [HF.out, hS]; rfl)
  rw [← hS] at hstr
  clear hll hlen h4 h3 hb3' hS hne
  go_wp2_with (at_builtin; refine Lib.wpList_append_run _ rfl _ _ _ _ rfl _ _ rfl rfl _ _ hrun ?_)
  go_ret
  exact ⟨by rw [HFIN.out]; rfl, hb4'⟩
end Go.Proofs.YtmeepegllkhlcaaGreat
