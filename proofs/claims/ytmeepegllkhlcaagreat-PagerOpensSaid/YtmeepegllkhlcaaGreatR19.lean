/-
  The document's pager: numbers as bytes, heads, whether a pager may be.
-/
import Derived.Test.YtmeepegllkhlcaaGreatR17f
import Derived.Test.YtmeepegllkhlcaaGreatPager6
namespace Go.Proofs.YtmeepegllkhlcaaGreat
open Go Go.RowKit Go.Maps

theorem beL_div (n : Nat) : ∀ k, beL n (k + 1) = beL (n / 256) k ++ [UInt8.ofNat (n % 256)]
  | 0 => by simp [beL]
  | k + 1 => by
    have ih := beL_div n k
    show UInt8.ofNat (n / 256 ^ (k + 1) % 256) :: beL n (k + 1) = (UInt8.ofNat (n / 256 / 256 ^ k % 256) :: beL (n / 256) k) ++ [UInt8.ofNat (n % 256)]
    rw [ih, Nat.div_div_eq_div_mul, Nat.pow_succ, Nat.mul_comm (256 ^ k) 256]
    rfl
/-- 'b[j] = c', b a row of bytes of the call's own. -/
theorem ownB_set {B g n c : Nat} {l : Bs} {w : World} (h : ownB B (.slice (some ⟨g, 0, none⟩) n c) l w) (j : Nat) (x : UInt8) :
    ownB B (.slice (some ⟨g, 0, none⟩) n c) (l.set j x) (w.setCell ⟨g, j, none⟩ (.int .u8 (x.toNat : Int))) ∧ w.frozen? ⟨g, j, none⟩ = false ∧ (j < l.length → ∃ u, w.cell? ⟨g, j, none⟩ = some u) ∧ B ≤ g := by
  obtain ⟨g2, c2, hv, hg, hrow⟩ := h
  simp only [Value.slice.injEq, Option.some.injEq, Addr.mk.injEq] at hv
  obtain ⟨⟨rfl, _⟩, rfl, rfl⟩ := hv
  rcases hrow.2 with ⟨hv, _⟩ | ⟨g3, cap, cur, hv, hb, hh, h1, h2, h3, h4⟩
  · cases hv
  · simp only [Value.slice.injEq, Option.some.injEq, Addr.mk.injEq] at hv
    obtain ⟨⟨rfl, _⟩, _, rfl⟩ := hv
    refine ⟨⟨g, c, by rw [List.length_set], hg, ?_⟩, ?_, ?_, hg⟩
    · refine ⟨by simp [Lib.byteCells], .inr ⟨g, c, cur.setIfInBounds j (.int .u8 (x.toNat : Int)), by rw [List.length_set], hg, ?_, by rw [List.length_set]; exact h1, h2, by simp [h3], ?_⟩⟩
      · simp [World.setCell, Array.getElem?_modify, hh]
      · rw [List.length_set, Array.toList_setIfInBounds, List.take_set, h4]
        unfold Lib.byteCells
        rw [List.map_set]
    · simp [World.frozen?, hh]
    · intro hj
      refine ⟨cur[j]'(by rw [h3]; omega), ?_⟩
      unfold World.cell?
      rw [hh]
      simp [h3, show j < c by omega]

set_option maxHeartbeats 1000000 in
theorem RBig_calls {w : World} (n k : Nat) (hn : n < 9223372036854775808) (hk0 : 0 < k) (hk : k ≤ 8) :
    Calls Tryz.prog 85 #[.int .i64 (n : Int), .int .i64 (k : Int)] w fun e w' => e = .returned (strV (beL n k)) ∧ Below w.heap.size w w' := by
  obtain ⟨i0, hi, hz0, hz1, hz2⟩ := info_parts Tryz_infoByte
  have hn' : (n : Int) ≤ 9223372036854775807 := by omega
  clear hn
  go_enter Tryz.func85, Tryz.ntmps85
  go_wp2_with (at_make; refine wpList_make_full _ rfl _ _ _ rfl w.heap.size 5 i0 (.int .u8 0) 1 Tryz.underlying60 hi hz0 hz1 .i64 .i64 (k : Int) (k : Int) k rfl rfl rfl rfl (by rw [hz2]; omega) (by unfold maxLen; omega) (Nat.le_refl _) ?_; intro w1 hown1 hg1; rw [madeZeros] at hown1; have hb1 : Below w.heap.size w w1 := (Below.refl _ w).grown hg1 (Nat.le_refl _) (fun r hr => by cases hr); have hob : ownB w.heap.size (.slice (some ⟨w.heap.size, 0, none⟩) k k) (Pg.zeros k) w1 := ⟨w.heap.size, k, by simp [Pg.zeros], Nat.le_refl _, by simpa [Pg.zeros] using hown1⟩)
  clear hown1 hg1
  go_loopw [0, 6] (fun nv i wr => ∃ (j m : Nat), j ≤ k ∧ i = .int .i64 ((j : Int) - 1) ∧ nv = .int .i64 (m : Int) ∧ m ≤ n ∧ beL n k = beL m j ++ (beL n k).drop j ∧ ownB w.heap.size (.slice (some ⟨w.heap.size, 0, none⟩) k k) (Pg.zeros j ++ (beL n k).drop j) wr ∧ Below w.heap.size w wr) (fun _ i _ => (intOf i + 1).toNat)
  case atStart =>
    refine ⟨k, n, Nat.le_refl _, rfl, rfl, Nat.le_refl _, ?_, ?_, hb1⟩
    · rw [List.drop_of_length_le (Nat.le_of_eq (beL_length n k)), List.append_nil]
    · rw [List.drop_of_length_le (Nat.le_of_eq (beL_length n k)), List.append_nil]; exact hob
  case round =>
    clear hob hb1
    obtain ⟨j, m, hj, rfl, rfl, hm, heq, hown, hb⟩ := hrel
    have Heq := Lib.hid heq
    clear heq
    cases j with
    | zero =>
      rw [List.drop_zero] at hown
      have hstr : (convert 60 9 (.slice (some ⟨w.heap.size, 0, none⟩) k k)).run Tryz.prog wr = .ok (strV (beL n k)) wr := by
        have hz : Pg.zeros 0 ++ beL n k = beL n k := rfl
        rw [hz] at hown
        have := ownB_string (B := w.heap.size) (g := w.heap.size) (c := k) (l := beL n k) (w := wr) (by rw [beL_length]; exact hown)
        rwa [beL_length] at this
      obtain ⟨S, hS⟩ : ∃ S : ByteArray, strV (beL n k) = .string S := ⟨_, rfl⟩
      rw [hS] at hstr
      have HS := Lib.hid hS
      clear hown hS
      go_wp2_with fail
      go_ret
      exact ⟨by rw [HS.out]; rfl, hb⟩
    | succ j =>
      have hlenz : (Pg.zeros (j + 1) ++ (beL n k).drop (j + 1)).length = k := by simp [Pg.zeros, beL_length]; omega
      obtain ⟨hset, hfz, hcell, _⟩ := ownB_set hown j (UInt8.ofNat (m % 256))
      obtain ⟨u, hu⟩ := hcell (by rw [hlenz]; omega)
      have hy : ((UInt8.ofNat (m % 256)).toNat : Int) = (m : Int) % 256 := by
        have : (UInt8.ofNat (m % 256)).toNat = m % 256 := by simp
        rw [this]; omega
      rw [hy] at hset
      have hdrop : (beL n k).drop j = UInt8.ofNat (m % 256) :: (beL n k).drop (j + 1) := by
        have h1 := Heq.out
        rw [beL_div m j] at h1
        have h2 : (beL n k).drop j = (beL (m / 256) j ++ [UInt8.ofNat (m % 256)] ++ (beL n k).drop (j + 1)).drop j := by rw [← h1]
        rw [h2, List.append_assoc, List.drop_append_of_le_length (by rw [beL_length]; exact Nat.le_refl _), List.drop_of_length_le (Nat.le_of_eq (beL_length _ _))]
        rfl
      have hz : (Pg.zeros (j + 1) ++ (beL n k).drop (j + 1)).set j (UInt8.ofNat (m % 256)) = Pg.zeros j ++ (beL n k).drop j := by
        have e1 : Pg.zeros (j + 1) = Pg.zeros j ++ [0] := by simp [Pg.zeros, List.replicate_succ']
        have e2 : (Pg.zeros j).length = j := by simp [Pg.zeros]
        rw [e1, hdrop, List.append_assoc, List.set_append_right _ _ (by rw [e2]; exact Nat.le_refl _), e2, Nat.sub_self]
        rfl
      rw [hz] at hset
      have heq2 : beL n k = beL (m / 256) j ++ (beL n k).drop j := by
        have h1 := Heq.out
        rw [beL_div m j] at h1
        rw [hdrop]
        refine h1.trans ?_
        rw [List.append_assoc]
        rfl
      have Heq2 := Lib.hid heq2
      have hjk : (j : Int) < (k : Int) := by omega
      have hmd : m / 256 ≤ n := Nat.le_trans (Nat.div_le_self _ _) hm
      have hb2 : Below w.heap.size w (wr.setCell ⟨w.heap.size, j, none⟩ (.int .u8 ((m : Int) % 256))) := hb.setCell (p := ⟨w.heap.size, j, none⟩) (Nat.le_refl _) _
      have Hset := Lib.hid hset
      have hm9 : (m : Int) ≤ 9223372036854775807 := by omega
      clear hy hdrop hz heq2 hset hown hlenz
      go_wp2_with fail
      go_roundw
      case rel => exact ⟨j, m / 256, by omega, by go_num, by go_num, hmd, Heq2.out, Hset.out, hb2⟩
      case measure => simp [intOf]
end Go.Proofs.YtmeepegllkhlcaaGreat
