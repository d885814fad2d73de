/-
  The document's pager: whether one may be; heads.
-/
import Derived.Test.YtmeepegllkhlcaaGreatR19
namespace Go.Proofs.YtmeepegllkhlcaaGreat
open Go Go.RowKit Go.Maps

theorem Rform_calls {rb : Nat} {D : Dk} {F : HProp} {w : World} (hD : D.Ok) (H : Holds (rdA rb D * F) w) (first pages frm : Int)
    (h1 : -9223372036854775808 ≤ first ∧ first ≤ 9223372036854775807) (h2 : -9223372036854775808 ≤ pages ∧ pages ≤ 9223372036854775807) (h3 : -9223372036854775808 ≤ frm ∧ frm ≤ 9223372036854775807) :
    Calls Tryz.prog 46 #[.pointer (some ⟨rb, 0, none⟩), .int .i64 first, .int .i64 pages, .int .i64 frm] w fun e w' => e = .returned (.int .i64 (Pg.check D first pages frm)) ∧ w = w' := by
  have hn : D.n ≤ 4096 := hD.most
  obtain ⟨kv, H⟩ := rdA_B.1 H
  obtain ⟨sv, wv, H⟩ := rdB_open.1 H
  obtain ⟨sg, sc, wg, wc, rfl, hsc, rfl, hwc, _, _⟩ := rd_rows hD H
  have c0 := H.cell 0 (v := .slice (some ⟨sg, 0, none⟩) D.n sc) rfl
  have c4 := H.cell 4 (v := .bool D.dead) rfl
  clear H
  by_cases g1 : first < 2
  · have hres : Pg.check D first pages frm = 190 := by unfold Pg.check; rw [if_pos (by omega)]
    rw [hres]; clear hres
    go_enter Tryz.func46, Tryz.ntmps46
    go_wp2_with fail
    go_ret
    exact ⟨rfl, rfl⟩
  have b1 : decide (first < 2) = false := by simpa using g1
  by_cases g2 : pages < 1
  · have hres : Pg.check D first pages frm = 190 := by unfold Pg.check; rw [if_pos (by omega)]
    rw [hres]; clear hres
    go_enter Tryz.func46, Tryz.ntmps46
    go_wp2_with fail
    go_ret
    exact ⟨rfl, rfl⟩
  have b2 : decide (pages < 1) = false := by simpa using g2
  by_cases g3 : 4096 < pages
  · have hres : Pg.check D first pages frm = 190 := by unfold Pg.check; rw [if_pos (by omega)]
    rw [hres]; clear hres
    go_enter Tryz.func46, Tryz.ntmps46
    go_wp2_with fail
    go_ret
    exact ⟨rfl, rfl⟩
  have b3 : decide (4096 < pages) = false := by simpa using g3
  by_cases g4 : (D.n : Int) < first
  · have hres : Pg.check D first pages frm = 190 := by unfold Pg.check; rw [if_pos (by omega)]
    rw [hres]; clear hres
    go_enter Tryz.func46, Tryz.ntmps46
    go_wp2_with fail
    go_ret
    exact ⟨rfl, rfl⟩
  have b4 : decide ((D.n : Int) < first) = false := by simpa using g4
  by_cases g5 : (D.n : Int) - first < 8 * pages
  · have hres : Pg.check D first pages frm = 190 := by unfold Pg.check; rw [if_pos (by omega)]
    rw [hres]; clear hres
    go_enter Tryz.func46, Tryz.ntmps46
    go_wp2_with fail
    go_ret
    exact ⟨rfl, rfl⟩
  have b5 : decide ((D.n : Int) - first < 8 * pages) = false := by simpa using g5
  by_cases g6 : frm < 1
  · have hres : Pg.check D first pages frm = 190 := by unfold Pg.check; rw [if_pos (by omega)]
    rw [hres]; clear hres
    go_enter Tryz.func46, Tryz.ntmps46
    go_wp2_with fail
    go_ret
    exact ⟨rfl, rfl⟩
  have b6 : decide (frm < 1) = false := by simpa using g6
  by_cases g7 : 1152921504606846976 < frm
  · have hres : Pg.check D first pages frm = 190 := by unfold Pg.check; rw [if_pos (by omega)]
    rw [hres]; clear hres
    go_enter Tryz.func46, Tryz.ntmps46
    go_wp2_with fail
    go_ret
    exact ⟨rfl, rfl⟩
  have b7 : decide (1152921504606846976 < frm) = false := by simpa using g7
  cases hdead : D.dead with
  | true =>
    have hres : Pg.check D first pages frm = 2 := by unfold Pg.check; rw [if_neg (by omega), hdead]; rfl
    rw [hres]
    rw [hdead] at c4
    clear hres hdead
    go_enter Tryz.func46, Tryz.ntmps46
    go_wp2_with fail
    go_ret
    exact ⟨rfl, rfl⟩
  | false =>
    have hres : Pg.check D first pages frm = 0 := by unfold Pg.check; rw [if_neg (by omega), hdead]; rfl
    rw [hres]
    rw [hdead] at c4
    clear hres hdead
    go_enter Tryz.func46, Tryz.ntmps46
    go_wp2_with fail
    go_ret
    exact ⟨rfl, rfl⟩

/-! ### Head -/
set_option maxRecDepth 100000 in
set_option maxHeartbeats 1000000 in
theorem RHead_calls (gen root1 frm : Nat) (hg : gen < 9223372036854775808) (hr : root1 ≤ 1000000) (hf : frm < 9223372036854775808) (w : World) :
    Calls Tryz.prog 49 #[.int .i64 (gen : Int), .int .i64 ((root1 : Int) - 1), .int .i64 (frm : Int)] w fun e w' => e = .returned (strV (headL gen root1 frm)) ∧ Below w.heap.size w w' := by
  obtain ⟨i0, hi, hz0, hz1, hz2⟩ := info_parts Tryz_infoByte
  obtain ⟨S1, hS1, z1⟩ : ∃ S : ByteArray, strV (beL gen 8) = .string S ∧ S.size = 8 := ⟨_, rfl, by simp [ByteArray.size, beL_length]⟩
  obtain ⟨S3, hS3, z3⟩ : ∃ S : ByteArray, strV (beL root1 4) = .string S ∧ S.size = 4 := ⟨_, rfl, by simp [ByteArray.size, beL_length]⟩
  obtain ⟨S5, hS5, z5⟩ : ∃ S : ByteArray, strV (beL frm 8) = .string S ∧ S.size = 8 := ⟨_, rfl, by simp [ByteArray.size, beL_length]⟩
  obtain ⟨S7, hS7, z7⟩ : ∃ S : ByteArray, strV (Pg.zeros 40) = .string S ∧ S.size = 40 := ⟨_, rfl, by simp [ByteArray.size, Pg.zeros]⟩
  have hfin : strV (headL gen root1 frm) = .string ((((⟨#[82, 90, 72, 49]⟩ ++ S1) ++ S3) ++ S5) ++ S7) := by
    injection hS1 with h1
    injection hS3 with h3
    injection hS5 with h5
    injection hS7 with h7
    rw [← h1, ← h3, ← h5, ← h7]
    unfold strV
    congr 1
  have HF := Lib.hid hfin
  have b1 := fun w => RBig_calls (w := w) gen 8 hg (by decide) (by decide)
  have b2 := fun w => RBig_calls (w := w) root1 4 (by omega) (by decide) (by decide)
  have b3 := fun w => RBig_calls (w := w) frm 8 hf (by decide) (by decide)
  rw [hS1] at b1
  rw [hS3] at b2
  rw [hS5] at b3
  have B1 := Lib.hid b1
  have B2 := Lib.hid b2
  have B3 := Lib.hid b3
  have hS7' := Lib.hid hS7
  have hr1 : ((root1 : Int) - 1 + 1) = (root1 : Int) := by omega
  have hr2 : IntKind.i64.wrap ((root1 : Int) - 1 + 1) = (root1 : Int) := by rw [hr1]; exact IntWalk.i64_in _ (by omega)
  clear hS1 hS3 hS5 hS7 b1 b2 b3 hg hf hfin
  go_enter Tryz.func49, Tryz.ntmps49
  go_wp2_with fail
  refine (B1.out _).mono ?_
  rintro e w1 ⟨rfl, hb1⟩
  go_wp2_with fail
  refine (B2.out _).mono ?_
  rintro e w2 ⟨rfl, hb2⟩
  go_wp2_with fail
  refine (B3.out _).mono ?_
  rintro e w3 ⟨rfl, hb3⟩
  have hb : Below w.heap.size w w3 := (hb1.trans (hb2.mono hb1.size)).trans (hb3.mono (Nat.le_trans hb1.size hb2.size))
  clear hb1 hb2 hb3
  go_wp2_with (at_make; refine wpList_make_full _ rfl _ _ _ rfl 0 5 i0 (.int .u8 0) 1 Tryz.underlying60 hi hz0 hz1 .i64 .i64 40 40 40 rfl rfl rfl rfl (by rw [hz2]; omega) (by unfold maxLen; omega) (Nat.zero_le _) ?_; intro w4 hown4 hg4; rw [madeZeros] at hown4; have hstr := run_own_string hown4 (by simp [Pg.zeros]); rw [hS7'.out] at hstr)
  go_ret
  exact ⟨by rw [HF.out]; rfl, hb.grown hg4 hb.size (fun r hr => by cases hr)⟩

/-! ### number -/
def numP (s : Bs) : Int := if 4503599627370496 < Pg.beN (s.take (s.length - 1)) then -1 else (Pg.beN s : Int)
theorem beN_small (s : Bs) (k : Nat) (hk : k ≤ 6) : Pg.beN (s.take k) ≤ 4503599627370496 := by
  have := beN_lt k s
  have h2 : (256 : Nat) ^ k ≤ 256 ^ 6 := Nat.pow_le_pow_right (by decide) hk
  have h3 : (256 : Nat) ^ 6 = 281474976710656 := by decide
  omega
set_option maxRecDepth 100000 in
theorem number_calls (s : Bs) (hs : s.length ≤ 8) (w : World) : Calls Tryz.prog 48 #[strV s] w fun e w' => e = .returned (.int .i64 (numP s)) ∧ w = w' := by
  have hsz : (⟨s.toArray⟩ : ByteArray).size = s.length := by simp [ByteArray.size]
  have hidx : ∀ k (h : k < (⟨s.toArray⟩ : ByteArray).size), (⟨s.toArray⟩ : ByteArray)[k] = s.getD k 0 := by
    intro k h
    have hk : k < s.length := by rw [hsz] at h; exact h
    rw [List.getD_eq_getElem?_getD, List.getElem?_eq_getElem hk]
    rfl
  obtain ⟨sb, hsb⟩ : ∃ sb : ByteArray, sb = ⟨s.toArray⟩ := ⟨_, rfl⟩
  have e0 : strV s = .string sb := by rw [hsb]; rfl
  rw [← hsb] at hsz hidx
  rw [e0]
  have HI := Lib.hid hidx
  clear e0 hsb hidx
  go_enter Tryz.func48, Tryz.ntmps48
  go_wp2_with fail
  go_loopw [3, 4] (fun n i wr => ∃ (k : Nat), k ≤ s.length ∧ i = .int .i64 k ∧ n = .int .i64 (Pg.beN (s.take k) : Int) ∧ (k = s.length → 1 ≤ s.length → Pg.beN (s.take (s.length - 1)) ≤ 4503599627370496) ∧ wr = w) (fun _ i _ => s.length - (intOf i).toNat)
  case atStart => exact ⟨0, Nat.zero_le _, rfl, rfl, fun h h1 => by omega, rfl⟩
  case round =>
    obtain ⟨k, hk, rfl, rfl, hlast, rfl⟩ := hrel
    have HL := Lib.hid hlast
    clear hlast
    by_cases hlt : k < s.length
    · have hsucc := beN_take_succ s k hlt
      have hq : ∀ h, (sb[k]'h) = s.getD k 0 := fun h => HI.out k h
      have HS := Lib.hid hsucc
      have HQ := Lib.hid hq
      by_cases hbig : 4503599627370496 < Pg.beN (s.take k)
      · have h7 : k = 7 ∧ s.length = 8 := by
          have := beN_small s k
          omega
        have hfin : numP s = -1 := by
          unfold numP
          rw [if_pos (by rw [h7.2, show 8 - 1 = k from by omega]; exact hbig)]
        have HF := Lib.hid hfin
        have hb : (4503599627370496 : Int) < (Pg.beN (s.take k) : Int) := by omega
        clear hsucc hq h7 hfin hbig
        go_wp2_with fail
        go_ret
        exact ⟨by rw [HF.out]; rfl, rfl⟩
      · have hb : (Pg.beN (s.take k) : Int) ≤ 4503599627370496 := by omega
        have hbyte : ((s.getD k 0).toNat : Int) < 256 := by have := (s.getD k 0).toNat_lt; omega
        have HN : Hid (k + 1 = s.length → 1 ≤ s.length → Pg.beN (s.take (s.length - 1)) ≤ 4503599627370496) := Lib.hid (fun h _ => by
          rw [show s.length - 1 = k from by omega]; omega)
        have hqk : sb[k]'(by rw [hsz]; exact hlt) = s.getD k 0 := hq _
        have hbyte2 : ((sb[k]'(by rw [hsz]; exact hlt)).toNat : Int) < 256 := by rw [hqk]; exact hbyte
        clear hsucc hq hbig hbyte hqk
        go_wp2_with fail
        go_roundw
        case rel =>
          refine ⟨k + 1, by omega, by go_num, ?_, HN.out, trivial⟩
          rw [HQ.out, HS.out]
          congr 1
          omega
        case measure => simp [intOf]; omega
    · obtain rfl : k = s.length := by omega
      have hfin : numP s = (Pg.beN s : Int) := by
        unfold numP
        by_cases h1 : 1 ≤ s.length
        · rw [if_neg (by have := HL.out rfl h1; omega)]
        · have : s = [] := List.eq_nil_of_length_eq_zero (by omega)
          subst this
          rfl
      have HF := Lib.hid hfin
      clear hfin
      go_wp2_with fail
      go_ret
      exact ⟨by rw [HF.out]; rfl, rfl⟩
/-- Where a number is out of bounds, both say so; else it is the same. -/
theorem numP_test {s : Bs} (hs : s.length = 8) : (numP s < 1 ∨ 1152921504606846976 < numP s) ↔ (Pg.beN s < 1 ∨ 1152921504606846976 < Pg.beN s) := by
  have h1 := beN_take_succ s 7 (by omega)
  rw [List.take_of_length_le (by omega : s.length ≤ 7 + 1)] at h1
  unfold numP
  rw [hs]
  split
  · rename_i h
    have : 4503599627370496 < Pg.beN (s.take 7) := h
    constructor
    · intro _; right; omega
    · intro _; left; omega
  · omega
theorem numP_eq {s : Bs} (hs : s.length = 8) (h : ¬ (Pg.beN s < 1 ∨ 1152921504606846976 < Pg.beN s)) : numP s = (Pg.beN s : Int) := by
  have h1 := beN_take_succ s 7 (by omega)
  rw [List.take_of_length_le (by omega : s.length ≤ 7 + 1)] at h1
  unfold numP
  rw [hs, if_neg]
  show ¬ 4503599627370496 < Pg.beN (s.take 7)
  omega
theorem numP_small {s : Bs} (hs : s.length ≤ 7) : numP s = (Pg.beN s : Int) := by
  unfold numP
  rw [if_neg]
  have := beN_small s (s.length - 1) (by omega)
  omega
end Go.Proofs.YtmeepegllkhlcaaGreat
