import Derived.Test.YtmeepegllkhlcaaGreatMap
import Derived.Test.YtmeepegllkhlcaaGreatDk
import Derived.Test.YtmeepegllkhlcaaGreatLib
import Derived.WalkLawsBesides
import Derived.StillTailTactics
import Derived.Lib.Hide
namespace Go.Proofs.YtmeepegllkhlcaaGreat
open Go Go.RowKit Go.Maps

theorem kInt : Keyed Tryz.prog 3 := int_keyed Tryz.underlying3
theorem zeroStr (w : World) : (zeroValue 9).run Tryz.prog w = .ok (.string ⟨#[]⟩) w := by kernel_rfl
theorem keyInt {x : Int} (h0 : -9223372036854775808 ≤ x) (h1 : x ≤ 9223372036854775807) : keyOf Tryz.prog 3 (.int .i64 x) = some (.int .i64 x) :=
  keyOf_int_mk Tryz.underlying3 (WalkArith.wf_i64 ⟨h0, h1⟩)

/-! ### what a disk lies as -/
/-- A slice of ints of its own, or none. -/
def intsA (v : Value) (xs : List Int) : HProp := fun h =>
  (ex (fun a : Option Addr => ex fun c : Nat => pur (xs = [] ∧ v = .slice a 0 c)) : HProp) h ∨
  (ex (fun g : Nat => ex fun cs : Array Value => ex fun c : Nat => pur (xs ≠ [] ∧ v = .slice (some ⟨g, 0, none⟩) xs.length c ∧ xs.length ≤ c ∧ c ≤ 9223372036854775807 ∧ ∀ j, j < xs.length → cs[j]? = some (.int .i64 (xs.getD j 0))) * pt g (.cells cs 3 (0, 0))) : HProp) h
/-- A slice of ints that can be read. -/
def RInts (w : World) (v : Value) (xs : List Int) : Prop := ∃ (a : Option Addr) (c : Nat), v = .slice a xs.length c ∧ xs.length ≤ c ∧ xs.length ≤ 9223372036854775807 ∧ (0 < xs.length → ∃ ad : Addr, a = some ad ∧ ∀ j, j < xs.length → w.cell? (ad.add j) = some (.int .i64 (xs.getD j 0)))

def wrM (D : Dk) : Lit → Option Value := liftI fun x => if 0 ≤ x then (D.w? x.toNat).map strV else none
def diskCells (D : Dk) (mb : Nat) (kv : Value) : Array Value := #[strV D.safe.flatten, .map (some mb), .int .i64 D.armed, kv, .bool D.dead]
def mapD (mb : Nat) (D : Dk) : HProp := mapA Tryz.prog 3 mb (wrM D) D.cnt
/-- A disk but for what it keeps. -/
def diskB (db : Nat) (kv : Value) (D : Dk) : HProp := ex fun mb : Nat => pt db (.cells (diskCells D mb kv) 92 (0, 0)) * mapD mb D
def diskA (db : Nat) (D : Dk) : HProp := ex fun kv : Value => diskB db kv D * intsA kv D.kept

theorem diskB_open {db : Nat} {kv : Value} {D : Dk} {F : HProp} {w : World} : Holds (diskB db kv D * F) w ↔ ∃ mb, Holds (pt db (.cells (diskCells D mb kv) 92 (0, 0)) * (mapD mb D * F)) w := by
  unfold diskB
  rw [holds_ex_sep]
  constructor
  · rintro ⟨mb, h⟩
    rw [sep_assoc] at h
    exact ⟨mb, h⟩
  · rintro ⟨mb, h⟩
    refine ⟨mb, ?_⟩
    rw [sep_assoc]
    exact h
theorem diskA_B {db : Nat} {D : Dk} {F : HProp} {w : World} : Holds (diskA db D * F) w ↔ ∃ kv, Holds (diskB db kv D * (intsA kv D.kept * F)) w := by
  unfold diskA
  rw [holds_ex_sep]
  constructor
  · rintro ⟨kv, h⟩
    rw [sep_assoc] at h
    exact ⟨kv, h⟩
  · rintro ⟨kv, h⟩
    refine ⟨kv, ?_⟩
    rw [sep_assoc]
    exact h
theorem diskA_open {db : Nat} {D : Dk} {F : HProp} {w : World} : Holds (diskA db D * F) w ↔ ∃ mb kv, Holds (pt db (.cells (diskCells D mb kv) 92 (0, 0)) * (mapD mb D * (intsA kv D.kept * F))) w := by
  rw [diskA_B]
  constructor
  · rintro ⟨kv, h⟩
    obtain ⟨mb, h⟩ := diskB_open.1 h
    exact ⟨mb, kv, h⟩
  · rintro ⟨mb, kv, h⟩
    exact ⟨kv, diskB_open.2 ⟨mb, h⟩⟩

theorem size_flat (D : Dk) : (⟨D.safe.flatten.toArray⟩ : ByteArray).size = D.safe.flatten.length := by simp [ByteArray.size]

/-! ### Count, Dead, step, Revive -/
theorem Count_calls {db : Nat} {kv : Value} {D : Dk} {F : HProp} {w : World} (hD : D.Ok) (H : Holds (diskB db kv D * F) w) :
    Calls Tryz.prog 79 #[.pointer (some ⟨db, 0, none⟩)] w fun e w' => e = .returned (.int .i64 (D.n : Int)) ∧ w = w' := by
  obtain ⟨mb, H⟩ := diskB_open.1 H
  have c0 := H.cell 0 (v := .string ⟨D.safe.flatten.toArray⟩) rfl
  have hs : ((⟨D.safe.flatten.toArray⟩ : ByteArray).size : Int) = 64 * D.n := by rw [size_flat, Dk.image_length hD]; omega
  have hm := hD.most
  have hn : D.n ≤ 4096 := hm
  obtain ⟨s, hsdef⟩ : ∃ s : ByteArray, s = ⟨D.safe.flatten.toArray⟩ := ⟨_, rfl⟩
  rw [← hsdef] at c0 hs
  have hs1 : (s.size : Int) ≤ 300000 := by omega
  have Hs := Lib.hid hs
  clear hs hsdef
  go_enter Tryz.func79, Tryz.ntmps79
  go_wp2
  go_ret
  refine ⟨?_, rfl⟩
  have := Hs.out
  exact ret_int (by omega)

theorem Dead_calls {db : Nat} {kv : Value} {D : Dk} {F : HProp} {w : World} (H : Holds (diskB db kv D * F) w) :
    Calls Tryz.prog 80 #[.pointer (some ⟨db, 0, none⟩)] w fun e w' => e = .returned (.bool D.dead) ∧ w = w' := by
  obtain ⟨mb, H⟩ := diskB_open.1 H
  have c4 := H.cell 4 (v := .bool D.dead) rfl
  go_enter Tryz.func80, Tryz.ntmps80
  go_wp2
  go_ret
  exact ⟨rfl, rfl⟩

theorem step_calls {db : Nat} {kv : Value} {D : Dk} {F : HProp} {w : World} (hD : D.Ok) (H : Holds (diskB db kv D * F) w) :
    Calls Tryz.prog 91 #[.pointer (some ⟨db, 0, none⟩)] w (Ret (.bool D.gone) (diskB db kv D.stepD * F) w) := by
  have h0 := hD.armed0
  have h1 := hD.armedmax
  have H0 := H
  obtain ⟨mb, H⟩ := diskB_open.1 H
  have c2 := H.cell 2 (v := .int .i64 D.armed) rfl
  have f2 := H.unfz 2
  by_cases hz : D.armed = 0
  · have e1 : Ret (.bool D.gone) (diskB db kv D.stepD * F) w (.returned (.bool false)) w := by
      have : D.gone = false := by simp [Dk.gone, hz]
      rw [this]
      have : D.stepD = D := by simp [Dk.stepD, hz]
      rw [this]
      exact .mk H0 (.refl _)
    rw [hz] at c2
    clear hz
    go_enter Tryz.func91, Tryz.ntmps91
    go_wp2
    go_ret
    exact e1
  · have e1 : Ret (.bool D.gone) (diskB db kv D.stepD * F) w (.returned (.bool (D.armed - 1 == 0))) (w.setCell ⟨db, 2, none⟩ (.int .i64 (D.armed - 1))) := by
      have : D.gone = (D.armed - 1 == 0) := by
        unfold Dk.gone
        rw [Bool.eq_iff_iff]; simp; omega
      rw [this]
      refine .mk (diskB_open.2 ⟨mb, ?_⟩) ((Keeps.refl _).setCell _ _)
      have := H.setCell (off := 2) (.int .i64 (D.armed - 1))
      have e2 : D.stepD = { D with armed := D.armed - 1 } := by simp [Dk.stepD, hz]
      rw [e2]
      exact this
    have hz' : (D.armed == 0) = false := by simpa using hz
    clear hz
    go_enter Tryz.func91, Tryz.ntmps91
    go_wp2
    go_ret
    exact e1

/-! ### sector -/
theorem wrM_at (D : Dk) (i : Nat) : wrM D (.int .i64 (i : Int)) = (D.w? i).map strV := by simp [wrM, liftI]

theorem sector_calls {db : Nat} {kv : Value} {D : Dk} {F : HProp} {w : World} (hD : D.Ok) (H : Holds (diskB db kv D * F) w) (i : Int) (h0 : 0 ≤ i) (hi : i < D.n) :
    Calls Tryz.prog 82 #[.pointer (some ⟨db, 0, none⟩), .int .i64 i] w fun e w' => e = .returned (strV (D.sec i.toNat)) ∧ w = w' := by
  obtain ⟨i, rfl⟩ := Int.eq_ofNat_of_zero_le h0
  have hn : D.n ≤ 4096 := hD.most
  have hi' : i < D.n := by omega
  obtain ⟨mb, H⟩ := diskB_open.1 H
  have c0 := H.cell 0 (v := .string ⟨D.safe.flatten.toArray⟩) rfl
  have c1 := H.cell 1 (v := .map (some mb)) rfl
  have Hm := H
  rw [sep_left_comm] at Hm
  have hlook := mapA_look_ok Hm kInt Tryz.underlying90 (zeroStr w) (key := .int .i64 i) (keyInt (by omega) (by omega))
  rw [wrM_at] at hlook
  have hs : ((⟨D.safe.flatten.toArray⟩ : ByteArray).size) = 64 * D.n := by rw [size_flat, Dk.image_length hD]
  obtain ⟨s, hsdef⟩ : ∃ s : ByteArray, s = ⟨D.safe.flatten.toArray⟩ := ⟨_, rfl⟩
  rw [← hsdef] at c0 hs
  cases hw : D.w? i with
  | some t =>
    rw [hw] at hlook
    simp only [Option.map_some, Option.getD_some, Option.isSome_some] at hlook
    have hfin : D.sec i = t := by simp [Dk.sec, hw]
    rw [Int.toNat_natCast, hfin]
    clear hfin hw hs hsdef
    go_enter Tryz.func82, Tryz.ntmps82
    go_wp2
    go_ret
    exact ⟨rfl, rfl⟩
  | none =>
    rw [hw] at hlook
    simp only [Option.map_none, Option.getD_none, Option.isSome_none] at hlook
    have hfin : strV (D.sec i) = .string (s.extract (i * 64) (i * 64 + 64)) := by
      unfold strV Dk.sec
      rw [hw, hsdef, ByteArray.extract_mk, Option.getD_none]
      have e1 := Dk.flatten_at D.safe hD.safe64 i hi'
      rw [Nat.add_sub_cancel_left, Nat.mul_comm i 64, e1]
    rw [Int.toNat_natCast, hfin]
    have hs1 : i * 64 + 64 ≤ s.size := by omega
    clear hfin hw hs hsdef
    go_enter Tryz.func82, Tryz.ntmps82
    go_wp2
    go_ret
    exact ⟨rfl, rfl⟩

theorem Dk.secs_succ (D : Dk) (a k : Nat) : (D.secs a (k + 1)).flatten = (D.secs a k).flatten ++ D.sec (a + k) := by
  simp [Dk.secs, List.range_succ]
theorem Dk.secs_length {D : Dk} (hD : D.Ok) (a k : Nat) (h : a + k ≤ D.n) : (D.secs a k).flatten.length = 64 * k := by
  have := Dk.flatten_length_of (D.secs a k) (fun s hs => by
    simp only [Dk.secs, List.mem_map, List.mem_range] at hs
    obtain ⟨j, hj, rfl⟩ := hs
    exact Dk.sec_length hD (by omega))
  rw [this]; simp [Dk.secs]

/-! ### Read -/
set_option maxHeartbeats 400000 in
theorem Read_calls {db : Nat} {kv : Value} {D : Dk} {F : HProp} {w : World} (hD : D.Ok) (H : Holds (diskB db kv D * F) w) (a c : Int) (ha : -9223372036854775808 ≤ a) (ha' : a ≤ 9223372036854775807) (hc : -9223372036854775808 ≤ c) (hc' : c ≤ 9223372036854775807) :
    Calls Tryz.prog 44 #[.pointer (some ⟨db, 0, none⟩), .int .i64 a, .int .i64 c] w (Ret (.tuple #[strV (D.read a c).1, .int .i64 (D.read a c).2]) (diskB db kv D * F) w) := by
  have hn : D.n ≤ 4096 := hD.most
  have H0 := H
  obtain ⟨mb, H⟩ := diskB_open.1 H
  have c4 := H.cell 4 (v := .bool D.dead) rfl
  cases hdead : D.dead with
  | true =>
    rw [hdead] at c4
    have hfin : Ret (.tuple #[strV (D.read a c).1, .int .i64 (D.read a c).2]) (diskB db kv D * F) w (.returned (.tuple #[.string ⟨#[]⟩, .int .i64 2])) w := by
      simp only [Dk.read, hdead, if_true]
      exact .mk H0 (.refl _)
    clear hdead
    go_enter Tryz.func44, Tryz.ntmps44
    go_wp2_with fail
    go_ret2
    exact hfin
  | false =>
    rw [hdead] at c4
    by_cases hbad : a < 0 ∨ c < 0 ∨ (D.n : Int) < a ∨ (D.n : Int) - a < c
    · have hfin : Ret (.tuple #[strV (D.read a c).1, .int .i64 (D.read a c).2]) (diskB db kv D * F) w (.returned (.tuple #[.string ⟨#[]⟩, .int .i64 171])) w := by
        simp only [Dk.read, hdead, hbad, if_true, Bool.false_eq_true, if_false]
        exact .mk H0 (.refl _)
      clear hdead
      by_cases h1 : a < 0
      · clear hbad
        go_enter Tryz.func44, Tryz.ntmps44
        go_wp2_with fail
        go_ret2
        exact hfin
      · by_cases h2 : c < 0
        · clear hbad
          go_enter Tryz.func44, Tryz.ntmps44
          go_wp2_with fail
          go_ret2
          exact hfin
        · by_cases h3 : (D.n : Int) < a
          · clear hbad
            go_enter Tryz.func44, Tryz.ntmps44
            go_wp2_with (go_at_call 79; refine (Count_calls hD H0).mono ?_; rintro e w' ⟨rfl, rfl⟩)
            go_ret2
            exact hfin
          · have h4 : (D.n : Int) - a < c := by omega
            clear hbad
            go_enter Tryz.func44, Tryz.ntmps44
            go_wp2_with (go_at_call 79; refine (Count_calls hD H0).mono ?_; rintro e w' ⟨rfl, rfl⟩)
            go_ret2
            exact hfin
    · have h1 : 0 ≤ a := by omega
      have h2 : 0 ≤ c := by omega
      have h3 : a ≤ (D.n : Int) := by omega
      have h4 : c ≤ (D.n : Int) - a := by omega
      obtain ⟨a, rfl⟩ := Int.eq_ofNat_of_zero_le h1
      obtain ⟨c, rfl⟩ := Int.eq_ofNat_of_zero_le h2
      have hres : D.read (a : Int) (c : Int) = ((D.secs a c).flatten, 0) := by
        simp only [Dk.read, hdead, hbad, Bool.false_eq_true, if_false, Int.toNat_natCast]
      rw [hres]
      clear hres hbad hdead
      have hlen : 64 * c ≤ 140737488355328 := by omega
      have hd1 : decide (D.n < a) = false := by simp; omega
      have hd2 : decide ((a : Int) < 0) = false := by simp
      have hd3 : decide ((c : Int) < 0) = false := by simp
      have hd4 : decide ((D.n : Int) - (a : Int) < (c : Int)) = false := by simp; omega
      go_enter Tryz.func44, Tryz.ntmps44
      go_wp2_with (go_at_call 79; refine (Count_calls hD H0).mono ?_; rintro e w' ⟨rfl, rfl⟩)
      go_loopw [35] (fun i wr => ∃ k : Nat, k ≤ c ∧ i = .int .i64 k ∧ isB w.heap.size (D.secs a k).flatten wr ∧ Below w.heap.size w wr) (fun i _ => c - (intOf i).toNat)
      case atStart => exact ⟨0, Nat.zero_le _, rfl, isB_fresh w, (Below.refl _ _).alloc (Nat.le_refl _) _⟩
      case round =>
        obtain ⟨k, hk, rfl, hB, hb⟩ := hrel
        have HR : Holds (diskB db kv D * F) wr := Holds_below H0 (Nat.le_refl _) hb
        have hKeep : Keeps w wr := Keeps.below hb
        by_cases hlt : k < c
        · have hl1 := Dk.secs_length hD a k (by omega)
          have hl2 := Dk.sec_length hD (i := a + k) (by omega)
          have hsc := Dk.secs_succ D a k
          have HL : Hid ((D.secs a k).flatten.length + (D.sec (a + k)).length ≤ 140737488355328) := Lib.hid (by omega)
          have HS := Lib.hid hsc
          clear hl1 hl2 hsc
          go_wp2_with fail
          refine (sector_calls hD HR _ (by omega) (by omega)).mono ?_
          rintro e w' ⟨rfl, rfl⟩
          rw [show ((a : Int) + (k : Int)).toNat = a + k from by omega]
          go_wp2_with fail
          refine (WriteString_calls hB (D.sec (a + k)) HL.out).mono ?_
          rintro e w1 ⟨rfl, hB1, hb1⟩
          have hb2 : Below w.heap.size w w1 := hb.trans hb1
          go_wp2_with fail
          go_roundw
          case rel => exact ⟨k + 1, by omega, by go_num, by rw [HS.out]; exact hB1, hb2⟩
          case measure => simp [intOf]; omega
        · obtain rfl : k = c := by omega
          go_wp2_with fail
          refine (BuilderString_calls hB).mono ?_
          rintro e w1 ⟨rfl, hB1, hb1⟩
          have hb2 : Below w.heap.size w w1 := hb.trans hb1
          go_wp2_with fail
          go_ret2
          exact .mk (Holds_below H0 (Nat.le_refl _) hb2) (Keeps.below hb2)
end Go.Proofs.YtmeepegllkhlcaaGreat
