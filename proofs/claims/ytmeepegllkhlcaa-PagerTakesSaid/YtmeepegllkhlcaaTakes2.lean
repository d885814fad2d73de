/-
  PagerTakes: the walk.
-/
import Derived.Test.YtmeepegllkhlcaaTakes
import Derived.Deep.LoopGhost
namespace Go.Proofs.Ytmeepegllkhlcaa
open Go Go.RowKit Go.Maps

set_option maxRecDepth 100000 in
set_option maxHeartbeats 4000000 in
theorem PagerTakes_calls {F : HProp} {w : World} (H : Holds F w) (pages drop : Int) (h1 : -9223372036854775808 ≤ pages ∧ pages ≤ 9223372036854775807) (h2 : -9223372036854775808 ≤ drop ∧ drop ≤ 9223372036854775807) :
    Calls Try.prog 3 #[.int .i64 pages, .int .i64 drop] w (Ret (.bool true) F w) := by
  obtain ⟨n, hn⟩ : ∃ n : Nat, max 1 (min pages 60) = (n : Int) := ⟨(max 1 (min pages 60)).toNat, by omega⟩
  have n1 : 1 ≤ n ∧ n ≤ 60 := by omega
  go_enter Try.func3, Try.ntmps3
  go_wp2_with fail
  clear hn
  refine (laidOut_calls H n n1.1 n1.2).mono ?_
  rintro e w1 ⟨pb, db, D, p, ⟨rfl, H1, K1⟩, hp, hpt⟩
  go_wp2_with fail
  go_loopg [7] 2 (fun g7 t wr => ∃ (k : Nat) (p : Pg), k ≤ 2 ∧ g7 = 2 - k ∧ t = .int .i64 k ∧ p.Ok D.n ∧ p.Tk n 0 ∧ Holds (pgA pb db p * (diskA db D * F)) wr ∧ Keeps w wr)
  case atStart => exact ⟨0, p, by omega, rfl, rfl, hp, hpt, H1, K1⟩
  case round =>
    clear H1 K1 H hp hpt
    obtain ⟨k, p, hk, hgk, rfl, hp, hpt, HR, hKr⟩ := hrel
    obtain ⟨wo, hwo⟩ : ∃ wo : World, wo = wr := ⟨_, rfl⟩
    rw [← hwo] at HR hKr ⊢
    clear hwo
    have hk3 : k = 0 ∨ k = 1 ∨ k = 2 := by omega
    rcases hk3 with rfl | rfl | rfl
    · go_wp2_with fail
      go_loopg [8] n (fun g8 i wi => ∃ (j : Nat) (q : Pg), j ≤ n ∧ g8 = n - j ∧ i = .int .i64 j ∧ q.Ok D.n ∧ q.Tk n j ∧ Holds (pgA pb db q * (diskA db D * F)) wi ∧ Keeps w wi)
      case atStart => exact ⟨0, p, Nat.zero_le _, rfl, rfl, hp, hpt, HR, hKr⟩
      case round =>
        clear HR hKr hp hpt
        obtain ⟨j, q, hj, hgj, rfl, hq, ht, HI, hKi⟩ := hrel
        by_cases hjn : j < n
        · have hal := Alloc_calls hq HI
          rw [(ht.alloc hjn).1] at hal
          have hq1 := hq.alloc
          have ht1 := (ht.alloc hjn).2
          obtain ⟨q1, hq1d⟩ : ∃ q1, q1 = q.alloc.1 := ⟨_, rfl⟩
          rw [← hq1d] at hal hq1 ht1
          have HAL := Lib.hid hal
          clear hal hq1d HI ht hq
          have hdd : (j : Int) = drop ∨ ¬ (j : Int) = drop := Classical.em _
          rcases hdd with hdd | hdd
          · have hbd : ((j : Int) == drop) = true := by simpa using hdd
            clear hdd
            go_wp2_with fail
            refine HAL.out.mono ?_
            rintro e w3 ⟨rfl, H3, K3⟩
            have K4 := hKi.trans K3
            have hfr := Free_calls hq1 H3
            rw [ht1.free (by omega)] at hfr
            have hfe : ((n - (j + 1) : Nat) : Int) = (n : Int) - 1 - (j : Int) := by omega
            rw [hfe] at hfr
            have HFR0 := Lib.hid hfr
            clear hfr hfe HAL K3
            go_wp2_with fail
            refine HFR0.out.mono ?_
            rintro e w4 ⟨rfl, H2i, K5i⟩
            have K2i := K4.trans K5i
            clear HFR0 H3 K4 K5i hKi
            go_wp2_with fail
            have H5 := H2i
            have K6 := K2i
            clear H2i K2i
            refine (Drop_calls H5).mono ?_
            rintro e w6 ⟨rfl, H6, K7⟩
            have K8 := K6.trans K7
            have hfr := Free_calls hq1.drop H6
            rw [ht1.drop.free (Nat.zero_le _)] at hfr
            clear H5 K6 K7
            have HFR := Lib.hid hfr
            clear hfr
            go_wp2_with fail
            refine HFR.out.mono ?_
            rintro e w7 ⟨rfl, H7, K9⟩
            have K10 := K8.trans K9
            clear HFR H6 K8 K9
            go_wp2_with fail
            go_roundg 1
            case rel => exact ⟨1, q1.drop, by omega, by omega, by go_num, hq1.drop, ht1.drop, H7, K10⟩
            case measure => omega
          · have hbd : ((j : Int) == drop) = false := by simpa using hdd
            clear hdd
            go_wp2_with fail
            refine HAL.out.mono ?_
            rintro e w3 ⟨rfl, H3, K3⟩
            have K4 := hKi.trans K3
            have hfr := Free_calls hq1 H3
            rw [ht1.free (by omega)] at hfr
            have hfe : ((n - (j + 1) : Nat) : Int) = (n : Int) - 1 - (j : Int) := by omega
            rw [hfe] at hfr
            have HFR0 := Lib.hid hfr
            clear hfr hfe HAL K3
            go_wp2_with fail
            refine HFR0.out.mono ?_
            rintro e w4 ⟨rfl, H2i, K5i⟩
            have K2i := K4.trans K5i
            clear HFR0 H3 K4 K5i hKi
            go_wp2_with fail
            go_roundg (n - (j + 1))
            case rel => exact ⟨j + 1, q1, by omega, rfl, by go_num, hq1, ht1, H2i, K2i⟩
            case measure => omega
        · obtain rfl : j = n := by omega
          go_wp2_with fail
          have H5 := HI
          have K6 := hKi
          clear HI hKi
          refine (Drop_calls H5).mono ?_
          rintro e w6 ⟨rfl, H6, K7⟩
          have K8 := K6.trans K7
          have hfr := Free_calls hq.drop H6
          rw [ht.drop.free (Nat.zero_le _)] at hfr
          clear H5 K6 K7
          have HFR := Lib.hid hfr
          clear hfr
          go_wp2_with fail
          refine HFR.out.mono ?_
          rintro e w7 ⟨rfl, H7, K9⟩
          have K10 := K8.trans K9
          clear HFR H6 K8 K9
          go_wp2_with fail
          go_roundg 1
          case rel => exact ⟨1, q.drop, by omega, by omega, by go_num, hq.drop, ht.drop, H7, K10⟩
          case measure => omega
    · go_wp2_with fail
      go_loopg [8] n (fun g8 i wi => ∃ (j : Nat) (q : Pg), j ≤ n ∧ g8 = n - j ∧ i = .int .i64 j ∧ q.Ok D.n ∧ q.Tk n j ∧ Holds (pgA pb db q * (diskA db D * F)) wi ∧ Keeps w wi)
      case atStart => exact ⟨0, p, Nat.zero_le _, rfl, rfl, hp, hpt, HR, hKr⟩
      case round =>
        clear HR hKr hp hpt
        obtain ⟨j, q, hj, hgj, rfl, hq, ht, HI, hKi⟩ := hrel
        by_cases hjn : j < n
        · have hal := Alloc_calls hq HI
          rw [(ht.alloc hjn).1] at hal
          have hq1 := hq.alloc
          have ht1 := (ht.alloc hjn).2
          obtain ⟨q1, hq1d⟩ : ∃ q1, q1 = q.alloc.1 := ⟨_, rfl⟩
          rw [← hq1d] at hal hq1 ht1
          have HAL := Lib.hid hal
          clear hal hq1d HI ht hq
          go_wp2_with fail
          refine HAL.out.mono ?_
          rintro e w3 ⟨rfl, H3, K3⟩
          have K4 := hKi.trans K3
          have hfr := Free_calls hq1 H3
          rw [ht1.free (by omega)] at hfr
          have hfe : ((n - (j + 1) : Nat) : Int) = (n : Int) - 1 - (j : Int) := by omega
          rw [hfe] at hfr
          have HFR0 := Lib.hid hfr
          clear hfr hfe HAL K3
          go_wp2_with fail
          refine HFR0.out.mono ?_
          rintro e w4 ⟨rfl, H2i, K5i⟩
          have K2i := K4.trans K5i
          clear HFR0 H3 K4 K5i hKi
          go_wp2_with fail
          go_roundg (n - (j + 1))
          case rel => exact ⟨j + 1, q1, by omega, rfl, by go_num, hq1, ht1, H2i, K2i⟩
          case measure => omega
        · obtain rfl : j = n := by omega
          go_wp2_with fail
          have hal := Alloc_calls hq HI
          rw [ht.full] at hal
          refine hal.mono ?_
          rintro e w5 ⟨rfl, H5, K5⟩
          have K6 := hKi.trans K5
          clear hal HI hKi
          go_wp2_with fail
          refine (Drop_calls H5).mono ?_
          rintro e w6 ⟨rfl, H6, K7⟩
          have K8 := K6.trans K7
          have hfr := Free_calls hq.drop H6
          rw [ht.drop.free (Nat.zero_le _)] at hfr
          clear H5 K6 K7
          have HFR := Lib.hid hfr
          clear hfr
          go_wp2_with fail
          refine HFR.out.mono ?_
          rintro e w7 ⟨rfl, H7, K9⟩
          have K10 := K8.trans K9
          clear HFR H6 K8 K9
          go_wp2_with fail
          go_roundg 0
          case rel => exact ⟨2, q.drop, by omega, by omega, by go_num, hq.drop, ht.drop, H7, K10⟩
          case measure => omega
    · go_wp2_with fail
      refine (fixed_calls HR).mono ?_
      rintro e w9 ⟨rfl, H9, K9⟩
      have K10 := hKr.trans K9
      go_wp2_with fail
      go_ret
      exact .mk H9.right.right K10
end Go.Proofs.Ytmeepegllkhlcaa
