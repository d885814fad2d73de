/-
  The law's two disks, of an image that is made to fit.
-/
import Derived.Test.YtmeepegllkhlcaaGreatR19d
import Derived.Test.YtmeepegllkhlcaaGreatLaw
namespace Go.Proofs.YtmeepegllkhlcaaGreat
open Go Go.RowKit Go.Maps

def fitI (img : Bs) : Bs := img.take 7680 ++ Pg.zeros (64 - (img.take 7680).length % 64)
theorem fitI_ok (img : Bs) : Dk.newOk (fitI img) = true := by
  unfold Dk.newOk fitI
  have h : (img.take 7680).length ≤ 7680 := List.length_take_le _ _
  have h2 : (img.take 7680 ++ Pg.zeros (64 - (img.take 7680).length % 64)).length = (img.take 7680).length + (64 - (img.take 7680).length % 64) := by simp [Pg.zeros]
  rw [decide_eq_true_eq, h2]
  omega

set_option maxRecDepth 100000 in
set_option maxHeartbeats 1000000 in
theorem disks_calls {F : HProp} {w : World} (H : Holds F w) (img : Bs) (hi : img.length ≤ 9223372036854775807) :
    Calls Tryz.prog 5 #[strV img] w fun e w' => ∃ db rb, Ret (.tuple #[.pointer (some ⟨db, 0, none⟩), .pointer (some ⟨rb, 0, none⟩)]) (diskA db (Dk.new (fitI img)) * (rdA rb (Dk.new (fitI img)) * F)) w e w' := by
  obtain ⟨i0, hi0, hz0, hz1, hz2⟩ := info_parts Tryz_infoByte
  obtain ⟨m, hm⟩ : ∃ m, m = min img.length 7680 := ⟨_, rfl⟩
  have hm1 : m ≤ 7680 := by omega
  obtain ⟨z, hz⟩ : ∃ z, z = 64 - m % 64 := ⟨_, rfl⟩
  have hz64 : 1 ≤ z ∧ z ≤ 64 := by omega
  have htl : (img.take 7680).length = m := by rw [List.length_take, hm, Nat.min_comm]
  have hcut : ∀ w, (Instr.slice 9 (strV img) none (some (.int .i64 (m : Int))) none).run Tryz.prog w = .ok (strV (img.take 7680)) w := by
    intro w
    have hsz : (⟨img.toArray⟩ : ByteArray).size = img.length := by simp [ByteArray.size]
    unfold strV
    rw [run_slice_string_h w 9 _ Tryz.underlying9 .i64 (m : Int) (by omega) (by rw [hsz]; omega), Int.toNat_natCast, ByteArray.extract_mk]
    simp only [List.drop_zero, Nat.sub_zero]
    rw [show img.take m = img.take 7680 from by
      rcases Nat.le_total img.length 7680 with h | h
      · rw [List.take_of_length_le (by omega), List.take_of_length_le h]
      · rw [hm, Nat.min_eq_right h]]
  obtain ⟨sb, hsb, hsbz⟩ : ∃ S : ByteArray, strV img = .string S ∧ S.size = img.length := ⟨_, rfl, by simp [ByteArray.size]⟩
  obtain ⟨tb, htb, htbz⟩ : ∃ S : ByteArray, strV (img.take 7680) = .string S ∧ S.size = m := ⟨_, rfl, by simp [ByteArray.size]; omega⟩
  obtain ⟨zb, hzb, hzbz⟩ : ∃ S : ByteArray, strV (Pg.zeros z) = .string S ∧ S.size = z := ⟨_, rfl, by simp [ByteArray.size, Pg.zeros]⟩
  have hcat : tb ++ zb = ⟨(fitI img).toArray⟩ := by
    injection htb with h1
    injection hzb with h2
    rw [← h1, ← h2, ByteArray.mk_append_mk]
    unfold fitI
    rw [htl, ← hz]
  rw [hsb, htb] at hcut
  rw [hsb]
  have hmin : min (sb.size : Int) 7680 = (m : Int) := by rw [hsbz]; omega
  have hmin2 : (if (sb.size : Int) < 7680 then (sb.size : Int) else 7680) = (m : Int) := by rw [hsbz]; split <;> omega
  have hzi : (64 : Int) - (m : Int) % 64 = (z : Int) := by omega
  have Hcat := Lib.hid hcat
  have Hzb := Lib.hid hzb
  have Hhsbz := Lib.hid hsbz
  have Htbz := Lib.hid htbz
  clear hcat hzb hsb htb hm hz htl hsbz
  go_enter Tryz.func5, Tryz.ntmps5
  go_wp2_with (at_make; refine wpList_make_full _ rfl _ _ _ rfl 0 5 i0 (.int .u8 0) 1 Tryz.underlying60 hi0 hz0 hz1 .i64 .i64 (z : Int) (z : Int) z rfl rfl rfl rfl (by rw [hz2]; omega) (by unfold maxLen; omega) (Nat.zero_le _) ?_; intro w1 hown1 hg1; rw [madeZeros] at hown1; have hstr := run_own_string hown1 (by simp [Pg.zeros]); rw [Hzb.out] at hstr)
  have H1 := H.grow (fun j hj => hg1.block j hj (by simp))
  have K1 := Keeps.grown hg1
  have hfit : strV (fitI img) = .string (tb ++ zb) := by rw [Hcat.out]; rfl
  have hnew := New_calls H1 (fitI img) (fitI_ok img)
  rw [hfit] at hnew
  refine hnew.mono ?_
  rintro e w2 ⟨db, rfl, H2, K2⟩
  have hnew2 := RNew_calls H2 (fitI img) (fitI_ok img)
  rw [hfit] at hnew2
  have HN2 := Lib.hid hnew2
  clear hnew hnew2 hstr hfit hown1 hg1
  go_wp2_with fail
  refine HN2.out.mono ?_
  rintro e w3 ⟨rb, rfl, H3, K3⟩
  go_wp2_with fail
  go_ret2
  rw [sep_left_comm] at H3
  exact ⟨db, rb, .mk H3 ((K1.trans K2).trans K3)⟩
end Go.Proofs.YtmeepegllkhlcaaGreat
