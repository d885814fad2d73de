/-
  A pager's heads are read; Open.
-/
import Derived.Test.YtmeepegllkhlcaaGreatPager4
import Derived.Laws.Bits64b
import Derived.Deep.QuietTactic
import Derived.BigQuiet
namespace Go.Proofs.YtmeepegllkhlcaaGreat
open Go Go.RowKit Go.Maps

theorem beN_take_succ (s : Bs) (k : Nat) (h : k < s.length) : Pg.beN (s.take (k + 1)) = Pg.beN (s.take k) * 256 + (s.getD k 0).toNat := by
  unfold Pg.beN
  rw [List.take_add_one, List.getElem?_eq_getElem h, Option.toList_some, List.foldl_append]
  simp [List.getD_eq_getElem?_getD, List.getElem?_eq_getElem h]
theorem beN_lt : ∀ (k : Nat) (s : Bs), Pg.beN (s.take k) < 256 ^ k
  | 0, s => by simp [Pg.beN]
  | k + 1, s => by
    by_cases h : k < s.length
    · have ih := beN_lt k s
      rw [beN_take_succ s k h, Nat.pow_succ]
      have := (s.getD k 0).toNat_lt
      omega
    · have ih := beN_lt k s
      rw [List.take_of_length_le (by omega)] at ih ⊢
      exact Nat.lt_of_lt_of_le ih (Nat.pow_le_pow_right (by decide) (by omega))

theorem or_byte (n b : Nat) (hb : b < 256) (hn : n < 72057594037927936) : bits BinOp.or IntKind.u64 (IntKind.u64.wrap ((n : Int) * 256)) (IntKind.u64.wrap (b : Int)) = ((n * 256 + b : Nat) : Int) := by
  have e1 : IntKind.u64.wrap ((n : Int) * 256) = ((n * 256 : Nat) : Int) := by
    unfold IntKind.wrap; simp [IntKind.bits, IntKind.signed]; omega
  have e2 : IntKind.u64.wrap (b : Int) = ((b : Nat) : Int) := by
    unfold IntKind.wrap; simp [IntKind.bits, IntKind.signed]; omega
  rw [e1, e2, bits_or_u64_nat _ _ (by omega) (by omega)]
  have : n * 256 ||| b = n * 256 + b := by
    have := Nat.shiftLeft_add_eq_or_of_lt (i := 8) (b := b) (by simpa using hb) n
    rw [Nat.shiftLeft_eq, show (2 : Nat) ^ 8 = 256 from rfl] at this
    omega
  rw [this]

theorem small_calls (s : Bs) (hs : s.length ≤ 8) (w : World) : Calls Tryz.prog 84 #[strV s] w fun e w' => e = .returned (.int .u64 (Pg.beN s)) ∧ w = w' := by
  have hsz : (⟨s.toArray⟩ : ByteArray).size = s.length := by simp [ByteArray.size]
  have hidx : ∀ k (h : k < (⟨s.toArray⟩ : ByteArray).size), (⟨s.toArray⟩ : ByteArray)[k] = s.getD k 0 := by
    intro k h
    have hk : k < s.length := by rw [hsz] at h; exact h
    rw [List.getD_eq_getElem?_getD, List.getElem?_eq_getElem hk]
    rfl
  obtain ⟨sb, hsb⟩ : ∃ sb : ByteArray, sb = ⟨s.toArray⟩ := ⟨_, rfl⟩
  have e0 : strV s = .string sb := by rw [hsb]; rfl
  rw [← hsb] at hsz hidx
  rw [e0]
  have HI := Lib.hid hidx
  clear e0 hsb hidx
  go_enter Tryz.func84, Tryz.ntmps84
  go_wp2_with fail
  go_loopw [2, 6] (fun n i wr => ∃ (k : Nat), k ≤ s.length ∧ i = .int .i64 k ∧ n = .int .u64 (Pg.beN (s.take k)) ∧ wr = w) (fun _ i _ => s.length - (intOf i).toNat)
  case atStart => exact ⟨0, Nat.zero_le _, rfl, rfl, rfl⟩
  case round =>
    obtain ⟨k, hk, rfl, rfl, rfl⟩ := hrel
    have hlt2 := beN_lt k s
    by_cases hlt : k < s.length
    · have hn : Pg.beN (s.take k) < 72057594037927936 := by
        refine Nat.lt_of_lt_of_le hlt2 ?_
        have : (256 : Nat) ^ k ≤ 256 ^ 7 := Nat.pow_le_pow_right (by decide) (by omega)
        exact this
      have hsucc := beN_take_succ s k hlt
      have hor := or_byte (Pg.beN (s.take k)) (s.getD k 0).toNat (by have := (s.getD k 0).toNat_lt; omega) hn
      have hq : ∀ h, (sb[k]'h) = s.getD k 0 := fun h => HI.out k h
      have HS := Lib.hid hsucc
      have HO := Lib.hid hor
      have HQ := Lib.hid hq
      clear hsucc hor hlt2 hn hq
      go_wp2_with fail
      go_roundw
      case rel =>
        refine ⟨k + 1, by omega, by go_num, ?_, trivial⟩
        rw [HQ.out, HO.out, HS.out]
      case measure => simp [intOf]; omega
    · obtain rfl : k = s.length := by omega
      clear hlt2
      go_wp2_with fail
      go_ret
      rw [List.take_length]
      exact ⟨rfl, rfl⟩

theorem toList_mk (l : Bs) : (⟨l.toArray⟩ : ByteArray).toList = l := by
  rw [ByteArray.toList_eq]

theorem sub_length (s : Bs) (a b : Nat) (h : b ≤ s.length) : (Pg.sub s a b).length = b - a := by
  unfold Pg.sub
  rw [List.length_take, List.length_drop]
  omega

set_option maxRecDepth 100000 in
set_option maxHeartbeats 4000000 in
theorem parse_calls {pb db : Nat} {p : Pg} {F : HProp} {w : World} (H : Holds (pgA pb db p * F) w) (hpages : p.pages ≤ 4096) (s : Bs) (hs : s.length = 64) (at_ : Nat) (hat : at_ < 2) :
    Calls Tryz.prog 45 #[.pointer (some ⟨pb, 0, none⟩), strV s, .int .i64 (at_ : Int)] w
      (Ret (.tuple #[.int .i64 ((Pg.parse p.pages s at_).1 : Int), .int .i64 (Pg.parse p.pages s at_).2.1, .int .i64 ((Pg.parse p.pages s at_).2.2 : Int)]) (pgA pb db p * F) w) := by
  obtain ⟨lb, tb, H1⟩ := pgA_open.1 H
  have c2 := H1.cell 2 (v := .int .i64 p.pages) rfl
  have k1 : ∀ w, (Instr.slice 9 (strV s) (some (.int .i64 4)) (some (.int .i64 12)) none).run Tryz.prog w = .ok (strV ((s.drop 4).take (12 - 4))) w := fun w => run_text_cut s 4 12 (by omega) (by omega) w
  have k2 : ∀ w, (Instr.slice 9 (strV s) (some (.int .i64 12)) (some (.int .i64 16)) none).run Tryz.prog w = .ok (strV ((s.drop 12).take (16 - 12))) w := fun w => run_text_cut s 12 16 (by omega) (by omega) w
  have k3 : ∀ w, (Instr.slice 9 (strV s) (some (.int .i64 16)) (some (.int .i64 24)) none).run Tryz.prog w = .ok (strV ((s.drop 16).take (24 - 16))) w := fun w => run_text_cut s 16 24 (by omega) (by omega) w
  have m1 := fun w => small_calls (Pg.sub s 4 12) (by rw [sub_length _ _ _ (by omega)]; omega) w
  have m2 := fun w => small_calls (Pg.sub s 12 16) (by rw [sub_length _ _ _ (by omega)]; omega) w
  have m3 := fun w => small_calls (Pg.sub s 16 24) (by rw [sub_length _ _ _ (by omega)]; omega) w
  have l1 := beN_lt 8 (Pg.sub s 4 12)
  have l2 := beN_lt 4 (Pg.sub s 12 16)
  have l3 := beN_lt 8 (Pg.sub s 16 24)
  rw [List.take_of_length_le (by rw [sub_length _ _ _ (by omega)]; omega)] at l1 l2 l3
  have hpar : Pg.parse p.pages s at_ = (if Pg.beN (Pg.sub s 4 12) < 1 ∨ 1152921504606846976 < Pg.beN (Pg.sub s 4 12) ∨ Pg.beN (Pg.sub s 4 12) % 2 ≠ at_ ∨ p.pages < Pg.beN (Pg.sub s 12 16) ∨ Pg.beN (Pg.sub s 16 24) < 1 ∨ 1152921504606846976 < Pg.beN (Pg.sub s 16 24)
      ∨ s ≠ headL (Pg.beN (Pg.sub s 4 12)) (Pg.beN (Pg.sub s 12 16)) (Pg.beN (Pg.sub s 16 24)) then (0, 0, 0)
  else (Pg.beN (Pg.sub s 4 12), (Pg.beN (Pg.sub s 12 16) : Int) - 1, Pg.beN (Pg.sub s 16 24))) := rfl
  unfold Pg.sub at hpar m1 m2 m3 l1 l2 l3
  obtain ⟨s1, hs1⟩ : ∃ s1 : ByteArray, strV ((s.drop 4).take (12 - 4)) = .string s1 := ⟨_, rfl⟩
  obtain ⟨s2, hs2⟩ : ∃ s1 : ByteArray, strV ((s.drop 12).take (16 - 12)) = .string s1 := ⟨_, rfl⟩
  obtain ⟨s3, hs3⟩ : ∃ s1 : ByteArray, strV ((s.drop 16).take (24 - 16)) = .string s1 := ⟨_, rfl⟩
  rw [hs1] at k1 m1
  rw [hs2] at k2 m2
  rw [hs3] at k3 m3
  obtain ⟨g, hg⟩ : ∃ g, g = Pg.beN ((s.drop 4).take (12 - 4)) := ⟨_, rfl⟩
  obtain ⟨r, hr⟩ : ∃ g, g = Pg.beN ((s.drop 12).take (16 - 12)) := ⟨_, rfl⟩
  obtain ⟨f, hf⟩ : ∃ g, g = Pg.beN ((s.drop 16).take (24 - 16)) := ⟨_, rfl⟩
  rw [← hg] at m1 l1
  rw [← hr] at m2 l2
  rw [← hf] at m3 l3
  rw [← hg, ← hr, ← hf] at hpar
  clear hg hr hf hs1 hs2 hs3
  obtain ⟨hd, hhd⟩ : ∃ hd, hd = headL g r f := ⟨_, rfl⟩
  have hh : g < 9223372036854775808 → f < 9223372036854775808 → ∀ w : World, Calls Tryz.prog 52 #[.int .i64 (g : Int), .int .i64 ((r : Int) - 1), .int .i64 (f : Int)] w fun e w' => e = .returned (strV hd) ∧ Below w.heap.size w w' := by
    intro h1 h2 w
    rw [hhd]
    exact head_calls g r f h1 (by omega) h2
  rw [← hhd] at hpar
  clear hhd
  have l1' : g < 18446744073709551616 := l1
  have l2' : r < 4294967296 := l2
  have l3' : f < 18446744073709551616 := l3
  clear l1 l2 l3 H1
  have HH := Lib.hid hh
  have HP := Lib.hid hpar
  clear hh hpar
  obtain ⟨sb, hsb⟩ : ∃ sb : ByteArray, sb = ⟨s.toArray⟩ := ⟨_, rfl⟩
  obtain ⟨hb, hhb⟩ : ∃ sb : ByteArray, sb = ⟨hd.toArray⟩ := ⟨_, rfl⟩
  have e1 : strV s = .string sb := by rw [hsb]; rfl
  have e2 : strV hd = .string hb := by rw [hhb]; rfl
  have hcmp : (sb.toList == hb.toList) = (s == hd) := by
    rw [hsb, hhb, toList_mk, toList_mk]
  rw [e1] at k1 k2 k3 ⊢
  rw [e2] at HH
  clear e1 e2 hsb hhb
  have HB : Hid ((g < 1 ∨ 1152921504606846976 < g ∨ g % 2 ≠ at_ ∨ p.pages < r ∨ f < 1 ∨ 1152921504606846976 < f) → Pg.parse p.pages s at_ = (0, 0, 0)) := Lib.hid (fun h => by
    rw [HP.out, if_pos]
    rcases h with h | h | h | h | h | h
    · exact .inl h
    · exact .inr (.inl h)
    · exact .inr (.inr (.inl h))
    · exact .inr (.inr (.inr (.inl h)))
    · exact .inr (.inr (.inr (.inr (.inl h))))
    · exact .inr (.inr (.inr (.inr (.inr (.inl h))))))
  have HG : Hid (¬ (g < 1 ∨ 1152921504606846976 < g ∨ g % 2 ≠ at_ ∨ p.pages < r ∨ f < 1 ∨ 1152921504606846976 < f) → Pg.parse p.pages s at_ = if s ≠ hd then (0, 0, 0) else (g, (r : Int) - 1, f)) := Lib.hid (fun h => by
    rw [HP.out]
    by_cases hsd : s ≠ hd
    · rw [if_pos hsd, if_pos (.inr (.inr (.inr (.inr (.inr (.inr hsd))))))]
    · rw [if_neg hsd, if_neg]
      rintro (h' | h' | h' | h' | h' | h' | h')
      · exact h (.inl h')
      · exact h (.inr (.inl h'))
      · exact h (.inr (.inr (.inl h')))
      · exact h (.inr (.inr (.inr (.inl h'))))
      · exact h (.inr (.inr (.inr (.inr (.inl h')))))
      · exact h (.inr (.inr (.inr (.inr (.inr h')))))
      · exact hsd h')
  have hbs : (s == hd) = true ∨ (s == hd) = false := by cases (s == hd) <;> simp
  have HBS := Lib.hid hbs
  have HCMP := Lib.hid hcmp
  have HSD : Hid ((s == hd) = true ↔ s = hd) := Lib.hid (by simp)
  clear hcmp hbs HP
  go_enter Tryz.func45, Tryz.ntmps45
  go_wp2_with fail
  go_quiet (first | (go_at_call_of 84 s1; exact Calls.quiet_of_same ((m1 _).mono fun e w' h => ⟨h.1, h.2.symm⟩)) | (go_at_call_of 84 s2; exact Calls.quiet_of_same ((m2 _).mono fun e w' h => ⟨h.1, h.2.symm⟩)) | (go_at_call_of 84 s3; exact Calls.quiet_of_same ((m3 _).mono fun e w' h => ⟨h.1, h.2.symm⟩)))
  have Hn := H.drewN nq
  have Kn := (Keeps.refl w).drewN nq
  have c2n : (w.drewN nq).cell? ⟨pb, 2, none⟩ = some (.int .i64 p.pages) := c2
  generalize w.drewN nq = w1 at Hn Kn c2n ⊢
  clear c2 k1 k2 k3 m1 m2 m3
  go_wp2_with fail
  all_goals first
    | (go_ret3
       rw [HB.out (by omega)]
       exact .mk Hn Kn)
    | (refine (HH.out (by omega) (by omega) _).mono ?_
       rintro e w2 ⟨rfl, hb2⟩
       have H2 := Hn.below hb2
       have K2 := Kn.trans (Keeps.below hb2)
       have hgood := HG.out (by omega)
       have HGD := Lib.hid hgood
       have hcmp := HCMP.out
       clear hgood HCMP HB HG HH Hn Kn hb2
       rcases HBS.out with hbs | hbs
       · rw [hbs] at hcmp
         have hres : Pg.parse p.pages s at_ = (g, (r : Int) - 1, f) := by
           rw [HGD.out, if_neg (by rw [HSD.out.1 hbs]; simp)]
         have HRES := Lib.hid hres
         clear hres HGD HBS HSD hbs
         go_wp2_with fail
         go_ret3
         rw [HRES.out]
         exact .mk H2 K2
       · rw [hbs] at hcmp
         have hres : Pg.parse p.pages s at_ = (0, 0, 0) := by
           rw [HGD.out, if_pos (fun h => by rw [HSD.out.2 h] at hbs; cases hbs)]
         have HRES := Lib.hid hres
         clear hres HGD HBS HSD hbs
         go_wp2_with fail
         go_ret3
         rw [HRES.out]
         exact .mk H2 K2)
end Go.Proofs.YtmeepegllkhlcaaGreat
