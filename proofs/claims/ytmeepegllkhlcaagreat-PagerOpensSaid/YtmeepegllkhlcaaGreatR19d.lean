/-
  The document's pager: Open.
-/
import Derived.Test.YtmeepegllkhlcaaGreatR19c
namespace Go.Proofs.YtmeepegllkhlcaaGreat
open Go Go.RowKit Go.Maps

def ROpenTo (D : Dk) (first pages : Int) (rb : Nat) (F : HProp) (w : World) (e : Ending) (w' : World) : Prop :=
  match (Pg.open_ D first pages).1 with
  | none => Ret (.tuple #[.pointer none, .int .i64 (Pg.open_ D first pages).2]) (rdA rb D * F) w e w'
  | some p => ∃ qb, Ret (.tuple #[.pointer (some ⟨qb, 0, none⟩), .int .i64 0]) (rpA qb rb p * (rdA rb D * F)) w e w'
theorem useL_better (p : Pg) (h : Nat × Int × Nat) : useL (p.better h) = useL p := by
  unfold Pg.better
  split <;> rfl

/-- One head is looked at. -/
def Round (D : Dk) (first pages : Int) (qb rb : Nat) (F : HProp) (w : World) (k : Nat) (wr : World) : Prop :=
  Holds (rpA qb rb (openAt D first pages k) * (rdA rb D * F)) wr ∧ Keeps w wr

set_option maxRecDepth 100000 in
set_option maxHeartbeats 4000000 in
theorem ROpen_calls {rb : Nat} {D : Dk} {F : HProp} {w : World} (hD : D.Ok) (H : Holds (rdA rb D * F) w) (first pages : Int) (h1 : i64ok first) (h2 : i64ok pages) :
    Calls Tryz.prog 7 #[.pointer (some ⟨rb, 0, none⟩), .int .i64 first, .int .i64 pages] w (ROpenTo D first pages rb F w) := by
  obtain ⟨i1, hi1, hy0, hy1, hy2⟩ := info_parts Tryz_infoInt
  unfold i64ok at h1 h2
  have hck := Rform_calls hD H first pages 1 h1 h2 (by decide)
  obtain ⟨x0, hx0⟩ : ∃ x0, x0 = Pg.check D first pages 1 := ⟨_, rfl⟩
  rw [← hx0] at hck
  have HCK := Lib.hid hck
  clear hck
  by_cases z0 : x0 = 0
  · subst z0
    have hg : ¬ (first < 2 ∨ pages < 1 ∨ 4096 < pages ∨ (D.n : Int) < first ∨ (D.n : Int) - first < 8 * pages) := by
      intro h
      unfold Pg.check at hx0
      rw [if_pos (by omega)] at hx0
      cases hx0
    have hpp : ∃ pn : Nat, pages = (pn : Int) ∧ 1 ≤ pn ∧ pn ≤ 4096 := ⟨pages.toNat, by omega, by omega, by omega⟩
    obtain ⟨pn, rfl, hpn1, hpn2⟩ := hpp
    have hn2 : 2 ≤ D.n := by omega
    have HRC : Hid (∀ uv, rpCells (openAt D first (pn : Int) 0) rb uv = #[.pointer (some ⟨rb, 0, none⟩), .int .i64 first, .int .i64 pn, .int .i64 0, .int .i64 0, .int .i64 0, uv, .bool false]) := Lib.hid (fun uv => by
      unfold rpCells openAt
      simp only []
      rw [show ((first.toNat : Nat) : Int) = first from by omega]
      rfl)
    have HFR : Hid (useL (openAt D first (pn : Int) 0) = List.replicate pn 0) := Lib.hid (by rw [useL_none rfl rfl]; rfl)
    have HOP : Hid (Pg.open_ D first (pn : Int) = if (openAt D first (pn : Int) 2).gen = 0 then (none, 190) else (some (openAt D first (pn : Int) 2), 0)) := Lib.hid (by
      unfold Pg.open_
      rw [← hx0, if_neg (by decide)]
      rfl)
    clear hx0 h1 h2 hg
    go_enter Tryz.func7, Tryz.ntmps7
    go_wp2_with fail
    refine HCK.out.mono ?_
    rintro e w1 ⟨rfl, rfl⟩
    go_wp2_with (at_make; refine wpList_make_full _ rfl _ _ _ rfl 0 3 i1 (.int .i64 0) 1 Tryz.underlying38 hi1 hy0 hy1 .i64 .i64 (pn : Int) (pn : Int) pn rfl rfl rfl rfl (by rw [hy2]; omega) (by unfold maxLen; omega) (Nat.zero_le _) ?_; intro w7 hown7 hg7; rw [madeInts] at hown7)
    have H7 := rowI_made H (by omega) hown7 hg7
    obtain ⟨g7, hg7d⟩ : ∃ g7, g7 = w.heap.size := ⟨_, rfl⟩
    rw [← hg7d] at H7 ⊢
    have H8 := H7.alloc (.cells #[.pointer (some ⟨rb, 0, none⟩), .int .i64 first, .int .i64 pn, .int .i64 0, .int .i64 0, .int .i64 0, .slice (some ⟨g7, 0, none⟩) pn pn, .bool false] 40)
    have K8 := (Keeps.grown hg7).alloc (.cells #[.pointer (some ⟨rb, 0, none⟩), .int .i64 first, .int .i64 pn, .int .i64 0, .int .i64 0, .int .i64 0, .slice (some ⟨g7, 0, none⟩) pn pn, .bool false] 40)
    obtain ⟨qb, hqb⟩ : ∃ qb, qb = w7.heap.size := ⟨_, rfl⟩
    rw [← hqb] at H8 ⊢
    have H9 : Round D first (pn : Int) qb rb F w 0 (w7.alloc (.cells #[.pointer (some ⟨rb, 0, none⟩), .int .i64 first, .int .i64 pn, .int .i64 0, .int .i64 0, .int .i64 0, .slice (some ⟨g7, 0, none⟩) pn pn, .bool false] 40)) := by
      refine ⟨rpA_open.2 ⟨.slice (some ⟨g7, 0, none⟩) pn pn, ?_⟩, K8⟩
      rw [HFR.out, HRC.out]
      exact H8
    clear H7 H8 K8 hown7 hg7 hg7d hqb HCK HRC HFR H
    go_loopw [10] (fun i wr => ∃ k : Nat, k ≤ 2 ∧ i = .int .i64 k ∧ Round D first (pn : Int) qb rb F w k wr) (fun i _ => 2 - (intOf i).toNat)
    case atStart => exact ⟨0, by omega, rfl, H9⟩
    case round =>
      clear H9
      obtain ⟨k, hk, rfl, HRk⟩ := hrel
      by_cases hlt : k < 2
      · obtain ⟨HR, hKr⟩ := HRk
        have hsec := RA_Sector hD HR.right k (by omega)
        obtain ⟨s, hs⟩ : ∃ s, s = D.sec k := ⟨_, rfl⟩
        have hs64 : s.length = 64 := by rw [hs]; exact Dk.sec_length hD (by omega)
        rw [← hs] at hsec
        have hnext : openAt D first (pn : Int) (k + 1) = (openAt D first (pn : Int) k).better (Pg.parse pn s k) := by rw [hs]; rfl
        obtain ⟨q, hq⟩ : ∃ q, q = openAt D first (pn : Int) k := ⟨_, rfl⟩
        rw [← hq] at hnext HR
        have HNX := Lib.hid hnext
        clear hs hnext hq
        have k1 : ∀ w, (Instr.slice 9 (strV s) (some (.int .i64 4)) (some (.int .i64 12)) none).run Tryz.prog w = .ok (strV ((s.drop 4).take (12 - 4))) w := fun w => run_text_cut s 4 12 (by omega) (by omega) w
        have k2 : ∀ w, (Instr.slice 9 (strV s) (some (.int .i64 12)) (some (.int .i64 16)) none).run Tryz.prog w = .ok (strV ((s.drop 12).take (16 - 12))) w := fun w => run_text_cut s 12 16 (by omega) (by omega) w
        have k3 : ∀ w, (Instr.slice 9 (strV s) (some (.int .i64 16)) (some (.int .i64 24)) none).run Tryz.prog w = .ok (strV ((s.drop 16).take (24 - 16))) w := fun w => run_text_cut s 16 24 (by omega) (by omega) w
        have q1 : (Pg.sub s 4 12).length = 8 := sub_length _ _ _ (by omega)
        have q2 : (Pg.sub s 12 16).length = 4 := sub_length _ _ _ (by omega)
        have q3 : (Pg.sub s 16 24).length = 8 := sub_length _ _ _ (by omega)
        have m1 := fun w => number_calls (Pg.sub s 4 12) (by omega) w
        have m2 := fun w => number_calls (Pg.sub s 12 16) (by omega) w
        have m3 := fun w => number_calls (Pg.sub s 16 24) (by omega) w
        have t1 := numP_test q1
        have t3 := numP_test q3
        have u1 := numP_eq q1
        have u3 := numP_eq q3
        have u2 := numP_small (s := Pg.sub s 12 16) (by omega)
        have l2 := beN_lt 4 (Pg.sub s 12 16)
        rw [List.take_of_length_le (by omega)] at l2
        have hpar : Pg.parse pn s k = (if Pg.beN (Pg.sub s 4 12) < 1 ∨ 1152921504606846976 < Pg.beN (Pg.sub s 4 12) ∨ Pg.beN (Pg.sub s 4 12) % 2 ≠ k ∨ pn < Pg.beN (Pg.sub s 12 16) ∨ Pg.beN (Pg.sub s 16 24) < 1 ∨ 1152921504606846976 < Pg.beN (Pg.sub s 16 24)
            ∨ s ≠ headL (Pg.beN (Pg.sub s 4 12)) (Pg.beN (Pg.sub s 12 16)) (Pg.beN (Pg.sub s 16 24)) then (0, 0, 0)
          else (Pg.beN (Pg.sub s 4 12), (Pg.beN (Pg.sub s 12 16) : Int) - 1, Pg.beN (Pg.sub s 16 24))) := rfl
        have b1 : -1 ≤ numP (Pg.sub s 4 12) ∧ numP (Pg.sub s 4 12) ≤ 9223372036854775807 := by
          unfold numP
          have h1 := beN_take_succ (Pg.sub s 4 12) 7 (by omega)
          rw [List.take_of_length_le (by omega)] at h1
          have := ((Pg.sub s 4 12).getD 7 0).toNat_lt
          rw [q1]
          split
          · omega
          · rename_i h
            have : ¬ 4503599627370496 < Pg.beN ((Pg.sub s 4 12).take 7) := h
            omega
        have b3 : -1 ≤ numP (Pg.sub s 16 24) ∧ numP (Pg.sub s 16 24) ≤ 9223372036854775807 := by
          unfold numP
          have h1 := beN_take_succ (Pg.sub s 16 24) 7 (by omega)
          rw [List.take_of_length_le (by omega)] at h1
          have := ((Pg.sub s 16 24).getD 7 0).toNat_lt
          rw [q3]
          split
          · omega
          · rename_i h
            have : ¬ 4503599627370496 < Pg.beN ((Pg.sub s 16 24).take 7) := h
            omega
        unfold Pg.sub at hpar m1 m2 m3 t1 t3 u1 u2 u3 l2 b1 b3
        rw [u2] at m2
        obtain ⟨s1, hs1⟩ : ∃ s1 : ByteArray, strV ((s.drop 4).take (12 - 4)) = .string s1 := ⟨_, rfl⟩
        obtain ⟨s2, hs2⟩ : ∃ s1 : ByteArray, strV ((s.drop 12).take (16 - 12)) = .string s1 := ⟨_, rfl⟩
        obtain ⟨s3, hs3⟩ : ∃ s1 : ByteArray, strV ((s.drop 16).take (24 - 16)) = .string s1 := ⟨_, rfl⟩
        rw [hs1] at k1 m1
        rw [hs2] at k2 m2
        rw [hs3] at k3 m3
        obtain ⟨g, hg⟩ : ∃ g, g = Pg.beN ((s.drop 4).take (12 - 4)) := ⟨_, rfl⟩
        obtain ⟨r, hr⟩ : ∃ g, g = Pg.beN ((s.drop 12).take (16 - 12)) := ⟨_, rfl⟩
        obtain ⟨f, hf⟩ : ∃ g, g = Pg.beN ((s.drop 16).take (24 - 16)) := ⟨_, rfl⟩
        obtain ⟨G, hG⟩ : ∃ G, G = numP ((s.drop 4).take (12 - 4)) := ⟨_, rfl⟩
        obtain ⟨M, hM⟩ : ∃ G, G = numP ((s.drop 16).take (24 - 16)) := ⟨_, rfl⟩
        rw [← hG] at m1 t1 u1 b1
        rw [← hM] at m3 t3 u3 b3
        rw [← hg] at t1 u1
        rw [← hr] at m2 l2
        rw [← hf] at t3 u3
        rw [← hg, ← hr, ← hf] at hpar
        have l2' : r < 4294967296 := l2
        clear hg hr hf hG hM hs1 hs2 hs3 q1 q2 q3 u2 l2
        have HT1 := Lib.hid t1
        have HT3 := Lib.hid t3
        have HU1 := Lib.hid u1
        have HU3 := Lib.hid u3
        have HP := Lib.hid hpar
        clear t1 t3 u1 u3 hpar
        obtain ⟨sb, hsb⟩ : ∃ sb : ByteArray, strV s = .string sb := ⟨_, rfl⟩
        have Hsb := Lib.hid hsb
        rw [hsb] at k1 k2 k3 hsec
        have HSEC := Lib.hid hsec
        have hki : (k : Int) < 2 := by omega
        clear hsb hsec
        go_wp2_with fail
        refine HSEC.out.mono ?_
        rintro e w2 ⟨rfl, rfl⟩
        go_wp2_with fail
        have n1 : -9223372036854775808 ≤ (r : Int) - 1 ∧ (r : Int) - 1 ≤ 9223372036854775807 := by omega
        go_quiet (first | (go_at_call_of 48 s1; exact Calls.quiet_of_same ((m1 _).mono fun e w' h => ⟨h.1, h.2.symm⟩)) | (go_at_call_of 48 s2; exact Calls.quiet_of_same ((m2 _).mono fun e w' h => ⟨h.1, h.2.symm⟩)) | (go_at_call_of 48 s3; exact Calls.quiet_of_same ((m3 _).mono fun e w' h => ⟨h.1, h.2.symm⟩)))
        have Hn := HR.drewN nq
        have Kn := hKr.drewN nq
        generalize wr.drewN nq = w3 at Hn Kn ⊢
        clear k1 k2 k3 m1 m2 m3 HR hKr HSEC
        have HBAD : Hid ((g < 1 ∨ 1152921504606846976 < g ∨ g % 2 ≠ k ∨ pn < r ∨ f < 1 ∨ 1152921504606846976 < f ∨ s ≠ headL g r f) → Round D first (pn : Int) qb rb F w (k + 1) w3) := Lib.hid (fun h => by
          refine ⟨?_, Kn⟩
          rw [HNX.out, HP.out, if_pos h]
          have : q.better (0, 0, 0) = q := by
            unfold Pg.better
            rw [if_neg (Nat.not_lt_zero _)]
          rw [this]
          exact Hn)
        by_cases g1 : G < 1
        · have hbd := HBAD.out (by have := HT1.out.1 (.inl g1); omega)
          have HBD := Lib.hid hbd
          clear hbd Hn Kn
          go_wp2_with fail
          go_roundw
          case rel => exact ⟨k + 1, by omega, by go_num, HBD.out⟩
          case measure => simp [intOf]; omega
        by_cases g2 : 1152921504606846976 < G
        · have hbd := HBAD.out (by have := HT1.out.1 (.inr g2); omega)
          have HBD := Lib.hid hbd
          have g1' : 1 ≤ G := by omega
          clear hbd Hn Kn g1
          go_wp2_with fail
          go_roundw
          case rel => exact ⟨k + 1, by omega, by go_num, HBD.out⟩
          case measure => simp [intOf]; omega
        have hgg : G = (g : Int) := HU1.out (fun h => by have := HT1.out.2 h; omega)
        subst hgg
        have g1' : 1 ≤ (g : Int) := by omega
        have g2' : (g : Int) ≤ 1152921504606846976 := by omega
        clear g1 g2
        by_cases g3 : g % 2 = k
        · have g3' : (((g : Int) % 2) != (k : Int)) = false := by rw [bne_eq_false_iff_eq]; omega
          by_cases g4 : pn < r
          · have hbd := HBAD.out (.inr (.inr (.inr (.inl g4))))
            have HBD := Lib.hid hbd
            have g4' : (pn : Int) ≤ (r : Int) - 1 := by omega
            clear hbd Hn Kn
            go_wp2_with fail
            go_roundw
            case rel => exact ⟨k + 1, by omega, by go_num, HBD.out⟩
            case measure => simp [intOf]; omega
          have g4' : (r : Int) - 1 < (pn : Int) := by omega
          by_cases g5 : M < 1
          · have hbd := HBAD.out (by have := HT3.out.1 (.inl g5); omega)
            have HBD := Lib.hid hbd
            clear hbd Hn Kn g4
            go_wp2_with fail
            go_roundw
            case rel => exact ⟨k + 1, by omega, by go_num, HBD.out⟩
            case measure => simp [intOf]; omega
          by_cases g6 : 1152921504606846976 < M
          · have hbd := HBAD.out (by have := HT3.out.1 (.inr g6); omega)
            have HBD := Lib.hid hbd
            have g5' : 1 ≤ M := by omega
            clear hbd Hn Kn g4 g5
            go_wp2_with fail
            go_roundw
            case rel => exact ⟨k + 1, by omega, by go_num, HBD.out⟩
            case measure => simp [intOf]; omega
          have hmm : M = (f : Int) := HU3.out (fun h => by have := HT3.out.2 h; omega)
          subst hmm
          have g5' : 1 ≤ (f : Int) := by omega
          have g6' : (f : Int) ≤ 1152921504606846976 := by omega
          clear g5 g6 g4
          obtain ⟨hd, hhd⟩ : ∃ hd, hd = headL g r f := ⟨_, rfl⟩
          have hh := fun w => RHead_calls g r f (by omega) (by omega) (by omega) w
          rw [← hhd] at hh
          obtain ⟨hb, hhb⟩ : ∃ sb : ByteArray, strV hd = .string sb := ⟨_, rfl⟩
          rw [hhb] at hh
          have hcmp : (sb.toList == hb.toList) = (s == hd) := by
            have h1 := Hsb.out
            injection h1 with h1
            injection hhb with h2
            rw [← h1, ← h2, toList_mk, toList_mk]
          have HH := Lib.hid hh
          have HHD := Lib.hid hhd
          by_cases g7 : s = hd
          · have hb7 : (sb.toList == hb.toList) = true := by rw [hcmp]; simpa using g7
            have hnx : openAt D first (pn : Int) (k + 1) = q.better (g, (r : Int) - 1, f) := by
              rw [HNX.out, HP.out, if_neg]
              rintro (h | h | h | h | h | h | h)
              · omega
              · omega
              · omega
              · omega
              · omega
              · omega
              · exact h (by rw [g7, HHD.out])
            have HN2 := Lib.hid hnx
            clear hh hhd hhb hcmp g7 hnx HBAD
            obtain ⟨uv, HX⟩ := rpA_open.1 Hn
            by_cases g8 : q.gen < g
            · have hbet : q.better (g, (r : Int) - 1, f) = { q with gen := g, root := (r : Int) - 1, frm := f } := by
                unfold Pg.better
                rw [if_pos g8]
              have HB2 := Lib.hid hbet
              have g8' : ((q.gen : Nat) : Int) < (g : Int) := by omega
              clear hbet HX g8
              go_wp2_with fail
              refine (HH.out _).mono ?_
              rintro e w4 ⟨rfl, hb4⟩
              have H4 := Holds_below Hn (Nat.le_refl _) hb4
              have K4 := Kn.trans (Keeps.below hb4)
              obtain ⟨uv, HX⟩ := rpA_open.1 H4
              have c5 := HX.cell 5 (v := .int .i64 q.gen) rfl
              have c3 := HX.cell 3 (v := .int .i64 q.root) rfl
              have c4 := HX.cell 4 (v := .int .i64 q.frm) rfl
              have f5 := HX.unfz 5
              have f3 := HX.unfz 3
              have f4 := HX.unfz 4
              have H5 := ((HX.setCell (off := 5) (.int .i64 g)).setCell (off := 3) (.int .i64 ((r : Int) - 1))).setCell (off := 4) (.int .i64 f)
              have K5 := ((K4.setCell ⟨qb, 5, none⟩ (.int .i64 g)).setCell ⟨qb, 3, none⟩ (.int .i64 ((r : Int) - 1))).setCell ⟨qb, 4, none⟩ (.int .i64 f)
              have H6 : Hid (Round D first (pn : Int) qb rb F w (k + 1) (((w4.setCell ⟨qb, 5, none⟩ (.int .i64 g)).setCell ⟨qb, 3, none⟩ (.int .i64 ((r : Int) - 1))).setCell ⟨qb, 4, none⟩ (.int .i64 f))) := Lib.hid (by
                refine ⟨?_, K5⟩
                rw [HN2.out, HB2.out]
                exact rpA_open.2 ⟨uv, H5⟩)
              clear HX H5 K5 H4 K4 Hn Kn hb4 HH
              go_wp2_with fail
              go_roundw
              case rel => exact ⟨k + 1, by omega, by go_num, H6.out⟩
              case measure => simp [intOf]; omega
            · have hbet : q.better (g, (r : Int) - 1, f) = q := by
                unfold Pg.better
                rw [if_neg g8]
              have HB2 := Lib.hid hbet
              have g8' : (g : Int) ≤ ((q.gen : Nat) : Int) := by omega
              clear hbet HX g8
              go_wp2_with fail
              refine (HH.out _).mono ?_
              rintro e w4 ⟨rfl, hb4⟩
              have H4 := Holds_below Hn (Nat.le_refl _) hb4
              have K4 := Kn.trans (Keeps.below hb4)
              obtain ⟨uv, HX⟩ := rpA_open.1 H4
              have c5 := HX.cell 5 (v := .int .i64 q.gen) rfl
              have H6 : Hid (Round D first (pn : Int) qb rb F w (k + 1) w4) := Lib.hid (by
                refine ⟨?_, K4⟩
                rw [HN2.out, HB2.out]
                exact H4)
              clear HX H4 K4 Hn Kn hb4 HH
              go_wp2_with fail
              go_roundw
              case rel => exact ⟨k + 1, by omega, by go_num, H6.out⟩
              case measure => simp [intOf]; omega
          · have hb7 : (sb.toList == hb.toList) = false := by rw [hcmp]; simpa using g7
            have hbb : (g < 1 ∨ 1152921504606846976 < g ∨ g % 2 ≠ k ∨ pn < r ∨ f < 1 ∨ 1152921504606846976 < f ∨ s ≠ headL g r f) := .inr (.inr (.inr (.inr (.inr (.inr (by rw [← hhd]; exact g7))))))
            have hpb : Pg.parse pn s k = (0, 0, 0) := by rw [HP.out, if_pos hbb]
            have HPB := Lib.hid hpb
            clear hh hhd hhb hcmp g7 hbb hpb HBAD
            go_wp2_with fail
            refine (HH.out _).mono ?_
            rintro e w4 ⟨rfl, hb4⟩
            have H4 := Holds_below Hn (Nat.le_refl _) hb4
            have K4 := Kn.trans (Keeps.below hb4)
            have H6 : Hid (Round D first (pn : Int) qb rb F w (k + 1) w4) := Lib.hid (by
              refine ⟨?_, K4⟩
              rw [HNX.out, HPB.out]
              have : q.better (0, 0, 0) = q := by
                unfold Pg.better
                rw [if_neg (Nat.not_lt_zero _)]
              rw [this]
              exact H4)
            clear H4 K4 Hn Kn hb4 HH
            go_wp2_with fail
            go_roundw
            case rel => exact ⟨k + 1, by omega, by go_num, H6.out⟩
            case measure => simp [intOf]; omega
        · have hbd := HBAD.out (.inr (.inr (.inl g3)))
          have HBD := Lib.hid hbd
          have g3' : (((g : Int) % 2) != (k : Int)) = true := by rw [bne_iff_ne]; omega
          clear hbd Hn Kn g3
          go_wp2_with fail
          go_roundw
          case rel => exact ⟨k + 1, by omega, by go_num, HBD.out⟩
          case measure => simp [intOf]; omega
      · obtain rfl : k = 2 := by omega
        obtain ⟨HR, hKr⟩ := HRk
        obtain ⟨q, hq⟩ : ∃ q, q = openAt D first (pn : Int) 2 := ⟨_, rfl⟩
        rw [← hq] at HR
        have hop := HOP.out
        rw [← hq] at hop
        obtain ⟨uv, HX⟩ := rpA_open.1 HR
        have c5 := HX.cell 5 (v := .int .i64 q.gen) rfl
        have HOP2 := Lib.hid hop
        clear HX hop hq HOP
        by_cases g8 : q.gen = 0
        · have hres : Pg.open_ D first (pn : Int) = (none, 190) := by rw [HOP2.out, if_pos g8]
          have HRES := Lib.hid hres
          rw [g8] at c5
          clear hres g8
          go_wp2_with fail
          go_ret2
          unfold ROpenTo
          rw [HRES.out]
          exact .mk HR.right hKr
        · have hres : Pg.open_ D first (pn : Int) = (some q, 0) := by rw [HOP2.out, if_neg g8]
          have HRES := Lib.hid hres
          have g8' : ((q.gen : Int) == 0) = false := by rw [beq_eq_false_iff_ne]; omega
          clear hres g8
          go_wp2_with fail
          go_ret2
          unfold ROpenTo
          rw [HRES.out]
          exact ⟨qb, .mk HR hKr⟩
  · have hres : Pg.open_ D first pages = (none, x0) := by
      unfold Pg.open_
      rw [← hx0, if_pos z0]
    have hb : (x0 != 0) = true := by simpa using z0
    have Hres := Lib.hid hres
    clear hres z0 hx0
    go_enter Tryz.func7, Tryz.ntmps7
    go_wp2_with fail
    refine HCK.out.mono ?_
    rintro e w1 ⟨rfl, rfl⟩
    go_wp2_with fail
    go_ret2
    unfold ROpenTo
    rw [Hres.out]
    exact .mk H (.refl _)
end Go.Proofs.YtmeepegllkhlcaaGreat
