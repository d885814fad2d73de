/-
  The document's disk: Write, Sync, New.
-/
import Derived.Test.YtmeepegllkhlcaaGreatR17d
namespace Go.Proofs.YtmeepegllkhlcaaGreat
open Go Go.RowKit Go.Maps

theorem wrL_put (D : Dk) (i : Nat) (s : Bs) : wrL (D.put i s) = (wrL D).set i s := by
  unfold wrL Dk.put
  simp only [List.map_set, Option.getD_some]

/-- 's[64*k:64*k+64]' -/
theorem run_chunk (s : Bs) (k : Nat) (h : 64 * k + 64 ≤ s.length) (w : World) : (Instr.slice 9 (strV s) (some (.int .i64 (64 * (k : Int)))) (some (.int .i64 (64 * (k : Int) + 64))) none).run Tryz.prog w = .ok (strV ((s.drop (64 * k)).take 64)) w := by
  have := run_text_cut s (64 * k) (64 * k + 64) (by omega) h w
  rw [Nat.add_sub_cancel_left] at this
  rw [← this]
  congr 4
  all_goals omega

set_option maxRecDepth 100000 in
set_option maxHeartbeats 1000000 in
theorem RWrite_calls {rb : Nat} {D : Dk} {F : HProp} {w : World} (hD : D.Ok) (H : Holds (rdA rb D * F) w) (at_ : Int) (ha : i64ok at_) (s : Bs) (hs : s.length ≤ 140737488355328) :
    Calls Tryz.prog 55 #[.pointer (some ⟨rb, 0, none⟩), .int .i64 at_, strV s] w (Ret (.int .i64 (D.write at_ s).2) (rdA rb (D.write at_ s).1 * F) w) := by
  have H0 := H
  have hn : D.n ≤ 4096 := hD.most
  unfold i64ok at ha
  obtain ⟨kv, H⟩ := rdA_B.1 H
  obtain ⟨sv, wv, H⟩ := rdB_open.1 H
  obtain ⟨sg, sc, wg, wc, rfl, hsc, rfl, hwc, _, _⟩ := rd_rows hD H
  have c4 := H.cell 4 (v := .bool D.dead) rfl
  have c0 := H.cell 0 (v := .slice (some ⟨sg, 0, none⟩) D.n sc) rfl
  have hsz : (⟨s.toArray⟩ : ByteArray).size = s.length := by simp [ByteArray.size]
  clear H
  cases hdead : D.dead with
  | true =>
    rw [hdead] at c4
    have hfin : Ret (.int .i64 (D.write at_ s).2) (rdA rb (D.write at_ s).1 * F) w (.returned (.int .i64 2)) w := by
      simp only [Dk.write, hdead, if_true]; exact .mk H0 (.refl _)
    clear hdead hsz
    unfold strV
    go_enter Tryz.func55, Tryz.ntmps55
    go_wp2_with fail
    go_ret
    exact hfin
  | false =>
    rw [hdead] at c4
    by_cases hlong : s.length % 64 ≠ 0
    · have hfin : Ret (.int .i64 (D.write at_ s).2) (rdA rb (D.write at_ s).1 * F) w (.returned (.int .i64 172)) w := by
        simp only [Dk.write, hdead, hlong, if_true, Bool.false_eq_true, if_false, ne_eq, not_false_eq_true]; exact .mk H0 (.refl _)
      clear hdead hsz
      have h1 : ((s.length : Int) % 64 == 0) = false := by
        rw [beq_eq_false_iff_ne]; omega
      have h2 : (((s.length : Int) % 64) != 0) = true := by
        rw [bne_iff_ne]; omega
      clear hlong
      unfold strV
      go_enter Tryz.func55, Tryz.ntmps55
      go_wp2_with fail
      go_ret
      exact hfin
    · have hl2 : s.length % 64 = 0 := by omega
      clear hlong
      obtain ⟨m, hm⟩ : ∃ m, m = s.length / 64 := ⟨_, rfl⟩
      have hsm : s.length = 64 * m := by omega
      have h1 : (((s.length : Int) % 64) != 0) = false := by
        rw [bne_eq_false_iff_eq]; omega
      have h2 : (s.length : Int) / 64 = (m : Int) := by omega
      have hbadeq : (at_ < 0 ∨ (D.n : Int) < at_ ∨ (D.n : Int) - at_ < (m : Int)) ∨ ¬ (at_ < 0 ∨ (D.n : Int) < at_ ∨ (D.n : Int) - at_ < (m : Int)) := Classical.em _
      rcases hbadeq with hbad | hgood
      · have hfin : Ret (.int .i64 (D.write at_ s).2) (rdA rb (D.write at_ s).1 * F) w (.returned (.int .i64 171)) w := by
          simp only [Dk.write, hdead, hl2, ← hm, hbad, if_true, Bool.false_eq_true, if_false, ne_eq, not_true_eq_false]; exact .mk H0 (.refl _)
        have Hsm := Lib.hid hsm
        clear hdead hsz hl2 hm hsm
        by_cases g1 : at_ < 0
        · clear hbad
          unfold strV
          go_enter Tryz.func55, Tryz.ntmps55
          go_wp2_with fail
          go_ret
          exact hfin
        · by_cases g2 : (D.n : Int) < at_
          · clear hbad
            unfold strV
            go_enter Tryz.func55, Tryz.ntmps55
            go_wp2_with fail
            go_ret
            exact hfin
          · have g3 : (D.n : Int) - at_ < (m : Int) := by omega
            clear hbad
            unfold strV
            go_enter Tryz.func55, Tryz.ntmps55
            go_wp2_with fail
            go_ret
            exact hfin
      · have g1 : 0 ≤ at_ := by omega
        obtain ⟨a, rfl⟩ := Int.eq_ofNat_of_zero_le g1
        have g2 : a ≤ D.n := by omega
        have g3 : m ≤ D.n - a := by omega
        have hres : D.write (a : Int) s = D.writeGo a (Dk.chunks s) := by
          simp only [Dk.write, hdead, hl2, ← hm, hgood, Bool.false_eq_true, if_false, ne_eq, not_true_eq_false, Int.toNat_natCast]
        rw [hres]
        have hd1 : decide (D.n < a) = false := by simp; omega
        have hd2 : decide ((a : Int) < 0) = false := by simp
        have hd4 : decide ((D.n : Int) - (a : Int) < (m : Int)) = false := by simp; omega
        have Hcl : Hid ((Dk.chunks s).length = m) := Lib.hid (by rw [Dk.chunks_length, hm])
        have Hsm := Lib.hid hsm
        have Hm := Lib.hid hm
        have hlb : s.length ≤ 300000 := by omega
        have hcut : ∀ k, k < m → ∀ w : World, (Instr.slice 9 (strV s) (some (.int .i64 (64 * (k : Int)))) (some (.int .i64 (64 * (k : Int) + 64))) none).run Tryz.prog w = .ok (strV ((s.drop (64 * k)).take 64)) w :=
          fun k hk w => run_chunk s k (by omega) w
        have Hcut := Lib.hid hcut
        clear hcut hres hdead hsz hl2 hm hsm hgood g1 ha
        unfold strV
        go_enter Tryz.func55, Tryz.ntmps55
        go_wp2_with fail
        clear h1 hd1 hd2 hd4 c4 c0
        go_loopw [7, 8] (fun i _ wr => ∃ (k : Nat) (E : Dk), k ≤ m ∧ i = .int .i64 k ∧ E.Ok ∧ E.n = D.n ∧ D.writeGo a (Dk.chunks s) = E.writeGo (a + k) ((Dk.chunks s).drop k) ∧ Holds (rdA rb E * F) wr ∧ Keeps w wr) (fun i _ _ => m - (intOf i).toNat)
        case atStart => exact ⟨0, D, Nat.zero_le _, rfl, hD, rfl, rfl, H0, .refl _⟩
        case round =>
          clear H0
          obtain ⟨k, E, hk, rfl, hE, hEn, hgo, HR, hKr⟩ := hrel
          have Hgo := Lib.hid hgo
          have HEn := Lib.hid hEn
          clear hgo hEn
          by_cases hlt : k < m
          · obtain ⟨c, hc⟩ : ∃ c, c = (s.drop (64 * k)).take 64 := ⟨_, rfl⟩
            have hcut := Hcut.out k hlt wr.drew
            rw [← hc] at hcut
            have hchunk := Dk.chunks_at s k (by have := Hm.out; omega)
            rw [← hc] at hchunk
            have Hc := Lib.hid hc
            have Hch := Lib.hid hchunk
            clear hc hchunk
            have hi : a + k < E.n := by have := HEn.out; omega
            have hc64 : c.length = 64 := by
              rw [Hc.out, List.length_take, List.length_drop]
              have := Hsm.out
              omega
            have hdrop : (Dk.chunks s).drop k = c :: (Dk.chunks s).drop (k + 1) := by
              have hl : k < (Dk.chunks s).length := by have := Hcl.out; omega
              rw [List.drop_eq_getElem_cons hl]
              have := Hch.out
              rw [List.getElem?_eq_getElem hl] at this
              injection this with this
              rw [this]
            have hgo2 := Hgo.out
            rw [hdrop] at hgo2
            rw [Dk.writeGo_cons] at hgo2
            have HW : Holds (rdA rb E * F) wr.drew := HR.drew
            obtain ⟨kv1, HW⟩ := rdA_B.1 HW
            obtain ⟨sv1, wv1, HW⟩ := rdB_open.1 HW
            obtain ⟨sg1, sc1, wg1, wc1, rfl, _, rfl, _, _, hw1⟩ := rd_rows hE HW
            have d1 := HW.cell 1 (v := .slice (some ⟨wg1, 0, none⟩) E.n wc1) rfl
            have q1 := hw1 (a + k) hi
            have hq : ∃ u, wr.drew.cell? ⟨wg1, a + k, none⟩ = some u := ⟨_, q1⟩
            obtain ⟨u, q2⟩ := hq
            have HW2 := HW
            rw [show ∀ A B C G : HProp, A * (B * (C * G)) = C * (A * (B * G)) from by intro A B C G; ac_rfl] at HW2
            have u1 := rowS_unfz HW2 (a + k)
            have hset := rowS_set HW2 (a + k) (by rw [wrL_length hE]; exact hi) c
            have hput : Holds (rdA rb (E.put (a + k) c) * F) (wr.drew.setCell ⟨wg1, a + k, none⟩ (strV c)) := by
              refine rdA_B.2 ⟨kv1, rdB_open.2 ⟨.slice (some ⟨sg1, 0, none⟩) E.n sc1, .slice (some ⟨wg1, 0, none⟩) E.n wc1, ?_⟩⟩
              rw [show ∀ A B C G : HProp, C * (A * (B * G)) = A * (B * (C * G)) from by intro A B C G; ac_rfl] at hset
              rw [wrL_put]
              exact hset
            have hKd := (hKr.drew).setCell ⟨wg1, a + k, none⟩ (strV c)
            unfold strV at hput hKd
            have Hgo2 := Lib.hid hgo2
            have Hdrop := Lib.hid hdrop
            have Hc64 := Lib.hid hc64
            have Hput := Lib.hid hput
            have hi2 : (a : Int) + (k : Int) < ((E.n : Nat) : Int) := by omega
            clear hgo2 hdrop hc64 hput hset HW HW2 hw1 q1 HR hKr
            go_wp2_with fail
            refine region_tail 15 (by kernel_rfl) (by kernel_rfl) ?_
            simp only [List.take_succ_cons, List.take_zero, List.drop_succ_cons, List.drop_zero]
            generalize wr.drew = w2 at d1 q2 u1 hKd hcut Hput ⊢
            have hw1 : IntKind.i64.wrap ((a : Int) + (k : Int)) = (a : Int) + (k : Int) := IntWalk.i64_in _ (by omega)
            have hw2 : IntKind.i64.wrap (64 * (k : Int)) = 64 * (k : Int) := IntWalk.i64_in _ (by omega)
            have hw3 : IntKind.i64.wrap (64 * (k : Int) + 64) = 64 * (k : Int) + 64 := IntWalk.i64_in _ (by omega)
            have f1 : (0 : Int) ≤ 64 * (k : Int) := by omega
            have f2 : (0 : Int) ≤ (a : Int) + (k : Int) := by omega
            have f3 : ((a : Int) + (k : Int)).toNat = a + k := by omega
            unfold strV at hcut
            repeat still_step
            refine wpStill_nil ?_
            clear hw1 hw2 hw3 f1 f2 f3 hcut d1
            go_wp2_with fail
            generalize World.setCell _ _ _ = w3 at Hput hKd ⊢
            have H4 := Hput.out
            have hE2 := hE.put (a + k) Hc64.out
            have hst := RA_step hE2 H4
            clear q2 u1 Hput
            by_cases hgone : E.armed = 1
            · have hg' : (E.put (a + k) c).gone = true := by simp [Dk.gone, Dk.put, hgone]
              rw [hg'] at hst
              have hres := Hgo2.out
              rw [if_pos hgone] at hres
              have hst' := Lib.hid hst
              have Hres := Lib.hid hres
              clear hst hres hg' hgone
              go_wp2_with fail
              refine hst'.out.mono ?_
              rintro e w4 ⟨rfl, H5, K5⟩
              have K6 := hKd.trans K5
              obtain ⟨kv2, H5⟩ := rdA_B.1 H5
              obtain ⟨ak, ck, hkv, _⟩ : ∃ a' c', kv2 = .slice a' (E.put (a + k) c).stepD.kept.length c' ∧ True := by
                have := H5.right
                obtain ⟨a', c', hv, _⟩ := intsA_cells this
                exact ⟨a', c', hv, trivial⟩
              subst hkv
              have hd := RA_die_kept hE2.stepD H5
              obtain ⟨sv2, wv2, H6⟩ := rdB_open.1 H5
              have d3 := H6.cell 3 (v := .slice ak (E.put (a + k) c).stepD.kept.length ck) rfl
              have hkk : (E.put (a + k) c).stepD.kept = E.kept := by rw [Dk.stepD_kept]; rfl
              rw [hkk] at hd d3
              have hd' := Lib.hid hd
              clear hd H5 H6 hkk hst' K5 H4
              go_wp2_with fail
              refine hd'.out.mono ?_
              rintro e w5 ⟨rfl, H7, K7⟩
              have K8 := K6.trans K7
              go_wp2_with fail
              go_ret
              rw [Hres.out]
              exact .mk H7 K8
            · have hg' : (E.put (a + k) c).gone = false := by simp [Dk.gone, Dk.put, hgone]
              rw [hg'] at hst
              have hres := Hgo2.out
              rw [if_neg hgone] at hres
              have hst' := Lib.hid hst
              have Hres := Lib.hid hres
              clear hst hres hg' hgone
              go_wp2_with fail
              refine hst'.out.mono ?_
              rintro e w4 ⟨rfl, H5, K5⟩
              have K6 := hKd.trans K5
              clear hst' K5 H4
              go_wp2_with fail
              go_roundw
              case rel => exact ⟨k + 1, (E.put (a + k) c).stepD, by omega, by go_num, hE2.stepD, by rw [Dk.stepD_n, Dk.put_n]; exact HEn.out, by rw [Hres.out]; rfl, H5, K6⟩
              case measure => simp [intOf]; omega
          · obtain rfl : k = m := by omega
            have hres := Hgo.out
            rw [List.drop_of_length_le (Nat.le_of_eq Hcl.out)] at hres
            have Hres := Lib.hid hres
            clear hres
            go_wp2_with fail
            go_ret
            rw [Hres.out]
            exact .mk HR hKr

/-! ### Sync -/
namespace Dk
/-- One sector is made safe. -/
def fix (D : Dk) (i : Nat) : Dk := { D with safe := D.safe.set i (D.sec i), wr := D.wr.set i none }
theorem fix_n (D : Dk) (i : Nat) : (D.fix i).n = D.n := by show (D.safe.set i _).length = _; rw [List.length_set]; rfl
theorem fix_w? {D : Dk} (h : D.Ok) {i : Nat} (hi : i < D.n) (j : Nat) : (D.fix i).w? j = if j = i then none else D.w? j := by
  have hi' : i < D.wr.length := by rw [h.wr]; exact hi
  simp only [w?, fix, List.getD_eq_getElem?_getD, List.getElem?_set]
  by_cases e : i = j
  · subst e; simp [hi']
  · simp [e, Ne.symm e]
theorem fix_sec {D : Dk} (h : D.Ok) {i : Nat} (hi : i < D.n) (j : Nat) : (D.fix i).sec j = D.sec j := by
  show ((D.fix i).w? j).getD ((D.safe.set i (D.sec i)).getD j []) = _
  rw [fix_w? h hi]
  by_cases e : j = i
  · subst e
    have hi' : j < D.safe.length := hi
    rw [if_pos rfl, Option.getD_none, List.getD_eq_getElem?_getD, List.getElem?_set_self hi']
    rfl
  · rw [if_neg e, List.getD_eq_getElem?_getD, List.getElem?_set_ne (Ne.symm e), ← List.getD_eq_getElem?_getD]
    rfl
theorem Ok.fix {D : Dk} (h : D.Ok) {i : Nat} (hi : i < D.n) : (D.fix i).Ok :=
  ⟨by have := fix_n D i; unfold n at this; rw [this]; exact h.pos, by have := fix_n D i; unfold n at this; rw [this]; exact h.most, by have := fix_n D i; unfold n at this; rw [this]; show (D.wr.set i none).length = _; rw [List.length_set]; exact h.wr,
    (fun x hx => by
      rcases List.mem_or_eq_of_mem_set hx with h' | h'
      · exact h.safe64 x h'
      · rw [h']; exact sec_length h hi),
    (fun x hx => by
      rcases List.mem_or_eq_of_mem_set hx with h' | h'
      · exact h.wr64 x h'
      · cases h'), h.armed0, h.armedmax⟩
/-- All are made safe, one by one. -/
theorem fixed_all {D E : Dk} (h : D.Ok) (hE : E.Ok) (hn : E.n = D.n) (hs : ∀ j, j < D.n → E.sec j = D.sec j) (hw : ∀ j, j < D.n → E.w? j = none) (ha : E.armed = D.armed) (hk : E.kept = D.kept) (hd : E.dead = D.dead) : E = D.becomes D.image := by
  have h1 : E.safe = D.image := by
    rw [image_secs h]
    apply List.ext_getElem?
    intro i
    rcases Nat.lt_or_ge i D.n with hi | hi
    · have hl : i < E.safe.length := by show i < E.n; omega
      have h2 := hs i hi
      unfold sec at h2
      rw [hw i hi, Option.getD_none, List.getD_eq_getElem?_getD, List.getElem?_eq_getElem hl] at h2
      rw [List.getElem?_eq_getElem hl, List.getElem?_map, List.getElem?_range hi]
      exact congrArg some h2
    · rw [List.getElem?_eq_none (by show E.n ≤ i; omega), List.getElem?_eq_none (by simpa using hi)]
  have h2 : E.wr = List.replicate D.image.length none := by
    have hil : D.image.length = D.n := left_length D _
    rw [hil]
    apply List.ext_getElem?
    intro i
    rcases Nat.lt_or_ge i D.n with hi | hi
    · have hl : i < E.wr.length := by rw [hE.wr]; show i < E.n; omega
      have h2 := hw i hi
      unfold w? at h2
      rw [List.getD_eq_getElem?_getD, List.getElem?_eq_getElem hl] at h2
      rw [List.getElem?_eq_getElem hl, List.getElem?_replicate, if_pos hi]
      exact congrArg some h2
    · rw [List.getElem?_eq_none (by rw [hE.wr]; show E.n ≤ i; omega), List.getElem?_eq_none (by simpa using hi)]
  obtain ⟨a, b, c, d, e⟩ := E
  simp only at h1 h2 ha hk hd
  subst h1 h2 ha hk hd
  rfl
end Dk
theorem wrL_fix (D : Dk) (i : Nat) : wrL (D.fix i) = (wrL D).set i [] := by
  unfold wrL Dk.fix
  simp only [List.map_set, Option.getD_none]
theorem image_stepD {D : Dk} (h : D.Ok) : D.stepD.image = D.image := by
  rw [Dk.image_secs h, Dk.image_secs h.stepD, Dk.stepD_n]
  have : D.stepD.sec = D.sec := by
    funext i
    unfold Dk.sec Dk.w?
    rw [Dk.stepD_wr, Dk.stepD_safe]
  rw [this]
theorem pt_row_ne {i g n c : Nat} {o : Obj} {l : List Bs} {F : HProp} {w : World} (h : Holds (pt i o * (rowS (.slice (some ⟨g, 0, none⟩) n c) l * F)) w) : i ≠ g := by
  rw [sep_left_comm] at h
  obtain ⟨g', cap, cur, ⟨hv, _⟩, hp⟩ := rowS_open.1 h
  simp only [Value.slice.injEq, Option.some.injEq, Addr.mk.injEq] at hv
  rw [hv.1.1]
  exact (hp.ne).symm
theorem row_row_ne {g n c g' n' c' : Nat} {l l' : List Bs} {F : HProp} {w : World} (h : Holds (rowS (.slice (some ⟨g, 0, none⟩) n c) l * (rowS (.slice (some ⟨g', 0, none⟩) n' c') l' * F)) w) : g ≠ g' := by
  obtain ⟨g2, cap, cur, ⟨hv, _⟩, hp⟩ := rowS_open.1 h
  simp only [Value.slice.injEq, Option.some.injEq, Addr.mk.injEq] at hv
  rw [hv.1.1]
  exact pt_row_ne hp

set_option maxRecDepth 100000 in
set_option maxHeartbeats 1000000 in
theorem RSync_calls {rb : Nat} {D : Dk} {F : HProp} {w : World} (hD : D.Ok) (H : Holds (rdA rb D * F) w) :
    Calls Tryz.prog 56 #[.pointer (some ⟨rb, 0, none⟩)] w (Ret (.int .i64 D.sync.2) (rdA rb D.sync.1 * F) w) := by
  have H0 := H
  have hn : D.n ≤ 4096 := hD.most
  have hst := RA_step hD H
  obtain ⟨kv, H⟩ := rdA_B.1 H
  obtain ⟨sv, wv, H⟩ := rdB_open.1 H
  have c4 := H.cell 4 (v := .bool D.dead) rfl
  clear H
  cases hdead : D.dead with
  | true =>
    rw [hdead] at c4
    have hfin : Ret (.int .i64 D.sync.2) (rdA rb D.sync.1 * F) w (.returned (.int .i64 2)) w := by
      simp only [Dk.sync, hdead, if_true]; exact .mk H0 (.refl _)
    clear hdead hst
    go_enter Tryz.func56, Tryz.ntmps56
    go_wp2_with fail
    go_ret
    exact hfin
  | false =>
    rw [hdead] at c4
    by_cases hgone : D.armed = 1
    · have hg' : D.gone = true := by simp [Dk.gone, hgone]
      rw [hg'] at hst
      have hres : D.sync = (D.stepD.die D.kept, 2) := by simp only [Dk.sync, hdead, hgone, if_true, Bool.false_eq_true, if_false]
      rw [hres]
      have hst' := Lib.hid hst
      have hD2 := hD.stepD
      clear hst hres hg' hgone hdead
      go_enter Tryz.func56, Tryz.ntmps56
      go_wp2_with fail
      refine hst'.out.mono ?_
      rintro e w1 ⟨rfl, H1, K1⟩
      obtain ⟨kv2, H1⟩ := rdA_B.1 H1
      obtain ⟨ak, ck, hkv, _⟩ : ∃ a' c', kv2 = .slice a' D.stepD.kept.length c' ∧ True := by
        obtain ⟨a', c', hv, _⟩ := intsA_cells H1.right
        exact ⟨a', c', hv, trivial⟩
      subst hkv
      have hd := RA_die_kept hD2 H1
      obtain ⟨sv2, wv2, H6⟩ := rdB_open.1 H1
      have d3 := H6.cell 3 (v := .slice ak D.stepD.kept.length ck) rfl
      rw [Dk.stepD_kept] at hd d3
      have hd' := Lib.hid hd
      clear hd H1 H6 hst' c4
      go_wp2_with fail
      refine hd'.out.mono ?_
      rintro e w5 ⟨rfl, H7, K7⟩
      have K8 := K1.trans K7
      go_wp2_with fail
      go_ret
      exact .mk H7 K8
    · have hg' : D.gone = false := by simp [Dk.gone, hgone]
      rw [hg'] at hst
      have hres : D.sync = (D.stepD.becomes D.stepD.image, 0) := by simp only [Dk.sync, hdead, hgone, Bool.false_eq_true, if_false, image_stepD hD]
      rw [hres]
      have hst' := Lib.hid hst
      have hD2 := hD.stepD
      obtain ⟨D1, hD1⟩ : ∃ D1, D1 = D.stepD := ⟨_, rfl⟩
      have hn1 : D1.n ≤ 4096 := by rw [hD1, Dk.stepD_n]; exact hn
      rw [← hD1] at hst' hD2
      rw [← hD1]
      clear hst hres hg' hgone hdead hD1
      go_enter Tryz.func56, Tryz.ntmps56
      go_wp2_with fail
      refine hst'.out.mono ?_
      rintro e w1 ⟨rfl, H1, K1⟩
      clear hst' c4
      go_wp2_with fail
      go_loopw [4] (fun i wr => ∃ (k : Nat) (E : Dk), k ≤ D1.n ∧ i = .int .i64 k ∧ E.Ok ∧ E.n = D1.n ∧ (∀ j, j < D1.n → E.sec j = D1.sec j) ∧ (∀ j, j < k → E.w? j = none) ∧ E.armed = D1.armed ∧ E.kept = D1.kept ∧ E.dead = D1.dead ∧ Holds (rdA rb E * F) wr ∧ Keeps w wr) (fun i _ => D1.n - (intOf i).toNat)
      case atStart => exact ⟨0, D1, Nat.zero_le _, rfl, hD2, rfl, fun _ _ => rfl, fun j hj => by omega, rfl, rfl, rfl, H1, K1⟩
      case round =>
        clear H1 K1 H0
        obtain ⟨k, E, hk, rfl, hE, hEn, hsec, hw, har, hke, hde, HR, hKr⟩ := hrel
        have HEn := Lib.hid hEn
        have Hsec := Lib.hid hsec
        have Hw := Lib.hid hw
        have Har := Lib.hid har
        have Hke := Lib.hid hke
        have Hde := Lib.hid hde
        clear hEn hsec hw har hke hde
        obtain ⟨kv1, HW⟩ := rdA_B.1 HR
        obtain ⟨sv1, wv1, HW⟩ := rdB_open.1 HW
        obtain ⟨sg1, sc1, wg1, wc1, rfl, _, rfl, _, hs1, hw1⟩ := rd_rows hE HW
        rw [HEn.out] at HW
        have d0 := HW.cell 0 (v := .slice (some ⟨sg1, 0, none⟩) D1.n sc1) rfl
        by_cases hlt : k < D1.n
        · have hi : k < E.n := by have := HEn.out; omega
          have d1 := HW.cell 1 (v := .slice (some ⟨wg1, 0, none⟩) D1.n wc1) rfl
          have ne1 := pt_row_ne HW
          have HWa := HW
          rw [show ∀ A B C G : HProp, A * (B * (C * G)) = C * (A * (B * G)) from by intro A B C G; ac_rfl] at HWa
          have ne2 := row_row_ne HW.right
          have ne3 : rb ≠ wg1 := by
            have := HW
            rw [show ∀ A B C G : HProp, A * (B * (C * G)) = A * (C * (B * G)) from by intro A B C G; ac_rfl] at this
            exact pt_row_ne this
          have u2 := rowS_unfz HWa k
          have HWb := HW
          rw [sep_left_comm] at HWb
          have u1 := rowS_unfz HWb k
          have q1 : ∃ u, wr.cell? ⟨sg1, k, none⟩ = some u := ⟨_, hs1 k hi⟩
          have q2 : ∃ u, wr.cell? ⟨wg1, k, none⟩ = some u := ⟨_, hw1 k hi⟩
          obtain ⟨x1, q1⟩ := q1
          obtain ⟨x2, q2⟩ := q2
          have hcall := (RA_Sector hE HR.drew k hi).mono (R' := fun e w'' => e = .returned (strV (E.sec k)) ∧ w'' = wr.drew) (fun e w'' h => ⟨h.1, h.2.symm⟩)
          have s1 := rowS_set HWb.drew k (by exact hi) (E.sec k)
          rw [show ∀ A B C G : HProp, A * (B * (C * G)) = C * (A * (B * G)) from by intro A B C G; ac_rfl] at s1
          have s2 := rowS_set s1 k (by rw [wrL_length hE]; exact hi) []
          have hfx : Holds (rdA rb (E.fix k) * F) ((wr.drew.setCell ⟨sg1, k, none⟩ (strV (E.sec k))).setCell ⟨wg1, k, none⟩ (strV [])) := by
            refine rdA_B.2 ⟨kv1, rdB_open.2 ⟨.slice (some ⟨sg1, 0, none⟩) D1.n sc1, .slice (some ⟨wg1, 0, none⟩) D1.n wc1, ?_⟩⟩
            rw [show ∀ A B C G : HProp, C * (A * (B * G)) = B * (A * (C * G)) from by intro A B C G; ac_rfl] at s2
            rw [wrL_fix]
            exact s2
          have hKd := ((hKr.drew).setCell ⟨sg1, k, none⟩ (strV (E.sec k))).setCell ⟨wg1, k, none⟩ (strV [])
          have hEf := hE.fix hi
          have H1 : Hid (∀ j, j < D1.n → (E.fix k).sec j = D1.sec j) := Lib.hid (fun j hj => by rw [Dk.fix_sec hE hi]; exact Hsec.out j hj)
          have H2 : Hid (∀ j, j < k + 1 → (E.fix k).w? j = none) := Lib.hid (fun j hj => by
            rw [Dk.fix_w? hE hi]
            by_cases e : j = k
            · rw [if_pos e]
            · rw [if_neg e]; exact Hw.out j (by omega))
          have H3 : Hid ((E.fix k).n = D1.n) := Lib.hid (by rw [Dk.fix_n]; exact HEn.out)
          unfold strV at hfx hKd hcall
          have Hfx := Lib.hid hfx
          have Hcall := Lib.hid hcall
          have hki : (k : Int) < (D1.n : Int) := by omega
          clear s1 s2 HWa HWb HW HR hs1 hw1 hKr hfx hcall
          go_wp2_with fail
          refine region_tail 9 (by kernel_rfl) (by kernel_rfl) ?_
          simp only [List.take_succ_cons, List.take_zero, List.drop_succ_cons, List.drop_zero]
          have d0' : wr.drew.cell? ⟨rb, 0, none⟩ = some (.slice (some ⟨sg1, 0, none⟩) D1.n sc1) := d0
          have d1' : wr.drew.cell? ⟨rb, 1, none⟩ = some (.slice (some ⟨wg1, 0, none⟩) D1.n wc1) := d1
          have q1' : wr.drew.cell? ⟨sg1, k, none⟩ = some x1 := q1
          have q2' : wr.drew.cell? ⟨wg1, k, none⟩ = some x2 := q2
          have u1' : wr.drew.frozen? ⟨sg1, k, none⟩ = false := u1
          have u2' : wr.drew.frozen? ⟨wg1, k, none⟩ = false := u2
          clear d0 d1 q1 q2 u1 u2
          generalize wr.drew = w2 at d0' d1' q1' q2' u1' u2' Hcall Hfx hKd ⊢
          repeat still_step
          still_call Hcall.out
          repeat still_step
          refine wpStill_nil ?_
          go_wp2_with fail
          go_roundw
          case rel => exact ⟨k + 1, E.fix k, by omega, by go_num, hEf, H3.out, H1.out, H2.out, Har.out, Hke.out, Hde.out, Hfx.out, hKd⟩
          case measure => simp [intOf]; omega
        · obtain rfl : k = D1.n := by omega
          have hfin := Dk.fixed_all hD2 hE HEn.out Hsec.out Hw.out Har.out Hke.out Hde.out
          have HN : Hid (Holds (rdA rb (D1.becomes D1.image) * F) wr) := Lib.hid (by rw [← hfin]; exact HR)
          clear hfin HR HW hs1 hw1
          go_wp2_with fail
          go_ret
          exact .mk HN.out hKr
end Go.Proofs.YtmeepegllkhlcaaGreat
