/-
  A disk's Write, Clone and New.
-/
import Derived.Test.YtmeepegllkhlcaaGreatDisk2
import Derived.Shelf.SlMaps.Clone
namespace Go.Proofs.YtmeepegllkhlcaaGreat
open Go Go.RowKit Go.Maps

/-- One sector is written, not safe. -/
theorem wrM_put {D : Dk} (hD : D.Ok) {i : Nat} (hi : i < D.n) (s : Bs) : wrM (D.put i s) (.int .i64 (i : Int)) = some (strV s) ∧ ∀ z, z ≠ .int .i64 (i : Int) → wrM (D.put i s) z = wrM D z := by
  constructor
  · rw [wrM_at, Dk.w?_put hD hi]; simp
  · intro z hz
    unfold wrM liftI
    split
    · rename_i x
      by_cases h0 : 0 ≤ x
      · have hne : x.toNat ≠ i := fun e => hz (by rw [← e]; congr 1; omega)
        simp only [h0, if_true]
        rw [Dk.w?_put hD hi, if_neg hne]
      · simp only [h0, if_false]
    · rfl

/-- 's[a:b]' of a text. -/
theorem run_text_cut (s : Bs) (a b : Nat) (h1 : a ≤ b) (h2 : b ≤ s.length) (w : World) : (Instr.slice 9 (strV s) (some (.int .i64 (a : Int))) (some (.int .i64 (b : Int))) none).run Tryz.prog w = .ok (strV ((s.drop a).take (b - a))) w := by
  have hsz : (⟨s.toArray⟩ : ByteArray).size = s.length := by simp [ByteArray.size]
  have h3 : (0 : Int) ≤ (b : Int) ∧ (b : Int) ≤ ((⟨s.toArray⟩ : ByteArray).size : Int) := by rw [hsz]; omega
  have h4 : (0 : Int) ≤ (a : Int) ∧ (a : Int) ≤ (b : Int) := by omega
  unfold strV
  rw [run_slice_string_if w 9 _ .i64 .i64 _ _ Tryz.underlying9, if_pos h3, if_pos h4, Int.toNat_natCast, Int.toNat_natCast, ByteArray.extract_mk]

theorem Dk.writeGo_cons (E : Dk) (i : Nat) (c : Bs) (cs : List Bs) : E.writeGo i (c :: cs) = if E.armed = 1 then (((E.put i c).stepD).die E.kept, 2) else Dk.writeGo ((E.put i c).stepD) (i + 1) cs := rfl
theorem Dk.chunks_at (s : Bs) (k : Nat) (h : k < s.length / 64) : (Dk.chunks s)[k]? = some ((s.drop (64 * k)).take 64) := by
  simp [Dk.chunks, List.getElem?_map, List.getElem?_range, h]

set_option maxRecDepth 100000 in
set_option maxHeartbeats 1000000 in
theorem Write_calls {db : Nat} {D : Dk} {F : HProp} {w : World} (hD : D.Ok) (H : Holds (diskA db D * F) w) (at_ : Int) (ha : -9223372036854775808 ≤ at_) (ha' : at_ ≤ 9223372036854775807) (s : Bs) (hs : s.length ≤ 140737488355328) :
    Calls Tryz.prog 53 #[.pointer (some ⟨db, 0, none⟩), .int .i64 at_, strV s] w (Ret (.int .i64 (D.write at_ s).2) (diskA db (D.write at_ s).1 * F) w) := by
  have H0 := H
  have hn : D.n ≤ 4096 := hD.most
  have hcount := Lib.hid (A_Count hD H)
  obtain ⟨mb, kv, H⟩ := diskA_open.1 H
  have c4 := H.cell 4 (v := .bool D.dead) rfl
  have hsz : (⟨s.toArray⟩ : ByteArray).size = s.length := by simp [ByteArray.size]
  cases hdead : D.dead with
  | true =>
    rw [hdead] at c4
    have hfin : Ret (.int .i64 (D.write at_ s).2) (diskA db (D.write at_ s).1 * F) w (.returned (.int .i64 2)) w := by
      simp only [Dk.write, hdead, if_true]; exact .mk H0 (.refl _)
    clear hdead hsz
    unfold strV
    go_enter Tryz.func53, Tryz.ntmps53
    go_wp2_with fail
    go_ret
    exact hfin
  | false =>
    rw [hdead] at c4
    by_cases hlong : s.length % 64 ≠ 0
    · have hfin : Ret (.int .i64 (D.write at_ s).2) (diskA db (D.write at_ s).1 * F) w (.returned (.int .i64 172)) w := by
        simp only [Dk.write, hdead, hlong, if_true, Bool.false_eq_true, if_false, ne_eq, not_false_eq_true]; exact .mk H0 (.refl _)
      clear hdead hsz
      have h1 : ((s.length : Int) % 64 == 0) = false := by
        rw [beq_eq_false_iff_ne]; omega
      have h2 : (((s.length : Int) % 64) != 0) = true := by
        rw [bne_iff_ne]; omega
      clear hlong
      unfold strV
      go_enter Tryz.func53, Tryz.ntmps53
      go_wp2_with fail
      go_ret
      exact hfin
    · have hl2 : s.length % 64 = 0 := by omega
      clear hlong
      obtain ⟨m, hm⟩ : ∃ m, m = s.length / 64 := ⟨_, rfl⟩
      have hsm : s.length = 64 * m := by omega
      have h1 : (((s.length : Int) % 64) != 0) = false := by
        rw [bne_eq_false_iff_eq]; omega
      have h2 : (s.length : Int) / 64 = (m : Int) := by omega
      have hbadeq : (at_ < 0 ∨ (D.n : Int) < at_ ∨ (D.n : Int) - at_ < (m : Int)) ∨ ¬ (at_ < 0 ∨ (D.n : Int) < at_ ∨ (D.n : Int) - at_ < (m : Int)) := Classical.em _
      rcases hbadeq with hbad | hgood
      · have hfin : Ret (.int .i64 (D.write at_ s).2) (diskA db (D.write at_ s).1 * F) w (.returned (.int .i64 171)) w := by
          simp only [Dk.write, hdead, hl2, ← hm, hbad, if_true, Bool.false_eq_true, if_false, ne_eq, not_true_eq_false]; exact .mk H0 (.refl _)
        have Hsm := Lib.hid hsm
        clear hdead hsz hl2 hm hsm
        by_cases g1 : at_ < 0
        · clear hbad
          unfold strV
          go_enter Tryz.func53, Tryz.ntmps53
          go_wp2_with fail
          go_ret
          exact hfin
        · by_cases g2 : (D.n : Int) < at_
          · clear hbad
            unfold strV
            go_enter Tryz.func53, Tryz.ntmps53
            go_wp2_with (go_at_call 79; refine hcount.out.mono ?_; rintro e w' ⟨rfl, rfl⟩)
            go_ret
            exact hfin
          · have g3 : (D.n : Int) - at_ < (m : Int) := by omega
            clear hbad
            unfold strV
            go_enter Tryz.func53, Tryz.ntmps53
            go_wp2_with (go_at_call 79; refine hcount.out.mono ?_; rintro e w' ⟨rfl, rfl⟩)
            go_ret
            exact hfin
      · have g1 : 0 ≤ at_ := by omega
        obtain ⟨a, rfl⟩ := Int.eq_ofNat_of_zero_le g1
        have g2 : a ≤ D.n := by omega
        have g3 : m ≤ D.n - a := by omega
        have hres : D.write (a : Int) s = D.writeGo a (Dk.chunks s) := by
          simp only [Dk.write, hdead, hl2, ← hm, hgood, Bool.false_eq_true, if_false, ne_eq, not_true_eq_false, Int.toNat_natCast]
        rw [hres]
        have hd1 : decide (D.n < a) = false := by simp; omega
        have hd2 : decide ((a : Int) < 0) = false := by simp
        have hd4 : decide ((D.n : Int) - (a : Int) < (m : Int)) = false := by simp; omega
        have Hcl : Hid ((Dk.chunks s).length = m) := Lib.hid (by rw [Dk.chunks_length, hm])
        have Hsm := Lib.hid hsm
        have Hm := Lib.hid hm
        have hlb : s.length ≤ 300000 := by omega
        have hcut : ∀ k, k < m → ∀ w : World, (Instr.slice 9 (strV s) (some (.int .i64 ((k : Int) * 64))) (some (.int .i64 ((k : Int) * 64 + 64))) none).run Tryz.prog w = .ok (strV ((s.drop (64 * k)).take 64)) w := by
          intro k hk w
          have := run_text_cut s (k * 64) (k * 64 + 64) (by omega) (by omega) w
          rw [Nat.add_sub_cancel_left, Nat.mul_comm k 64] at this
          rw [← this]
          congr 4
          · omega
          · omega
        have Hcut := Lib.hid hcut
        clear hcut hres hdead hsz hl2 hm hsm hgood g1
        unfold strV
        go_enter Tryz.func53, Tryz.ntmps53
        go_wp2_with (go_at_call 79; refine hcount.out.mono ?_; rintro e w' ⟨rfl, rfl⟩)
        clear h1 h2 hd1 hd2 hd4 hcount c4
        go_loopw [40] (fun i wr => ∃ (k : Nat) (E : Dk), k ≤ m ∧ i = .int .i64 k ∧ E.Ok ∧ E.n = D.n ∧ D.writeGo a (Dk.chunks s) = E.writeGo (a + k) ((Dk.chunks s).drop k) ∧ Holds (diskA db E * F) wr ∧ Keeps w wr) (fun i _ => m - (intOf i).toNat)
        case atStart => exact ⟨0, D, Nat.zero_le _, rfl, hD, rfl, rfl, H0, .refl _⟩
        case round =>
          clear H0 H
          obtain ⟨k, E, hk, rfl, hE, hEn, hgo, HR, hKr⟩ := hrel
          have Hgo := Lib.hid hgo
          have HEn := Lib.hid hEn
          clear hgo hEn
          by_cases hlt : k < m
          · obtain ⟨c, hc⟩ : ∃ c, c = (s.drop (64 * k)).take 64 := ⟨_, rfl⟩
            have hcut := Hcut.out k hlt wr.drew
            rw [← hc] at hcut
            have hchunk := Dk.chunks_at s k (by have := Hm.out; omega)
            rw [← hc] at hchunk
            have Hc := Lib.hid hc
            have Hch := Lib.hid hchunk
            clear hc hchunk
            have hi : a + k < E.n := by have := HEn.out; omega
            have hc64 : c.length = 64 := by
              rw [Hc.out, List.length_take, List.length_drop]
              have := Hsm.out
              omega
            have hdrop : (Dk.chunks s).drop k = c :: (Dk.chunks s).drop (k + 1) := by
              have hl : k < (Dk.chunks s).length := by have := Hcl.out; omega
              rw [List.drop_eq_getElem_cons hl]
              have := Hch.out
              rw [List.getElem?_eq_getElem hl] at this
              injection this with this
              rw [this]
            have hgo2 := Hgo.out
            rw [hdrop] at hgo2
            rw [Dk.writeGo_cons] at hgo2
            have HW : Holds (diskA db E * F) wr.drew := HR.drew
            obtain ⟨mb1, kv1, HW⟩ := diskA_open.1 HW
            have d1 := HW.cell 1 (v := .map (some mb1)) rfl
            have Hmap := HW
            rw [sep_left_comm] at Hmap
            have hcn : E.cnt < maxLen := by
              have h1 := E.cnt_le
              have h2 := hE.wr
              have h3 := hE.most
              unfold maxLen; omega
            have hput := wrM_put hE hi c
            have hcast : ((a + k : Nat) : Int) = (a : Int) + (k : Int) := by omega
            rw [hcast] at hput
            have hKd := hKr.drew
            have Hgo2 := Lib.hid hgo2
            have Hdrop := Lib.hid hdrop
            have Hc64 := Lib.hid hc64
            have Hput := Lib.hid hput
            clear hgo2 hdrop hc64 hput hcast
            go_wp2_with fail
            refine region_tail 14 (by kernel_rfl) (by kernel_rfl) ?_
            simp only [List.take_succ_cons, List.take_zero, List.drop_succ_cons, List.drop_zero]
            generalize wr.drew = w2 at HW d1 Hmap hKd hcut ⊢
            have hw1 : IntKind.i64.wrap ((a : Int) + (k : Int)) = (a : Int) + (k : Int) := IntWalk.i64_in _ (by omega)
            have hw2 : IntKind.i64.wrap ((k : Int) * 64) = (k : Int) * 64 := IntWalk.i64_in _ (by omega)
            have hw3 : IntKind.i64.wrap ((k : Int) * 64 + 64) = (k : Int) * 64 + 64 := IntWalk.i64_in _ (by omega)
            have f1 : (0 : Int) ≤ (k : Int) * 64 := by omega
            unfold strV at hcut
            repeat still_step
            refine wpStill_nil ?_
            clear hw1 hw2 hw3 f1 hcut d1
            refine wpList_store_sep rfl _ _ _ 90 rfl 9 kInt Tryz.underlying90 rfl (wrM (E.put (a + k) c)) Hmap hcn (.int .i64 ((a : Int) + (k : Int))) (strV c) (.int .i64 ((a : Int) + (k : Int))) rfl rfl (keyInt (by omega) (by omega)) Hput.out.1 Hput.out.2 ?_
            intro w3 H3 K3
            have H4 : Holds (diskA db (E.put (a + k) c) * F) w3 := by
              refine diskA_open.2 ⟨mb1, kv1, ?_⟩
              rw [sep_left_comm]
              have e1 : (if (wrM E (.int .i64 ((a : Int) + (k : Int)))).isSome then E.cnt else E.cnt + 1) = (E.put (a + k) c).cnt := by
                rw [Dk.cnt_put hE hi]
                have : wrM E (.int .i64 ((a : Int) + (k : Int))) = (E.w? (a + k)).map strV := by
                  have := wrM_at E (a + k)
                  rwa [show ((a + k : Nat) : Int) = (a : Int) + (k : Int) from by omega] at this
                rw [this, Option.isSome_map]
              rw [e1] at H3
              exact H3
            have hE2 := hE.put (a + k) Hc64.out
            have hst := A_step hE2 H4
            have K4 := hKd.trans K3
            clear H3 K3 hKd Hmap HW HR hKr
            by_cases hgone : E.armed = 1
            · have hg' : (E.put (a + k) c).gone = true := by simp [Dk.gone, Dk.put, hgone]
              rw [hg'] at hst
              have hres := Hgo2.out
              rw [if_pos hgone] at hres
              have hst' := Lib.hid hst
              have Hres := Lib.hid hres
              clear hst hres hg' hgone
              go_wp2_with fail
              refine hst'.out.mono ?_
              rintro e w4 ⟨rfl, H5, K5⟩
              have K6 := K4.trans K5
              obtain ⟨kv2, H5⟩ := diskA_B.1 H5
              obtain ⟨ak, ck, hkv, _⟩ : ∃ a' c', kv2 = .slice a' (E.put (a + k) c).stepD.kept.length c' ∧ True := by
                have := H5.right
                obtain ⟨a', c', hv, _⟩ := intsA_cells this
                exact ⟨a', c', hv, trivial⟩
              subst hkv
              have hd := A_dies_kept hE2.stepD H5
              obtain ⟨mb2, H6⟩ := diskB_open.1 H5
              have d3 := H6.cell 3 (v := .slice ak (E.put (a + k) c).stepD.kept.length ck) rfl
              have hkk : (E.put (a + k) c).stepD.kept = E.kept := by rw [Dk.stepD_kept]; rfl
              rw [hkk] at hd d3
              have hd' := Lib.hid hd
              clear hd H5 H6 hkk hst' K4 K5 H4
              go_wp2_with fail
              refine hd'.out.mono ?_
              rintro e w5 ⟨rfl, H7, K7⟩
              have K8 := K6.trans K7
              go_wp2_with fail
              go_ret
              rw [Hres.out]
              exact .mk H7 K8
            · have hg' : (E.put (a + k) c).gone = false := by simp [Dk.gone, Dk.put, hgone]
              rw [hg'] at hst
              have hres := Hgo2.out
              rw [if_neg hgone] at hres
              have hst' := Lib.hid hst
              have Hres := Lib.hid hres
              clear hst hres hg' hgone
              go_wp2_with fail
              refine hst'.out.mono ?_
              rintro e w4 ⟨rfl, H5, K5⟩
              have K6 := K4.trans K5
              clear hst' K4 K5 H4
              go_wp2_with fail
              go_roundw
              case rel => exact ⟨k + 1, (E.put (a + k) c).stepD, by omega, by go_num, hE2.stepD, by rw [Dk.stepD_n, Dk.put_n]; exact HEn.out, by rw [Hres.out]; rfl, H5, K6⟩
              case measure => simp [intOf]; omega
          · obtain rfl : k = m := by omega
            have hres := Hgo.out
            rw [List.drop_of_length_le (Nat.le_of_eq Hcl.out)] at hres
            have Hres := Lib.hid hres
            clear hres
            go_wp2_with fail
            go_ret
            rw [Hres.out]
            exact .mk HR hKr

/-! ### Clone -/
theorem MapClone_calls {b n : Nat} {M : Lit → Option Value} {F : HProp} {w : World} (H : Holds (mapA Tryz.prog 3 b M n * F) w) :
    Calls Tryz.prog 72 #[.map (some b)] w fun e w' => ∃ c, Ret (.map (some c)) (mapA Tryz.prog 3 c M n * (mapA Tryz.prog 3 b M n * F)) w e w' := by
  obtain ⟨es, clock, hb, hobj⟩ := mapA_heap H
  refine (AnyW.maps_Clone Tryz.cloneA b es clock w hb).mono ?_
  rintro e w' ⟨rfl, rfl⟩
  exact ⟨_, .mk (mapA_open.2 ⟨es, clock, hobj, H.alloc _⟩) ((Keeps.refl w).alloc _)⟩

theorem Clone_calls {db : Nat} {D : Dk} {F : HProp} {w : World} (H : Holds (diskA db D * F) w) :
    Calls Tryz.prog 36 #[.pointer (some ⟨db, 0, none⟩)] w fun e w' => ∃ c ak ck, Ret (.pointer (some ⟨c, 0, none⟩)) (diskA c D * (diskB db (.slice ak D.kept.length ck) D * F)) w e w' := by
  obtain ⟨mb, kv, H⟩ := diskA_open.1 H
  obtain ⟨ak, ck, hkv, _⟩ : ∃ a' c', kv = .slice a' D.kept.length c' ∧ True := by
    have := H.right.right
    obtain ⟨a', c', hv, _⟩ := intsA_cells this
    exact ⟨a', c', hv, trivial⟩
  subst hkv
  have c0 := H.cell 0 (v := .string ⟨D.safe.flatten.toArray⟩) rfl
  have c1 := H.cell 1 (v := .map (some mb)) rfl
  have c2 := H.cell 2 (v := .int .i64 D.armed) rfl
  have c3 := H.cell 3 (v := .slice ak D.kept.length ck) rfl
  have c4 := H.cell 4 (v := .bool D.dead) rfl
  have hlt := H.lt
  go_enter Tryz.func36, Tryz.ntmps36
  have hobj : diskCells D mb (.slice ak D.kept.length ck) = #[.string ⟨D.safe.flatten.toArray⟩, .map (some mb), .int .i64 D.armed, .slice ak D.kept.length ck, .bool D.dead] := rfl
  have H1 := H.alloc (.cells (diskCells D mb (.slice ak D.kept.length ck)) 92)
  have K1 := (Keeps.refl w).alloc (.cells (diskCells D mb (.slice ak D.kept.length ck)) 92)
  have e1 : ∀ A B C E G : HProp, A * (B * (C * (E * G))) = C * (A * (E * (B * G))) := by intro A B C E G; ac_rfl
  rw [e1] at H1
  have hmc := Lib.hid (MapClone_calls H1)
  rw [hobj] at hmc K1
  clear H1 H hobj
  go_wp2_with fail
  refine hmc.out.mono ?_
  rintro e w1 ⟨c, rfl, H2, K2⟩
  have e2 : ∀ A B C E G H : HProp, A * (B * (C * (E * (G * H)))) = C * (A * (E * (G * (B * H)))) := by intro A B C E G H; ac_rfl
  rw [e2] at H2
  have d1 := H2.cell 1 (v := .map (some mb)) rfl
  have f1 := H2.unfz 1
  have hfin := H2.setCell (off := 1) (.map (some c))
  have K3 := (K1.trans K2).setCell ⟨w.heap.size, 1, none⟩ (.map (some c))
  clear hmc H2 K1 K2
  go_wp2_with fail
  go_ret
  refine ⟨w.heap.size, ak, ck, .mk (diskA_open.2 ⟨c, .slice ak D.kept.length ck, ?_⟩) K3⟩
  have e3 : ∀ A B C E G H : HProp, A * (B * (C * (E * (G * H)))) = E * (G * (A * (B * (C * H)))) := by intro A B C E G H; ac_rfl
  have e4 : ∀ A B C E G : HProp, A * (B * (C * (E * G))) = E * (A * (B * (C * G))) := by intro A B C E G; ac_rfl
  rw [e4]
  rw [e3] at hfin
  exact diskB_open.2 ⟨mb, hfin⟩

/-! ### New -/
theorem Dk.chunks_flatten : ∀ (m : Nat) (s : Bs), s.length = 64 * m → (Dk.chunks s).flatten = s
  | 0, s, h => by
    have : s = [] := List.eq_nil_of_length_eq_zero (by omega)
    subst this; rfl
  | m + 1, s, h => by
    have ih := Dk.chunks_flatten m (s.drop 64) (by rw [List.length_drop]; omega)
    have e1 : s.length / 64 = (s.drop 64).length / 64 + 1 := by rw [List.length_drop]; omega
    unfold Dk.chunks at ih ⊢
    rw [e1, List.range_succ_eq_map, List.map_cons, List.flatten_cons, List.map_map]
    have e2 : (List.map ((fun i => (s.drop (64 * i)).take 64) ∘ Nat.succ) (List.range ((s.drop 64).length / 64))) = List.map (fun i => ((s.drop 64).drop (64 * i)).take 64) (List.range ((s.drop 64).length / 64)) := by
      apply List.map_congr_left
      intro i _
      simp only [Function.comp, List.drop_drop]
      congr 2
      omega
    rw [e2, ih]
    simp

theorem New_calls {F : HProp} {w : World} (H : Holds F w) (s : Bs) (hok : Dk.newOk s = true) :
    Calls Tryz.prog 41 #[strV s] w fun e w' => ∃ db, Ret (.tuple #[.pointer (some ⟨db, 0, none⟩), .int .i64 0]) (diskA db (Dk.new s) * F) w e w' := by
  have hmm := @run_makeMap Tryz.prog
  have hok' := hok
  simp only [Dk.newOk, decide_eq_true_eq] at hok'
  obtain ⟨h0, h1, h2⟩ := hok'
  have b0 : ((s.length : Int) == 0) = false := by rw [beq_eq_false_iff_ne]; omega
  have b1 : (((s.length : Int) % 64) != 0) = false := by rw [bne_eq_false_iff_eq]; omega
  have g2 : ¬ (262144 : Int) < (s.length : Int) := by omega
  have hs2 : (s.length : Int) ≤ 262144 := by omega
  have hfl : (Dk.chunks s).flatten = s := Dk.chunks_flatten (s.length / 64) s (by omega)
  have hfin : ∃ db, Ret (.tuple #[.pointer (some ⟨db, 0, none⟩), .int .i64 0]) (diskA db (Dk.new s) * F) w (.returned (.tuple #[.pointer (some ⟨w.heap.size + 1, 0, none⟩), .int .i64 0])) ((w.alloc (.map #[] 0)).alloc (.cells #[.string ⟨s.toArray⟩, .map (some w.heap.size), .int .i64 0, .slice none 0 0, .bool false] 92)) := by
    refine ⟨w.heap.size + 1, .mk (diskA_open.2 ⟨w.heap.size, .slice none 0 0, ?_⟩) (((Keeps.refl w).alloc _).alloc _)⟩
    have hsz : (w.alloc (.map #[] 0)).heap.size = w.heap.size + 1 := by simp
    have H1 := (mapA_made H Tryz.prog 3).alloc (.cells #[.string ⟨s.toArray⟩, .map (some w.heap.size), .int .i64 0, .slice none 0 0, .bool false] 92)
    rw [hsz] at H1
    have e1 : mapD w.heap.size (Dk.new s) = mapA Tryz.prog 3 w.heap.size (fun _ => none) 0 := by
      unfold mapD
      have h1 : (Dk.new s).cnt = 0 := by simp [Dk.cnt, Dk.new]
      have h2 : wrM (Dk.new s) = fun _ => none := by
        funext kl
        unfold wrM liftI
        split
        · rename_i x
          have : (Dk.new s).w? x.toNat = none := by
            simp only [Dk.w?, Dk.new, List.getD_eq_getElem?_getD, List.getElem?_replicate]
            split <;> rfl
          simp [this]
        · rfl
      rw [h1, h2]
    have e2 : diskCells (Dk.new s) w.heap.size (.slice none 0 0) = #[.string ⟨s.toArray⟩, .map (some w.heap.size), .int .i64 0, .slice none 0 0, .bool false] := by
      show #[strV (Dk.chunks s).flatten, .map (some w.heap.size), .int .i64 0, .slice none 0 0, .bool false] = _
      rw [hfl]; rfl
    rw [e1, e2]
    have e3 : intsA (.slice none 0 0) (Dk.new s).kept * F = F := by
      have : intsA (.slice none 0 0) (Dk.new s).kept = 1 := by
        funext h
        apply propext
        constructor
        · rintro (⟨a, c, ⟨_, _⟩, hh⟩ | ⟨g, cs, c, hh⟩)
          · exact hh
          · have h2 : (pur _ * pt g (.cells cs 3 (0, 0))) h := hh
            rw [pur_sep] at h2
            exact absurd rfl h2.1.1
        · intro hh
          exact .inl ⟨none, 0, ⟨rfl, rfl⟩, hh⟩
      rw [this, emp_sep]
    rw [e3]
    exact H1
  clear h0 h1 h2 hok hfl
  unfold strV
  go_enter Tryz.func41, Tryz.ntmps41
  go_wp2_with fail
  go_ret2
  exact hfin

/-- The power goes in a disk whose kept numbers are another's, too. -/
theorem Crash_B {db : Nat} {kv : Value} {D : Dk} {F : HProp} {w : World} (hD : D.Ok) (H : Holds (diskB db kv D * F) w) {ka : Value} {xs : List Int} (hr : Reads F ka xs) :
    Calls Tryz.prog 31 #[.pointer (some ⟨db, 0, none⟩), ka] w (Ret (.int .i64 (D.crash xs).2) (diskB db kv (D.crash xs).1 * F) w) := by
  have H0 := H
  obtain ⟨a, c, rfl, _⟩ := hr w H.right
  have hcl := Lib.hid (dies_calls hD H hr)
  clear hr
  obtain ⟨mb, H⟩ := diskB_open.1 H
  have c4 := H.cell 4 (v := .bool D.dead) rfl
  cases hdead : D.dead with
  | true =>
    rw [hdead] at c4
    have hfin : Ret (.int .i64 (D.crash xs).2) (diskB db kv (D.crash xs).1 * F) w (.returned (.int .i64 2)) w := by
      simp only [Dk.crash, hdead, if_true]; exact .mk H0 (.refl _)
    clear hdead
    go_enter Tryz.func31, Tryz.ntmps31
    go_wp2_with fail
    go_ret
    exact hfin
  | false =>
    rw [hdead] at c4
    have hres : D.crash xs = (D.die xs, 0) := by simp only [Dk.crash, hdead, Bool.false_eq_true, if_false]
    rw [hres]
    clear hres hdead
    go_enter Tryz.func31, Tryz.ntmps31
    go_wp2_with fail
    refine hcl.out.mono ?_
    rintro e w1 ⟨rfl, H1, K1⟩
    go_wp2_with fail
    go_ret
    exact .mk H1 K1
end Go.Proofs.YtmeepegllkhlcaaGreat
