/-
  The document's disk: die, Read, Write, Sync, Arm, Crash, New.
-/
import Derived.Test.YtmeepegllkhlcaaGreatR17b
namespace Go.Proofs.YtmeepegllkhlcaaGreat
open Go Go.RowKit Go.Maps

theorem madeStrs (n : Nat) : (madeCells (Value.string ⟨#[]⟩).cells (n * 1)).toList = (List.replicate n ([] : Bs)).map strV := by
  unfold madeCells
  simp [Value.cells, List.map_replicate, strV, Nat.mod_one, List.map_const']

/-! ### die -/
theorem wrL_die (D : Dk) (xs : List Int) : wrL (D.die xs) = List.replicate D.n [] := by
  have h : (D.after xs).length = D.n := Dk.left_length D _
  show ((List.replicate (D.after xs).length (none : Option Bs)).map fun x => x.getD []) = _
  rw [h]
  simp
theorem Rdie_calls {rb : Nat} {kv : Value} {D : Dk} {F : HProp} {w : World} (hD : D.Ok) (H : Holds (rdB rb kv D * F) w) {ka : Value} {xs : List Int} (hr : Reads F ka xs) :
    Calls Tryz.prog 71 #[.pointer (some ⟨rb, 0, none⟩), ka] w (Ret (.tuple #[]) (rdB rb kv (D.die xs) * F) w) := by
  obtain ⟨i0, hi, hz0, hz1, hz2⟩ := info_parts Tryz_infoStr
  have hn : D.n ≤ 4096 := hD.most
  have hn1 : 1 ≤ D.n := hD.pos
  obtain ⟨a, c, rfl, _⟩ := hr w H.right
  have HL := Lib.hid (Rleft_calls hD H hr)
  have hlen : (D.left (Dk.comes xs)).length = D.n := Dk.left_length D _
  have Hlen := Lib.hid hlen
  clear hr hlen
  go_enter Tryz.func71, Tryz.ntmps71
  go_wp2_with fail
  refine HL.out.mono ?_
  rintro e w1 ⟨v, rfl, H1, K1⟩
  obtain ⟨g, cap, hv, _⟩ := rowS_cell H1
  rw [Hlen.out] at hv
  subst hv
  have H2 := H1
  rw [sep_left_comm] at H2
  obtain ⟨sv, wv, HX⟩ := rdB_open.1 H2
  have d0 := HX.cell 0 (v := sv) rfl
  have d1 := HX.cell 1 (v := wv) rfl
  have d2 := HX.cell 2 (v := .int .i64 D.armed) rfl
  have d4 := HX.cell 4 (v := .bool D.dead) rfl
  have f0 := HX.unfz 0
  have f1 := HX.unfz 1
  have f2 := HX.unfz 2
  have f4 := HX.unfz 4
  have hrb := HX.lt
  have H3 := HX.setCell (off := 0) (.slice (some ⟨g, 0, none⟩) D.n cap)
  have K2 := K1.setCell ⟨rb, 0, none⟩ (.slice (some ⟨g, 0, none⟩) D.n cap)
  obtain ⟨sg, sc, hs, _⟩ := rowS_cell HX.right
  subst hs
  obtain ⟨wg, wc, hw, _⟩ := rowS_cell HX.right.right
  subst hw
  clear HL H1 H2 K1 HX
  go_wp2_with (at_make; refine wpList_make_full _ rfl _ _ _ rfl 0 9 i0 (.string ⟨#[]⟩) 1 Tryz.underlying79 hi hz0 hz1 .i64 .i64 (D.n : Int) (D.n : Int) D.n rfl rfl rfl rfl (by rw [hz2]; omega) (by unfold maxLen; omega) (Nat.zero_le _) ?_; intro w2 hown2 hg2; rw [madeStrs] at hown2; have e4 := H3.grow (fun j hj => hg2.block j hj (by simp)); have q1 := e4.cell 1 (v := .slice (some ⟨wg, 0, none⟩) (wrL D).length wc) rfl; have q2 := e4.cell 2 (v := .int .i64 D.armed) rfl; have q4 := e4.cell 4 (v := .bool D.dead) rfl; have p1 := e4.unfz 1; have p2 := e4.unfz 2; have p4 := e4.unfz 4)
  go_end0
  obtain ⟨g2, hg2d⟩ : ∃ g2, g2 = w1.heap.size := ⟨_, rfl⟩
  rw [World.size_setCell, ← hg2d] at hown2
  have HN : Holds (rowS (.slice (some ⟨g2, 0, none⟩) D.n D.n) (List.replicate D.n []) * (pt rb (.cells ((rdCells D (.slice (some ⟨sg, 0, none⟩) D.safe.length sc) (.slice (some ⟨wg, 0, none⟩) (wrL D).length wc) kv).setIfInBounds 0 (.slice (some ⟨g, 0, none⟩) D.n cap)) 84 (0, 0)) * (rowS (.slice (some ⟨sg, 0, none⟩) D.safe.length sc) D.safe * (rowS (.slice (some ⟨wg, 0, none⟩) (wrL D).length wc) (wrL D) * (rowS (.slice (some ⟨g, 0, none⟩) D.n cap) (D.left (Dk.comes xs)) * F))))) w2 := by
    have hown3 : w2.ownsRow 0 9 1 (.slice (some ⟨g2, 0, none⟩) D.n D.n) (List.replicate D.n ([] : Bs)).length ((List.replicate D.n ([] : Bs)).map strV) := by
      rw [List.length_replicate]; exact hown2
    refine rowS_of_own hown3 (by rw [List.length_replicate]; omega) (fun g' n c hv _ o ho => ?_)
    have hgg : g' = g2 := by
      simp only [Value.slice.injEq, Option.some.injEq, Addr.mk.injEq] at hv
      exact hv.1.1.symm
    rw [hgg] at ho ⊢
    exact H3.fresh (by rw [World.size_setCell, hg2d]; exact Nat.le_refl _) ho (fun j hj => hg2.block j hj (by simp))
  have e5 : ∀ N A B C E G : HProp, N * (A * (B * (C * (E * G)))) = A * (E * (N * (G * (B * C)))) := by intro N A B C E G; ac_rfl
  rw [e5] at HN
  have K5 := (((K2.trans (Keeps.grown hg2)).setCell ⟨rb, 1, none⟩ (.slice (some ⟨g2, 0, none⟩) D.n D.n)).setCell ⟨rb, 2, none⟩ (.int .i64 0)).setCell ⟨rb, 4, none⟩ (.bool true)
  have H5 := ((HN.setCell (off := 1) (.slice (some ⟨g2, 0, none⟩) D.n D.n)).setCell (off := 2) (.int .i64 0)).setCell (off := 4) (.bool true)
  have H6 : Holds (rdB rb kv (D.die xs) * F) ((((w2.setCell ⟨rb, 1, none⟩ (.slice (some ⟨g2, 0, none⟩) D.n D.n)).setCell ⟨rb, 2, none⟩ (.int .i64 0)).setCell ⟨rb, 4, none⟩ (.bool true))) := by
    refine rdB_open.2 ⟨.slice (some ⟨g, 0, none⟩) D.n cap, .slice (some ⟨g2, 0, none⟩) D.n D.n, ?_⟩
    rw [wrL_die]
    have e6 : ∀ A E N G B C : HProp, A * (E * (N * (G * (B * C)))) = (B * C) * (A * (E * (N * G))) := by intro A E N G B C; ac_rfl
    rw [e6] at H5
    exact H5.right
  rw [← hg2d]
  exact .mk H6 K5

/-! ### with what it keeps -/
theorem RA_Sector {rb : Nat} {D : Dk} {F : HProp} {w : World} (hD : D.Ok) (H : Holds (rdA rb D * F) w) (i : Nat) (hi : i < D.n) :
    Calls Tryz.prog 47 #[.pointer (some ⟨rb, 0, none⟩), .int .i64 (i : Int)] w fun e w' => e = .returned (strV (D.sec i)) ∧ w = w' := by
  obtain ⟨kv, H⟩ := rdA_B.1 H
  exact RSector_calls hD H i hi
theorem RA_Image {rb : Nat} {D : Dk} {F : HProp} {w : World} (hD : D.Ok) (H : Holds (rdA rb D * F) w) :
    Calls Tryz.prog 16 #[.pointer (some ⟨rb, 0, none⟩)] w (Ret (strV D.image.flatten) (rdA rb D * F) w) := by
  obtain ⟨kv, H⟩ := rdA_B.1 H
  refine (RImage_calls hD H).mono ?_
  rintro e w' ⟨rfl, H1, K1⟩
  exact .mk (rdA_B.2 ⟨kv, H1⟩) K1
theorem RA_Unsafe {rb : Nat} {D : Dk} {F : HProp} {w : World} (hD : D.Ok) (H : Holds (rdA rb D * F) w) :
    Calls Tryz.prog 18 #[.pointer (some ⟨rb, 0, none⟩)] w fun e w' => ∃ v, Ret v (intsA v D.unsafesI * (rdA rb D * F)) w e w' := by
  obtain ⟨kv, H⟩ := rdA_B.1 H
  refine (RUnsafe_calls hD H).mono ?_
  rintro e w' ⟨v, rfl, H1, K1⟩
  refine ⟨v, .mk ?_ K1⟩
  rw [sep_left_comm] at H1 ⊢
  exact rdA_B.2 ⟨kv, by rw [sep_left_comm (intsA v D.unsafesI)] at H1; exact H1⟩
theorem RA_After {rb : Nat} {D : Dk} {F : HProp} {w : World} (hD : D.Ok) (H : Holds (rdA rb D * F) w) {ka : Value} {xs : List Int} (hr : Reads F ka xs) :
    Calls Tryz.prog 40 #[.pointer (some ⟨rb, 0, none⟩), ka] w (Ret (strV (D.after xs).flatten) (rdA rb D * F) w) := by
  obtain ⟨kv, H⟩ := rdA_B.1 H
  refine (RAfter_calls hD H (hr.frame _)).mono ?_
  rintro e w' ⟨rfl, H1, K1⟩
  exact .mk (rdA_B.2 ⟨kv, H1⟩) K1
theorem RA_step {rb : Nat} {D : Dk} {F : HProp} {w : World} (hD : D.Ok) (H : Holds (rdA rb D * F) w) :
    Calls Tryz.prog 93 #[.pointer (some ⟨rb, 0, none⟩)] w (Ret (.bool D.gone) (rdA rb D.stepD * F) w) := by
  obtain ⟨kv, H⟩ := rdA_B.1 H
  refine (Rstep_calls hD H).mono ?_
  rintro e w' ⟨rfl, H1, K1⟩
  refine .mk (rdA_B.2 ⟨kv, ?_⟩) K1
  rw [Dk.stepD_kept]; exact H1
theorem RA_Revive {rb : Nat} {D : Dk} {F : HProp} {w : World} (H : Holds (rdA rb D * F) w) :
    Calls Tryz.prog 34 #[.pointer (some ⟨rb, 0, none⟩)] w (Ret (.tuple #[]) (rdA rb D.revive * F) w) := by
  obtain ⟨kv, H⟩ := rdA_B.1 H
  refine (RRevive_calls H).mono ?_
  rintro e w' ⟨rfl, H1, K1⟩
  exact .mk (rdA_B.2 ⟨kv, H1⟩) K1
theorem RA_die {rb : Nat} {D : Dk} {F : HProp} {w : World} (hD : D.Ok) (H : Holds (rdA rb D * F) w) {ka : Value} {xs : List Int} (hr : Reads F ka xs) :
    Calls Tryz.prog 71 #[.pointer (some ⟨rb, 0, none⟩), ka] w (Ret (.tuple #[]) (rdA rb (D.die xs) * F) w) := by
  obtain ⟨kv, H⟩ := rdA_B.1 H
  refine (Rdie_calls hD H (hr.frame _)).mono ?_
  rintro e w' ⟨rfl, H1, K1⟩
  exact .mk (rdA_B.2 ⟨kv, H1⟩) K1
theorem RA_die_kept {rb : Nat} {D : Dk} {F : HProp} {w : World} (hD : D.Ok) {kv : Value} (H : Holds (rdB rb kv D * (intsA kv D.kept * F)) w) :
    Calls Tryz.prog 71 #[.pointer (some ⟨rb, 0, none⟩), kv] w (Ret (.tuple #[]) (rdA rb (D.die D.kept) * F) w) := by
  refine (Rdie_calls hD H (reads_kept F)).mono ?_
  rintro e w' ⟨rfl, H1, K1⟩
  exact .mk (rdA_B.2 ⟨kv, H1⟩) K1

/-! ### Crash, Read -/
theorem RCrash_calls {rb : Nat} {D : Dk} {F : HProp} {w : World} (hD : D.Ok) (H : Holds (rdA rb D * F) w) {ka : Value} {xs : List Int} (hr : Reads F ka xs) :
    Calls Tryz.prog 32 #[.pointer (some ⟨rb, 0, none⟩), ka] w (Ret (.int .i64 (D.crash xs).2) (rdA rb (D.crash xs).1 * F) w) := by
  have H0 := H
  obtain ⟨a, c, rfl, _⟩ := hr w H.right
  have hcl := Lib.hid (RA_die hD H hr)
  clear hr
  obtain ⟨kv, H⟩ := rdA_B.1 H
  obtain ⟨sv, wv, H⟩ := rdB_open.1 H
  have c4 := H.cell 4 (v := .bool D.dead) rfl
  cases hdead : D.dead with
  | true =>
    rw [hdead] at c4
    have hfin : Ret (.int .i64 (D.crash xs).2) (rdA rb (D.crash xs).1 * F) w (.returned (.int .i64 2)) w := by
      simp only [Dk.crash, hdead, if_true]; exact .mk H0 (.refl _)
    clear hdead
    go_enter Tryz.func32, Tryz.ntmps32
    go_wp2_with fail
    go_ret
    exact hfin
  | false =>
    rw [hdead] at c4
    have hres : D.crash xs = (D.die xs, 0) := by simp only [Dk.crash, hdead, Bool.false_eq_true, if_false]
    rw [hres]
    clear hres hdead
    go_enter Tryz.func32, Tryz.ntmps32
    go_wp2_with fail
    refine hcl.out.mono ?_
    rintro e w1 ⟨rfl, H1, K1⟩
    go_wp2_with fail
    go_ret
    exact .mk H1 K1
end Go.Proofs.YtmeepegllkhlcaaGreat
