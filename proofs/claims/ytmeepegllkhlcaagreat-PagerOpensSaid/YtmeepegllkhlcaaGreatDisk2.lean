/-
  A disk's calls that write: becomes, dies, Write, Sync, Arm, Crash, Revive, Clone, New; After and Image.
-/
import Derived.Test.YtmeepegllkhlcaaGreatLeft
namespace Go.Proofs.YtmeepegllkhlcaaGreat
open Go Go.RowKit Go.Maps

theorem Image1_calls (j : Int) (w : World) : Calls Tryz.prog 59 #[.int .i64 j] w fun e w'' => e = .returned (.bool true) ∧ w = w'' := by
  go_enter Tryz.func59, Tryz.ntmps59
  go_wp2
  go_ret
  exact ⟨rfl, rfl⟩

theorem Image_calls {db : Nat} {kv : Value} {D : Dk} {F : HProp} {w : World} (hD : D.Ok) (H : Holds (diskB db kv D * F) w) :
    Calls Tryz.prog 15 #[.pointer (some ⟨db, 0, none⟩)] w (Ret (strV D.image.flatten) (diskB db kv D * F) w) := by
  have hc := left_calls hD H 59 #[] (fun _ => true) (enters_of Tryz.func59 (by kernel_rfl) rfl) (fun j w' _ _ => Image1_calls j w')
  have HC := Lib.hid hc
  clear hc
  go_enter Tryz.func15, Tryz.ntmps15
  go_wp2_with fail
  refine HC.out.mono ?_
  rintro e w1 ⟨rfl, H1, K1⟩
  go_wp2_with fail
  go_ret
  exact .mk H1 K1

/-- A slice of ints that can be read wherever F holds. -/
def Reads (F : HProp) (kv : Value) (xs : List Int) : Prop := ∀ w, Holds F w → RInts w kv xs

theorem After1_calls {F : HProp} {w : World} {B : Nat} {kv : Value} {xs : List Int} (hr : Reads F kv xs) (H : Holds (pt B (.cells #[kv] 38 (0, 0)) * F) w) (j : Nat) (hj : j ≤ 4096) :
    Calls Tryz.prog 77 #[.int .i64 (j : Int), .pointer (some ⟨B, 0, none⟩)] w fun e w'' => e = .returned (.bool (Dk.comes xs j)) ∧ w = w'' := by
  obtain ⟨a, c, rfl, h1, h2, h3⟩ := hr w H.right
  have c0 := H.cell 0 (v := .slice a xs.length c) rfl
  by_cases hlt : j < xs.length
  · obtain ⟨ad, rfl, h4⟩ := h3 (by omega)
    have c1 := h4 j hlt
    have hfin : Dk.comes xs j = decide (0 < xs.getD j 0) := by
      simp [Dk.comes, List.getElem?_eq_getElem hlt, List.getD_eq_getElem?_getD]
    rw [hfin]
    obtain ⟨x, hx⟩ : ∃ x, x = xs.getD j 0 := ⟨_, rfl⟩
    rw [← hx] at c1 ⊢
    clear hx hfin h4 h3 hr
    go_enter Tryz.func77, Tryz.ntmps77
    go_wp2
    go_ret
    exact ⟨rfl, rfl⟩
  · have hfin : Dk.comes xs j = false := by
      simp [Dk.comes, List.getElem?_eq_none (Nat.not_lt.1 hlt)]
    rw [hfin]
    have hd : decide (j < xs.length) = false := by simpa using hlt
    clear hfin h3 hr
    go_enter Tryz.func77, Tryz.ntmps77
    go_wp2
    go_ret
    exact ⟨rfl, rfl⟩

theorem After_calls {db : Nat} {kv : Value} {D : Dk} {F : HProp} {w : World} (hD : D.Ok) (H : Holds (diskB db kv D * F) w) {ka : Value} {xs : List Int} (hr : Reads F ka xs) :
    Calls Tryz.prog 39 #[.pointer (some ⟨db, 0, none⟩), ka] w (Ret (strV (D.after xs).flatten) (diskB db kv D * F) w) := by
  obtain ⟨a, c, rfl, _⟩ := hr w H.right
  have H1 := H.alloc (.cells #[.slice a xs.length c] 38)
  rw [sep_left_comm] at H1
  have hc := left_calls hD H1 77 #[.pointer (some ⟨w.heap.size, 0, none⟩)] (Dk.comes xs) (enters_of Tryz.func77 (by kernel_rfl) rfl) (fun j w' hj HF => After1_calls hr HF j hj)
  have HC := Lib.hid hc
  clear hc
  have K0 := (Keeps.refl w).alloc (.cells #[.slice a xs.length c] 38)
  have hmf : ∀ (fn : Fn) (first cap : Array Value) (w : World), (Instr.makeFunc fn first cap).run Tryz.prog w = .ok (.func fn first cap) w := fun _ _ _ _ => rfl
  go_enter Tryz.func39, Tryz.ntmps39
  go_wp2_with fail
  refine HC.out.mono ?_
  rintro e w1 ⟨rfl, H2, K2⟩
  rw [sep_left_comm] at H2
  have H3 := H2.right
  have K3 := K0.trans K2
  go_wp2_with fail
  go_ret
  exact .mk H3 K3

theorem becomes_calls {db : Nat} {kv : Value} {D : Dk} {F : HProp} {w : World} (s : List Bs) (H : Holds (diskB db kv D * F) w) :
    Calls Tryz.prog 92 #[.pointer (some ⟨db, 0, none⟩), strV s.flatten] w (Ret (.tuple #[]) (diskB db kv (D.becomes s) * F) w) := by
  obtain ⟨mb, H⟩ := diskB_open.1 H
  have hdb := H.lt
  have c0 := H.cell 0 (v := .string ⟨D.safe.flatten.toArray⟩) rfl
  have c1 := H.cell 1 (v := .map (some mb)) rfl
  have f0 := H.unfz 0
  have f1 := H.unfz 1
  have hmm := @run_makeMap Tryz.prog
  have hsz : ((w.setCell ⟨db, 0, none⟩ (strV s.flatten)).setCell ⟨db, 1, none⟩ (.map (some w.heap.size))).heap.size = w.heap.size := by simp [World.setCell]
  have hfin : Ret (.tuple #[]) (diskB db kv (D.becomes s) * F) w (.returned (.tuple #[])) (((w.setCell ⟨db, 0, none⟩ (strV s.flatten)).setCell ⟨db, 1, none⟩ (.map (some w.heap.size))).alloc (.map #[] 0)) := by
    refine .mk (diskB_open.2 ⟨w.heap.size, ?_⟩) ((((Keeps.refl w).setCell _ _).setCell _ _).alloc _)
    have H2 := (H.setCell (off := 0) (strV s.flatten)).setCell (off := 1) (.map (some w.heap.size))
    have H1 := mapA_made H2 Tryz.prog 3
    rw [hsz] at H1
    rw [sep_left_comm] at H1
    have e1 : mapD w.heap.size (D.becomes s) = mapA Tryz.prog 3 w.heap.size (fun _ => none) 0 := by
      unfold mapD
      have h1 : (D.becomes s).cnt = 0 := by simp [Dk.cnt, Dk.becomes]
      have h2 : wrM (D.becomes s) = fun _ => none := by
        funext kl
        unfold wrM liftI
        split
        · rename_i x
          have : (D.becomes s).w? x.toNat = none := by
            simp only [Dk.w?, Dk.becomes, List.getD_eq_getElem?_getD, List.getElem?_replicate]
            split <;> rfl
          simp [this]
        · rfl
      rw [h1, h2]
    rw [e1]
    have H3 : Holds (pt db (.cells (diskCells (D.becomes s) w.heap.size kv) 92 (0, 0)) * (mapA Tryz.prog 3 w.heap.size (fun _ => none) 0 * (mapD mb D * F))) _ := H1
    have e2 : ∀ A B C E : HProp, A * (B * (C * E)) = C * (A * (B * E)) := by intro A B C E; ac_rfl
    rw [e2] at H3
    exact H3.right
  go_enter Tryz.func92, Tryz.ntmps92
  unfold strV at hfin ⊢
  clear hsz
  go_wp2
  go_end0
  exact hfin

theorem dies_calls {db : Nat} {kv : Value} {D : Dk} {F : HProp} {w : World} (hD : D.Ok) (H : Holds (diskB db kv D * F) w) {ka : Value} {xs : List Int} (hr : Reads F ka xs) :
    Calls Tryz.prog 70 #[.pointer (some ⟨db, 0, none⟩), ka] w (Ret (.tuple #[]) (diskB db kv (D.die xs) * F) w) := by
  obtain ⟨a, c, rfl, _⟩ := hr w H.right
  have h1 := Lib.hid (After_calls hD H hr)
  clear hr
  go_enter Tryz.func70, Tryz.ntmps70
  go_wp2_with fail
  refine h1.out.mono ?_
  rintro e w1 ⟨rfl, H1, K1⟩
  go_wp2_with fail
  refine (becomes_calls (D.after xs) H1).mono ?_
  rintro e w2 ⟨rfl, H2, K2⟩
  have K3 := K1.trans K2
  obtain ⟨mb, H2⟩ := diskB_open.1 H2
  have c2 := H2.cell 2 (v := .int .i64 D.armed) rfl
  have c4 := H2.cell 4 (v := .bool D.dead) rfl
  have f2 := H2.unfz 2
  have f4 := H2.unfz 4
  have hfin : Ret (.tuple #[]) (diskB db kv (D.die xs) * F) w (.returned (.tuple #[])) ((w2.setCell ⟨db, 2, none⟩ (.int .i64 0)).setCell ⟨db, 4, none⟩ (.bool true)) := by
    refine .mk (diskB_open.2 ⟨mb, ?_⟩) ((K3.setCell _ _).setCell _ _)
    exact (H2.setCell (off := 2) (.int .i64 0)).setCell (off := 4) (.bool true)
  clear K1 K2 K3 H1 H2 h1
  go_wp2_with fail
  go_end0
  exact hfin

theorem Revive_calls {db : Nat} {kv : Value} {D : Dk} {F : HProp} {w : World} (H : Holds (diskB db kv D * F) w) :
    Calls Tryz.prog 33 #[.pointer (some ⟨db, 0, none⟩)] w (Ret (.tuple #[]) (diskB db kv D.revive * F) w) := by
  obtain ⟨mb, H⟩ := diskB_open.1 H
  have c2 := H.cell 2 (v := .int .i64 D.armed) rfl
  have c4 := H.cell 4 (v := .bool D.dead) rfl
  have f2 := H.unfz 2
  have f4 := H.unfz 4
  have hfin : Ret (.tuple #[]) (diskB db kv D.revive * F) w (.returned (.tuple #[])) ((w.setCell ⟨db, 2, none⟩ (.int .i64 0)).setCell ⟨db, 4, none⟩ (.bool false)) :=
    .mk (diskB_open.2 ⟨mb, (H.setCell (off := 2) (.int .i64 0)).setCell (off := 4) (.bool false)⟩) (((Keeps.refl w).setCell _ _).setCell _ _)
  clear H
  go_enter Tryz.func33, Tryz.ntmps33
  go_wp2_with fail
  go_end0
  exact hfin

theorem CloneInts_calls {F : HProp} {w : World} {kv : Value} {xs : List Int} (hr : RInts w kv xs) (hb : xs.length * 8 ≤ 140737488355328) (H : Holds F w) :
    Calls Tryz.prog 69 #[kv] w fun e w' => ∃ v, Ret v (intsA v xs * F) w e w' := by
  obtain ⟨a, c, rfl, h1, h2, h3⟩ := hr
  by_cases h0 : xs.length = 0
  · have hx : xs = [] := List.eq_nil_of_length_eq_zero h0
    subst hx
    cases a with
    | none =>
      refine (Tryz.slices_Clone_int_nil 0 c w).mono ?_
      rintro e w' ⟨rfl, rfl⟩
      exact ⟨_, .mk (holds_own_ints (xs := []) H (Below.refl _ _) (base := w'.heap.size) ⟨rfl, .inl ⟨rfl, rfl⟩⟩ (Nat.le_refl _)) (.refl _)⟩
    | some ad =>
      refine (Tryz.slices_Clone_int_zero ad c w).mono ?_
      rintro e w' ⟨v, rfl, hown, _, hbl⟩
      exact ⟨v, .mk (holds_own_ints (xs := []) H hbl hown (Nat.le_refl _)) (Keeps.below hbl)⟩
  · obtain ⟨ad, rfl, h4⟩ := h3 (by omega)
    obtain ⟨b, off, sp⟩ := ad
    have hsp : sp = none := by
      have := h4 0 (by omega)
      cases sp with
      | none => rfl
      | some q =>
        simp [World.cell?, Addr.add] at this
        split at this <;> simp_all
    subst hsp
    have hadd : ∀ j, (⟨b, off, none⟩ : Addr).add j = ⟨b, off + j, none⟩ := fun j => by unfold Addr.add; split <;> simp_all
    refine (Tryz.slices_Clone_int b off xs.length c xs w (Nat.le_refl _) hb (fun j hj => by rw [← hadd]; exact h4 j hj)).mono ?_
    rintro e w' ⟨v, rfl, hown, _, hbl⟩
    rw [List.take_length] at hown
    exact ⟨v, .mk (holds_own_ints H hbl hown (Nat.le_refl _)) (Keeps.below hbl)⟩

theorem Arm_calls {db : Nat} {D : Dk} {F : HProp} {w : World} (H : Holds (diskA db D * F) w) (m : Int) {kv : Value} {xs : List Int} (hr : Reads F kv xs) (hb : xs.length * 8 ≤ 140737488355328) :
    Calls Tryz.prog 29 #[.pointer (some ⟨db, 0, none⟩), .int .i64 m, kv] w (Ret (.int .i64 (D.arm m xs).2) (diskA db (D.arm m xs).1 * F) w) := by
  have H0 := H
  obtain ⟨a, c, rfl, _⟩ := hr w H.right
  have hcl := CloneInts_calls (hr w H.right) hb H
  have HC := Lib.hid hcl
  clear hcl hr
  obtain ⟨mb, kv, H⟩ := diskA_open.1 H
  have c4 := H.cell 4 (v := .bool D.dead) rfl
  cases hdead : D.dead with
  | true =>
    rw [hdead] at c4
    have hfin : Ret (.int .i64 (D.arm m xs).2) (diskA db (D.arm m xs).1 * F) w (.returned (.int .i64 2)) w := by
      simp only [Dk.arm, hdead, if_true]; exact .mk H0 (.refl _)
    clear hdead
    go_enter Tryz.func29, Tryz.ntmps29
    go_wp2_with fail
    go_ret
    exact hfin
  | false =>
    rw [hdead] at c4
    by_cases hm : m < 0
    · have hfin : Ret (.int .i64 (D.arm m xs).2) (diskA db (D.arm m xs).1 * F) w (.returned (.int .i64 1)) w := by
        simp only [Dk.arm, hdead, hm, if_true, Bool.false_eq_true, if_false]; exact .mk H0 (.refl _)
      clear hdead
      go_enter Tryz.func29, Tryz.ntmps29
      go_wp2_with fail
      go_ret
      exact hfin
    · have hres : D.arm m xs = ({ D with armed := m, kept := xs }, 0) := by
        simp only [Dk.arm, hdead, hm, Bool.false_eq_true, if_false]
      rw [hres]
      clear hres hdead
      go_enter Tryz.func29, Tryz.ntmps29
      go_wp2_with fail
      refine HC.out.mono ?_
      rintro e w1 ⟨v, rfl, H1, K1⟩
      rw [sep_left_comm] at H1
      obtain ⟨a', c', hv, _⟩ : ∃ a' c', v = .slice a' xs.length c' ∧ True := by
        have := H1
        rw [sep_left_comm] at this
        obtain ⟨a', c', hv, _⟩ := intsA_cells this
        exact ⟨a', c', hv, trivial⟩
      subst hv
      obtain ⟨mb1, kv1, H1⟩ := diskA_open.1 H1
      have d2 := H1.cell 2 (v := .int .i64 D.armed) rfl
      have d3 := H1.cell 3 (v := kv1) rfl
      have f2 := H1.unfz 2
      have f3 := H1.unfz 3
      have hfin : Ret (.int .i64 0) (diskA db { D with armed := m, kept := xs } * F) w (.returned (.int .i64 0)) ((w1.setCell ⟨db, 2, none⟩ (.int .i64 m)).setCell ⟨db, 3, none⟩ (.slice a' xs.length c')) := by
        refine .mk (diskA_open.2 ⟨mb1, .slice a' xs.length c', ?_⟩) ((K1.setCell _ _).setCell _ _)
        have H2 := (H1.setCell (off := 2) (.int .i64 m)).setCell (off := 3) (.slice a' xs.length c')
        have e2 : ∀ A B C E G : HProp, A * (B * (C * (E * G))) = C * (A * (B * (E * G))) := by intro A B C E G; ac_rfl
        rw [e2] at H2
        exact H2.right
      clear H1 K1 H H0
      go_wp2_with fail
      go_ret
      exact hfin

theorem Reads.frame {F : HProp} {kv : Value} {xs : List Int} (h : Reads F kv xs) (G : HProp) : Reads (G * F) kv xs := fun w hw => h w hw.right

/-! ### the calls, at a disk with what it keeps -/
theorem A_dies {db : Nat} {D : Dk} {F : HProp} {w : World} (hD : D.Ok) (H : Holds (diskA db D * F) w) {ka : Value} {xs : List Int} (hr : Reads F ka xs) :
    Calls Tryz.prog 70 #[.pointer (some ⟨db, 0, none⟩), ka] w (Ret (.tuple #[]) (diskA db (D.die xs) * F) w) := by
  obtain ⟨kv, H⟩ := diskA_B.1 H
  refine (dies_calls hD H (hr.frame _)).mono ?_
  rintro e w' ⟨rfl, H1, K1⟩
  exact .mk (diskA_B.2 ⟨kv, H1⟩) K1
theorem A_Image {db : Nat} {D : Dk} {F : HProp} {w : World} (hD : D.Ok) (H : Holds (diskA db D * F) w) :
    Calls Tryz.prog 15 #[.pointer (some ⟨db, 0, none⟩)] w (Ret (strV D.image.flatten) (diskA db D * F) w) := by
  obtain ⟨kv, H⟩ := diskA_B.1 H
  refine (Image_calls hD H).mono ?_
  rintro e w' ⟨rfl, H1, K1⟩
  exact .mk (diskA_B.2 ⟨kv, H1⟩) K1
theorem A_After {db : Nat} {D : Dk} {F : HProp} {w : World} (hD : D.Ok) (H : Holds (diskA db D * F) w) {ka : Value} {xs : List Int} (hr : Reads F ka xs) :
    Calls Tryz.prog 39 #[.pointer (some ⟨db, 0, none⟩), ka] w (Ret (strV (D.after xs).flatten) (diskA db D * F) w) := by
  obtain ⟨kv, H⟩ := diskA_B.1 H
  refine (After_calls hD H (hr.frame _)).mono ?_
  rintro e w' ⟨rfl, H1, K1⟩
  exact .mk (diskA_B.2 ⟨kv, H1⟩) K1
theorem A_Unsafe {db : Nat} {D : Dk} {F : HProp} {w : World} (hD : D.Ok) (H : Holds (diskA db D * F) w) :
    Calls Tryz.prog 17 #[.pointer (some ⟨db, 0, none⟩)] w fun e w' => ∃ v, Ret v (intsA v D.unsafesI * (diskA db D * F)) w e w' := by
  obtain ⟨kv, H⟩ := diskA_B.1 H
  refine (Unsafe_calls hD H).mono ?_
  rintro e w' ⟨v, rfl, H1, K1⟩
  refine ⟨v, .mk ?_ K1⟩
  rw [sep_left_comm] at H1 ⊢
  refine diskA_B.2 ⟨kv, ?_⟩
  have e1 : ∀ A B C E : HProp, A * (B * (C * E)) = A * (C * (B * E)) := by intro A B C E; ac_rfl
  rw [e1] at H1
  exact H1
theorem A_Count {db : Nat} {D : Dk} {F : HProp} {w : World} (hD : D.Ok) (H : Holds (diskA db D * F) w) :
    Calls Tryz.prog 79 #[.pointer (some ⟨db, 0, none⟩)] w fun e w' => e = .returned (.int .i64 (D.n : Int)) ∧ w = w' := by
  obtain ⟨kv, H⟩ := diskA_B.1 H
  exact Count_calls hD H
theorem A_Dead {db : Nat} {D : Dk} {F : HProp} {w : World} (H : Holds (diskA db D * F) w) :
    Calls Tryz.prog 80 #[.pointer (some ⟨db, 0, none⟩)] w fun e w' => e = .returned (.bool D.dead) ∧ w = w' := by
  obtain ⟨kv, H⟩ := diskA_B.1 H
  exact Dead_calls H
theorem A_step {db : Nat} {D : Dk} {F : HProp} {w : World} (hD : D.Ok) (H : Holds (diskA db D * F) w) :
    Calls Tryz.prog 91 #[.pointer (some ⟨db, 0, none⟩)] w (Ret (.bool D.gone) (diskA db D.stepD * F) w) := by
  obtain ⟨kv, H⟩ := diskA_B.1 H
  refine (step_calls hD H).mono ?_
  rintro e w' ⟨rfl, H1, K1⟩
  exact .mk (diskA_B.2 ⟨kv, by rw [Dk.stepD_kept]; exact H1⟩) K1
theorem A_becomes {db : Nat} {D : Dk} {F : HProp} {w : World} (s : List Bs) (H : Holds (diskA db D * F) w) :
    Calls Tryz.prog 92 #[.pointer (some ⟨db, 0, none⟩), strV s.flatten] w (Ret (.tuple #[]) (diskA db (D.becomes s) * F) w) := by
  obtain ⟨kv, H⟩ := diskA_B.1 H
  refine (becomes_calls s H).mono ?_
  rintro e w' ⟨rfl, H1, K1⟩
  exact .mk (diskA_B.2 ⟨kv, H1⟩) K1
theorem A_Revive {db : Nat} {D : Dk} {F : HProp} {w : World} (H : Holds (diskA db D * F) w) :
    Calls Tryz.prog 33 #[.pointer (some ⟨db, 0, none⟩)] w (Ret (.tuple #[]) (diskA db D.revive * F) w) := by
  obtain ⟨kv, H⟩ := diskA_B.1 H
  refine (Revive_calls H).mono ?_
  rintro e w' ⟨rfl, H1, K1⟩
  exact .mk (diskA_B.2 ⟨kv, H1⟩) K1
theorem A_Read {db : Nat} {D : Dk} {F : HProp} {w : World} (hD : D.Ok) (H : Holds (diskA db D * F) w) (a c : Int) (ha : -9223372036854775808 ≤ a) (ha' : a ≤ 9223372036854775807) (hc : -9223372036854775808 ≤ c) (hc' : c ≤ 9223372036854775807) :
    Calls Tryz.prog 44 #[.pointer (some ⟨db, 0, none⟩), .int .i64 a, .int .i64 c] w (Ret (.tuple #[strV (D.read a c).1, .int .i64 (D.read a c).2]) (diskA db D * F) w) := by
  obtain ⟨kv, H⟩ := diskA_B.1 H
  refine (Read_calls hD H a c ha ha' hc hc').mono ?_
  rintro e w' ⟨rfl, H1, K1⟩
  exact .mk (diskA_B.2 ⟨kv, H1⟩) K1

theorem Crash_calls {db : Nat} {D : Dk} {F : HProp} {w : World} (hD : D.Ok) (H : Holds (diskA db D * F) w) {kv : Value} {xs : List Int} (hr : Reads F kv xs) :
    Calls Tryz.prog 31 #[.pointer (some ⟨db, 0, none⟩), kv] w (Ret (.int .i64 (D.crash xs).2) (diskA db (D.crash xs).1 * F) w) := by
  have H0 := H
  obtain ⟨a, c, rfl, _⟩ := hr w H.right
  have hcl := Lib.hid (A_dies hD H hr)
  clear hr
  obtain ⟨mb, kv, H⟩ := diskA_open.1 H
  have c4 := H.cell 4 (v := .bool D.dead) rfl
  cases hdead : D.dead with
  | true =>
    rw [hdead] at c4
    have hfin : Ret (.int .i64 (D.crash xs).2) (diskA db (D.crash xs).1 * F) w (.returned (.int .i64 2)) w := by
      simp only [Dk.crash, hdead, if_true]; exact .mk H0 (.refl _)
    clear hdead
    go_enter Tryz.func31, Tryz.ntmps31
    go_wp2_with fail
    go_ret
    exact hfin
  | false =>
    rw [hdead] at c4
    have hres : D.crash xs = (D.die xs, 0) := by simp only [Dk.crash, hdead, Bool.false_eq_true, if_false]
    rw [hres]
    clear hres hdead
    go_enter Tryz.func31, Tryz.ntmps31
    go_wp2_with fail
    refine hcl.out.mono ?_
    rintro e w1 ⟨rfl, H1, K1⟩
    go_wp2_with fail
    go_ret
    exact .mk H1 K1

/-- What a disk keeps can be read while its other blocks turn. -/
theorem reads_kept {kv : Value} {xs : List Int} (F : HProp) : Reads (intsA kv xs * F) kv xs := by
  intro w h
  obtain ⟨x, hx, a, b, d, rfl, h1, hF⟩ := h
  rcases h1 with ⟨ad, c, h1⟩ | ⟨g, cs, c, h1⟩
  · obtain ⟨⟨rfl, rfl⟩, _⟩ := h1
    exact ⟨ad, c, rfl, Nat.zero_le _, Nat.zero_le _, fun hp => by simp at hp⟩
  · have h2 : (pur _ * pt g (.cells cs 3 (0, 0))) a := h1
    rw [pur_sep] at h2
    obtain ⟨⟨hne, rfl, hc, hcm, hcell⟩, hp⟩ := h2
    have hat : w.heap[g]? = some (.cells cs 3 (0, 0)) := by
      refine hx g _ ?_
      rw [show a = _ from hp]
      simp [union]
    exact ⟨_, c, rfl, hc, Nat.le_trans hc hcm, fun _ => ⟨⟨g, 0, none⟩, rfl, fun j hj => by
      have hadd : (⟨g, 0, none⟩ : Addr).add j = ⟨g, j, none⟩ := by unfold Addr.add; split <;> simp_all
      rw [hadd]; simp [World.cell?, hat, hcell j hj]⟩⟩

/-- The power goes, and what was kept for it is left. -/
theorem A_dies_kept {db : Nat} {D : Dk} {F : HProp} {w : World} (hD : D.Ok) {kv : Value} (H : Holds (diskB db kv D * (intsA kv D.kept * F)) w) :
    Calls Tryz.prog 70 #[.pointer (some ⟨db, 0, none⟩), kv] w (Ret (.tuple #[]) (diskA db (D.die D.kept) * F) w) := by
  refine (dies_calls hD H (reads_kept F)).mono ?_
  rintro e w' ⟨rfl, H1, K1⟩
  exact .mk (diskA_B.2 ⟨kv, H1⟩) K1

theorem Sync_calls {db : Nat} {D : Dk} {F : HProp} {w : World} (hD : D.Ok) (H : Holds (diskA db D * F) w) :
    Calls Tryz.prog 54 #[.pointer (some ⟨db, 0, none⟩)] w (Ret (.int .i64 D.sync.2) (diskA db D.sync.1 * F) w) := by
  have H0 := H
  have hst := Lib.hid (A_step hD H)
  obtain ⟨mb, kv, H⟩ := diskA_open.1 H
  have c4 := H.cell 4 (v := .bool D.dead) rfl
  cases hdead : D.dead with
  | true =>
    rw [hdead] at c4
    have hfin : Ret (.int .i64 D.sync.2) (diskA db D.sync.1 * F) w (.returned (.int .i64 2)) w := by
      simp only [Dk.sync, hdead, if_true]; exact .mk H0 (.refl _)
    clear hdead
    go_enter Tryz.func54, Tryz.ntmps54
    go_wp2_with fail
    go_ret
    exact hfin
  | false =>
    rw [hdead] at c4
    by_cases hg : D.armed = 1
    · have hg' : D.gone = true := by simp [Dk.gone, hg]
      have hres : D.sync = (D.stepD.die D.kept, 2) := by simp only [Dk.sync, hdead, hg, Bool.false_eq_true, if_false, if_true]
      rw [hres]
      rw [hg'] at hst
      clear hres hdead hg hg'
      go_enter Tryz.func54, Tryz.ntmps54
      go_wp2_with fail
      refine hst.out.mono ?_
      rintro e w1 ⟨rfl, H1, K1⟩
      obtain ⟨kv1, H1⟩ := diskA_B.1 H1
      obtain ⟨ak, ck, hkv, _⟩ : ∃ a' c', kv1 = .slice a' D.stepD.kept.length c' ∧ True := by
        have := H1.right
        obtain ⟨a', c', hv, _⟩ := intsA_cells this
        exact ⟨a', c', hv, trivial⟩
      subst hkv
      have hd := A_dies_kept hD.stepD H1
      obtain ⟨mb1, H2⟩ := diskB_open.1 H1
      have d3 := H2.cell 3 (v := .slice ak D.stepD.kept.length ck) rfl
      rw [Dk.stepD_kept] at hd d3
      have hd' := Lib.hid hd
      clear hd H1 H2
      go_wp2_with fail
      refine hd'.out.mono ?_
      rintro e w2 ⟨rfl, H2, K2⟩
      have K3 := K1.trans K2
      go_wp2_with fail
      go_ret
      exact .mk H2 K3
    · have hg' : D.gone = false := by simp [Dk.gone, hg]
      have hres : D.sync = (D.stepD.becomes D.image, 0) := by simp only [Dk.sync, hdead, hg, Bool.false_eq_true, if_false]
      have him : D.stepD.image = D.image := by
        have e1 : D.stepD.unsafes = D.unsafes := by unfold Dk.unsafes Dk.w?; rw [Dk.stepD_wr]
        have e2 : ∀ i, D.stepD.sec i = D.sec i := fun i => by unfold Dk.sec Dk.w?; rw [Dk.stepD_wr, Dk.stepD_safe]
        have e3 : ∀ c k, D.stepD.leftTo c k = D.leftTo c k := by
          intro c k
          induction k with
          | zero => exact Dk.stepD_safe D
          | succ k ih => simp only [Dk.leftTo, ih, e1, e2]
        unfold Dk.image Dk.left
        rw [e3, e1]
      rw [hres]
      rw [hg'] at hst
      clear hres hdead hg hg'
      go_enter Tryz.func54, Tryz.ntmps54
      go_wp2_with fail
      refine hst.out.mono ?_
      rintro e w1 ⟨rfl, H1, K1⟩
      have hi := A_Image hD.stepD H1
      rw [him] at hi
      have hi' := Lib.hid hi
      clear hi him H1
      go_wp2_with fail
      refine hi'.out.mono ?_
      rintro e w2 ⟨rfl, H2, K2⟩
      have hb := Lib.hid (A_becomes D.image H2)
      have K3 := K1.trans K2
      clear H2 K2 K1 hi'
      go_wp2_with fail
      refine hb.out.mono ?_
      rintro e w3 ⟨rfl, H3, K4⟩
      have K5 := K3.trans K4
      go_wp2_with fail
      go_ret
      exact .mk H3 K5
end Go.Proofs.YtmeepegllkhlcaaGreat
