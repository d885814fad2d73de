/-
  A pager's Commit.
-/
import Derived.Test.YtmeepegllkhlcaaGreatPager2
namespace Go.Proofs.YtmeepegllkhlcaaGreat
open Go Go.RowKit Go.Maps

theorem is_used_calls {pb db : Nat} {p : Pg} {F : HProp} {w : World} {bx : Nat} (x : Int) (h0 : -9223372036854775808 ≤ x) (h1 : x ≤ 9223372036854775807)
    (H : Holds (pt bx (.cells #[.pointer (some ⟨pb, 0, none⟩)] 29 (0, 0)) * (pgA pb db p * F)) w) :
    Calls Tryz.prog 68 #[.int .i64 x, .pointer (some ⟨bx, 0, none⟩)] w (Ret (.bool (p.is x && p.used x)) (pt bx (.cells #[.pointer (some ⟨pb, 0, none⟩)] 29 (0, 0)) * (pgA pb db p * F)) w) := by
  have c0 := H.cell 0 (v := .pointer (some ⟨pb, 0, none⟩)) rfl
  have H0 := H
  rw [sep_left_comm] at H
  have hi := Lib.hid (is_calls H x)
  have hu := Lib.hid (used_calls H x h0 h1)
  cases his : p.is x with
  | false =>
    rw [his] at hi
    rw [Bool.false_and]
    clear his
    go_enter Tryz.func68, Tryz.ntmps68
    go_wp2_with (go_at_call 66; refine hi.out.mono ?_; rintro e w1 ⟨rfl, rfl⟩)
    go_ret
    exact .mk H0 (.refl _)
  | true =>
    rw [his] at hi
    rw [Bool.true_and]
    clear his
    go_enter Tryz.func68, Tryz.ntmps68
    go_wp2_with (go_at_call 66; refine hi.out.mono ?_; rintro e w1 ⟨rfl, rfl⟩)
    refine hu.out.mono ?_
    rintro e w2 ⟨rfl, H2, K2⟩
    rw [sep_left_comm] at H2
    go_wp2_with fail
    go_ret
    exact .mk H2 K2

/-- What a commit holds while it works. -/
def cmA (pb db bx mb : Nat) (p : Pg) (D : Dk) (l : List Int) (F : HProp) : HProp := pgA pb db p * (diskA db D * (pt bx (.cells #[.pointer (some ⟨pb, 0, none⟩)] 29 (0, 0)) * (setA mb l * F)))
theorem cm_cells {pb db bx mb : Nat} {p : Pg} {D : Dk} {l : List Int} {F : HProp} {w : World} (H : Holds (cmA pb db bx mb p D l F) w) :
    w.cell? ⟨bx, 0, none⟩ = some (.pointer (some ⟨pb, 0, none⟩)) ∧ w.cell? ⟨pb, 0, none⟩ = some (.pointer (some ⟨db, 0, none⟩)) ∧ w.cell? ⟨pb, 5, none⟩ = some (.int .i64 p.gen) := by
  unfold cmA at H
  have H1 := H
  obtain ⟨lb, tb, H1⟩ := pgA_open.1 H1
  have e1 : ∀ A B C E : HProp, A * (B * (C * E)) = C * (A * (B * E)) := by intro A B C E; ac_rfl
  rw [e1] at H
  exact ⟨H.cell 0 rfl, H1.cell 0 rfl, H1.cell 5 rfl⟩
theorem cm_Sync {pb db bx mb : Nat} {p : Pg} {D : Dk} {l : List Int} {F : HProp} {w : World} (hD : D.Ok) (H : Holds (cmA pb db bx mb p D l F) w) :
    Calls Tryz.prog 54 #[.pointer (some ⟨db, 0, none⟩)] w (Ret (.int .i64 D.sync.2) (cmA pb db bx mb p D.sync.1 l F) w) := by
  unfold cmA at *
  rw [sep_left_comm] at H
  refine (Sync_calls hD H).mono ?_
  rintro e w' ⟨rfl, H1, K1⟩
  rw [sep_left_comm] at H1
  exact .mk H1 K1
theorem cm_Write {pb db bx mb : Nat} {p : Pg} {D : Dk} {l : List Int} {F : HProp} {w : World} (hD : D.Ok) (H : Holds (cmA pb db bx mb p D l F) w) (at_ : Int) (ha : -9223372036854775808 ≤ at_) (ha' : at_ ≤ 9223372036854775807) (s : Bs) (hs : s.length ≤ 140737488355328) :
    Calls Tryz.prog 53 #[.pointer (some ⟨db, 0, none⟩), .int .i64 at_, strV s] w (Ret (.int .i64 (D.write at_ s).2) (cmA pb db bx mb p (D.write at_ s).1 l F) w) := by
  unfold cmA at *
  rw [sep_left_comm] at H
  refine (Write_calls hD H at_ ha ha' s hs).mono ?_
  rintro e w' ⟨rfl, H1, K1⟩
  rw [sep_left_comm] at H1
  exact .mk H1 K1
theorem cm_told {pb db bx mb : Nat} {p : Pg} {D : Dk} {l : List Int} {F : HProp} {w : World} (H : Holds (cmA pb db bx mb p D l F) w) (x : Int) :
    Calls Tryz.prog 63 #[.pointer (some ⟨pb, 0, none⟩), .int .i64 x] w (Ret (.int .i64 x) (cmA pb db bx mb (p.told x) D l F) w) := told_calls H x
theorem cm_head {pb db bx mb : Nat} {p : Pg} {D : Dk} {l : List Int} {F : HProp} {w : World} (H : Holds (cmA pb db bx mb p D l F) w) (gen root1 frm : Nat) (hg : gen < 9223372036854775808) (hr : root1 < 9223372036854775807) (hf : frm < 9223372036854775808) :
    Calls Tryz.prog 52 #[.int .i64 (gen : Int), .int .i64 ((root1 : Int) - 1), .int .i64 (frm : Int)] w (Ret (strV (headL gen root1 frm)) (cmA pb db bx mb p D l F) w) := by
  refine (head_calls gen root1 frm hg hr hf).mono ?_
  rintro e w' ⟨rfl, hb⟩
  exact .mk (H.below hb) (Keeps.below hb)
theorem cm_done {pb db bx mb : Nat} {p : Pg} {D : Dk} {l : List Int} {F : HProp} {w : World} (H : Holds (cmA pb db bx mb p D l F) w) : Holds (pgA pb db p * (diskA db D * F)) w := by
  unfold cmA at H
  have e1 : ∀ A B C E G : HProp, A * (B * (C * (E * G))) = C * (E * (A * (B * G))) := by intro A B C E G; ac_rfl
  rw [e1] at H
  exact H.right.right
theorem headL_length (gen root1 frm : Nat) : (headL gen root1 frm).length = 64 := by simp [headL, beL_length]

set_option maxRecDepth 100000 in
set_option maxHeartbeats 4000000 in
theorem Commit_calls {pb db : Nat} {p : Pg} {D : Dk} {F : HProp} {w : World} {kv : Value} {xs : List Int} (hp : p.Ok D.n) (hD : D.Ok) (H : Holds (pgA pb db p * (diskA db D * F)) w) (hr : Reads F kv xs)
    (hx : ∀ x ∈ xs, -9223372036854775808 ≤ x ∧ x ≤ 9223372036854775807) (root frm : Int) (hroot : -9223372036854775808 ≤ root ∧ root ≤ 9223372036854775807) (hfrm : -9223372036854775808 ≤ frm ∧ frm ≤ 9223372036854775807) :
    Calls Tryz.prog 27 #[.pointer (some ⟨pb, 0, none⟩), .int .i64 root, .int .i64 frm, kv] w (Ret (.int .i64 (p.commit D root frm xs).2.2) (pgA pb db (p.commit D root frm xs).1 * (diskA db (p.commit D root frm xs).2.1 * F)) w) := by
  have hpages : p.pages ≤ 4096 := by have := hp.fits; have := hp.n4096; omega
  obtain ⟨a, c, rfl, _⟩ := hr w H.right.right
  have hmf : ∀ (fn : Fn) (first cap : Array Value) (w : World), (Instr.makeFunc fn first cap).run Tryz.prog w = .ok (.func fn first cap) w := fun _ _ _ _ => rfl
  have hbox := H.alloc (.cells #[.pointer (some ⟨pb, 0, none⟩)] 29)
  have K0 := (Keeps.refl w).alloc (.cells #[.pointer (some ⟨pb, 0, none⟩)] 29)
  have hlt : pb < w.heap.size := by
    obtain ⟨lb, tb, H1⟩ := pgA_open.1 H
    exact H1.lt
  have hset := set_calls (G := pt w.heap.size (.cells #[.pointer (some ⟨pb, 0, none⟩)] 29 (0, 0)) * (pgA pb db p * (diskA db D * F))) 68 #[] #[.pointer (some ⟨w.heap.size, 0, none⟩)] (fun x => p.is x && p.used x) hbox (((hr.frame _).frame _).frame _) hx
    (fun x h => by simp only [Pg.is, Bool.and_eq_true, decide_eq_true_eq] at h; omega) (enters_of Tryz.func68 (by kernel_rfl) rfl)
    (fun E x w' h0 h1 HE => by
      have e1 : ∀ A B C : HProp, A * (B * C) = B * (C * A) := by intro A B C; ac_rfl
      have e2 : ∀ A B C E : HProp, A * (B * (C * E)) = B * (C * (E * A)) := by intro A B C E; ac_rfl
      rw [e2] at HE
      refine (is_used_calls x h0 h1 HE).mono ?_
      rintro e w'' ⟨rfl, H1, K1⟩
      rw [← e2] at H1
      exact .mk H1 K1)
  have HS := Lib.hid hset
  have hl0 : ∀ (w : World), (Instr.lookup 68 (.map none) (.int .i64 root) true).run Tryz.prog w = .ok (.tuple #[.agg #[], .bool false]) w := by
    intro w
    have := Maps.look_nil (w := w) true kInt Tryz.underlying68 (zeroNone w) (keyInt hroot.1 hroot.2)
    simpa using this
  have hc8 : w.cell? ⟨pb, 8, none⟩ = some (.bool p.dead) := by
    obtain ⟨lb, tb, H1⟩ := pgA_open.1 H
    exact H1.cell 8 rfl
  clear hset hr hx
  cases hdead : p.dead with
  | true =>
    have hres : p.commit D root frm xs = (p, D, 2) := by unfold Pg.commit; rw [hdead]; rfl
    rw [hres]
    rw [hdead] at hc8
    have H1 := H.alloc_only (.cells #[.pointer (some ⟨pb, 0, none⟩)] 29)
    clear hres hdead hbox
    go_enter Tryz.func27, Tryz.ntmps27
    go_wp2_with fail
    go_ret
    exact .mk H1 K0
  | false =>
    rw [hdead] at hc8
    have hcom : p.commit D root frm xs = (match Pg.setOf (fun x => p.is x && p.used x) xs with
      | none => (p, D, 191)
      | some l =>
        if root ≠ -1 ∧ l.contains root = false then (p, D, 191)
        else if frm < 1 ∨ 1152921504606846976 < frm ∨ 1152921504606846976 ≤ p.gen then (p, D, 190)
        else p.finish D root frm l) := by unfold Pg.commit; rw [hdead]; rfl
    have HC := Lib.hid hcom
    have Hdead := Lib.hid hdead
    clear hcom hdead hbox
    go_enter Tryz.func27, Tryz.ntmps27
    go_wp2_with fail
    refine HS.out.mono ?_
    rintro e w1 (⟨mb, hso, rfl, H1, K1⟩ | ⟨mb, hso, rfl, H1, K1⟩ | ⟨hso, rfl, H1, K1⟩)
    · have hlk := set_look H1 hroot.1 hroot.2
      have hcom2 := HC.out
      rw [hso] at hcom2
      simp only [] at hcom2
      have hmay := (Pg.setOf_some hso).2.1
      obtain ⟨l, hl⟩ : ∃ l, l = Pg.insAll xs := ⟨_, rfl⟩
      rw [← hl] at hlk H1 hcom2 hmay
      have H2 := H1.alloc_only (.cells #[] 94)
      have K2 := (K0.trans K1).alloc (.cells #[] 94)
      obtain ⟨lb, tb, h0c, hpc, hwc, hgc⟩ : ∃ lb tb, (w1.alloc (.cells #[] 94)).cell? ⟨w.heap.size, 0, none⟩ = some (.pointer (some ⟨pb, 0, none⟩)) ∧ (w1.alloc (.cells #[] 94)).cell? ⟨pb, 0, none⟩ = some (.pointer (some ⟨db, 0, none⟩)) ∧ w.heap.size < w1.heap.size ∧ (w1.alloc (.cells #[] 94)).cell? ⟨pb, 5, none⟩ = some (.int .i64 p.gen) ∧ pb < w1.heap.size := by
        have e1 : ∀ A B C E : HProp, A * (B * (C * E)) = C * (A * (B * E)) := by intro A B C E; ac_rfl
        have H3 := H2
        rw [e1] at H3
        obtain ⟨lb, tb, H3⟩ := pgA_open.1 H3
        have H4 := H1
        rw [e1] at H4
        obtain ⟨lb4, tb4, H4⟩ := pgA_open.1 H4
        have H5 := H2
        rw [sep_left_comm] at H5
        have H6 := H1
        rw [sep_left_comm] at H6
        exact ⟨lb, tb, H5.cell 0 rfl, H3.cell 0 rfl, H6.lt, H3.cell 5 rfl, H4.lt⟩
      obtain ⟨hgc, hpl⟩ := hgc
      have HC2 := Lib.hid hcom2
      clear hcom2 HC HS K1 hso hl
      by_cases hbad : root ≠ -1 ∧ l.contains root = false
      · have hres : p.commit D root frm xs = (p, D, 191) := by rw [HC2.out, if_pos hbad]
        have Hres := Lib.hid hres
        have b1 : (root != -1) = true := by rw [bne_iff_ne]; exact hbad.1
        rw [hbad.2] at hlk
        have H3 := H2.right.right
        clear hres hbad H1 H2
        go_wp2_with fail
        go_ret
        rw [Hres.out]
        exact .mk H3 K2
      · have hok : (root != -1) = false ∨ ((root != -1) = true ∧ l.contains root = true) := by
          by_cases h : root = -1
          · exact .inl (by simp [h])
          · refine .inr ⟨by simpa using h, ?_⟩
            cases h2 : l.contains root with
            | true => rfl
            | false => exact absurd ⟨h, h2⟩ hbad
        have hr1 : -1 ≤ root ∧ root ≤ 4096 := by
          rcases hok with h | ⟨_, h⟩
          · have : root = -1 := by simpa using h
            omega
          · have := hmay root (by simpa using h)
            simp only [Pg.is, Bool.and_eq_true, decide_eq_true_eq] at this
            omega
        have hcom3 := HC2.out
        rw [if_neg hbad] at hcom3
        have HC3 := Lib.hid hcom3
        clear HC2 hcom3 hbad hmay
        rcases hok with hok | ⟨hok, hcn⟩
        · by_cases g1 : frm < 1
          · have hres : p.commit D root frm xs = (p, D, 190) := by rw [HC3.out, if_pos (.inl g1)]
            have Hres := Lib.hid hres
            have b1 : decide (frm < 1) = true := by simpa using g1
            have H3 := H2.right.right
            clear hres H1 H2
            go_wp2_with fail
            go_ret
            rw [Hres.out]
            exact .mk H3 K2
          by_cases g2 : 1152921504606846976 < frm
          · have hres : p.commit D root frm xs = (p, D, 190) := by rw [HC3.out, if_pos (.inr (.inl g2))]
            have Hres := Lib.hid hres
            have b1 : decide (frm < 1) = false := by simpa using g1
            have b2 : decide (1152921504606846976 < frm) = true := by simpa using g2
            have H3 := H2.right.right
            clear hres H1 H2
            go_wp2_with fail
            go_ret
            rw [Hres.out]
            exact .mk H3 K2
          have b1 : decide (frm < 1) = false := by simpa using g1
          have b2 : decide (1152921504606846976 < frm) = false := by simpa using g2
          by_cases g3 : 1152921504606846976 ≤ p.gen
          · have hres : p.commit D root frm xs = (p, D, 190) := by rw [HC3.out, if_pos (.inr (.inr g3))]
            have Hres := Lib.hid hres
            have g3' : (1152921504606846976 : Int) ≤ (p.gen : Int) := by omega
            have H3 := H2.right.right
            clear hres H1 H2 g3
            go_wp2_with fail
            go_ret
            rw [Hres.out]
            exact .mk H3 K2
          have hres : p.commit D root frm xs = p.finish D root frm l := by rw [HC3.out, if_neg (by omega)]
          have Hres := Lib.hid hres
          have g3' : (p.gen : Int) < 1152921504606846976 := by omega
          have b3 : decide ((1152921504606846976 : Int) ≤ (p.gen : Int)) = false := by simp; omega
          clear hres g3
          go_wp2_with fail
          obtain ⟨W, hW⟩ : ∃ W, W = w1.alloc (.cells #[] 94) := ⟨_, rfl⟩
          rw [← hW] at H2 K2 h0c hpc hgc ⊢
          obtain ⟨bx, hbx⟩ : ∃ bx, bx = w.heap.size := ⟨_, rfl⟩
          rw [← hbx] at H2 h0c ⊢
          have H3 : Holds (cmA pb db bx mb p D l F) W := by
            unfold cmA
            have e1 : ∀ A B C E G : HProp, A * (B * (C * (E * G))) = C * (E * (B * (A * G))) := by intro A B C E G; ac_rfl
            rw [e1] at H2
            exact H2
          have hgx := hp.gen1
          have hfm : frm = ((frm.toNat : Nat) : Int) := by omega
          have hrt : root = (((root + 1).toNat : Nat) : Int) - 1 := by omega
          clear hW hbx H1 H2 hwc hpl hlk h0c hpc hgc b1 b2 b3 hmf hl0 hc8 hlt K0
          obtain ⟨c0, c1, _⟩ := cm_cells H3.drew
          have hsy := fun w H => cm_Sync (pb := pb) (db := db) (bx := bx) (mb := mb) (p := p) (l := l) (F := F) (w := w) hD H
          have hsok := hD.sync
          obtain ⟨D1, hD1⟩ : ∃ D1, D1 = D.sync.1 := ⟨_, rfl⟩
          obtain ⟨x1, hx1⟩ : ∃ x1, x1 = D.sync.2 := ⟨_, rfl⟩
          rw [← hD1, ← hx1] at hsy
          rw [← hD1] at hsok
          have hfin : p.finish D root frm l = if x1 ≠ 0 then (p.told x1, D1, x1) else
              if (D1.write (((p.gen + 1) % 2 : Nat) : Int) (headL (p.gen + 1) (root + 1).toNat frm.toNat)).2 ≠ 0 then
              (p.told (D1.write (((p.gen + 1) % 2 : Nat) : Int) (headL (p.gen + 1) (root + 1).toNat frm.toNat)).2, (D1.write (((p.gen + 1) % 2 : Nat) : Int) (headL (p.gen + 1) (root + 1).toNat frm.toNat)).1, (D1.write (((p.gen + 1) % 2 : Nat) : Int) (headL (p.gen + 1) (root + 1).toNat frm.toNat)).2)
            else if (D1.write (((p.gen + 1) % 2 : Nat) : Int) (headL (p.gen + 1) (root + 1).toNat frm.toNat)).1.sync.2 ≠ 0 then
              (p.told (D1.write (((p.gen + 1) % 2 : Nat) : Int) (headL (p.gen + 1) (root + 1).toNat frm.toNat)).1.sync.2, (D1.write (((p.gen + 1) % 2 : Nat) : Int) (headL (p.gen + 1) (root + 1).toNat frm.toNat)).1.sync.1, (D1.write (((p.gen + 1) % 2 : Nat) : Int) (headL (p.gen + 1) (root + 1).toNat frm.toNat)).1.sync.2)
            else ({ p with gen := p.gen + 1, root := root, frm := frm.toNat, live := l, taken := [] }, (D1.write (((p.gen + 1) % 2 : Nat) : Int) (headL (p.gen + 1) (root + 1).toNat frm.toNat)).1.sync.1, 0) := by
            rw [hD1, hx1]; rfl
          obtain ⟨hd, hhd⟩ : ∃ hd, hd = headL (p.gen + 1) (root + 1).toNat frm.toNat := ⟨_, rfl⟩
          have hhl : hd.length = 64 := by rw [hhd]; exact headL_length _ _ _
          have hwr := fun w H => cm_Write (pb := pb) (db := db) (bx := bx) (mb := mb) (p := p) (l := l) (F := F) (w := w) hsok H (((p.gen + 1) % 2 : Nat) : Int) (by omega) (by omega) hd (by omega)
          have hwok := hsok.write (((p.gen + 1) % 2 : Nat) : Int) hd
          have hhe := fun w H => cm_head (pb := pb) (db := db) (bx := bx) (mb := mb) (p := p) (D := D1) (l := l) (F := F) (w := w) H (p.gen + 1) (root + 1).toNat frm.toNat (by omega) (by omega) (by omega)
          rw [← hhd] at hfin hhe
          rw [← hrt, ← hfm] at hhe
          obtain ⟨D2, hD2⟩ : ∃ D2, D2 = (D1.write (((p.gen + 1) % 2 : Nat) : Int) hd).1 := ⟨_, rfl⟩
          obtain ⟨x2, hx2⟩ : ∃ x2, x2 = (D1.write (((p.gen + 1) % 2 : Nat) : Int) hd).2 := ⟨_, rfl⟩
          rw [← hD2, ← hx2] at hwr hfin
          rw [← hD2] at hwok
          have hs2 := fun w H => cm_Sync (pb := pb) (db := db) (bx := bx) (mb := mb) (p := p) (l := l) (F := F) (w := w) hwok H
          obtain ⟨D3, hD3⟩ : ∃ D3, D3 = D2.sync.1 := ⟨_, rfl⟩
          obtain ⟨x3, hx3⟩ : ∃ x3, x3 = D2.sync.2 := ⟨_, rfl⟩
          rw [← hD3, ← hx3] at hs2 hfin
          have HSY := Lib.hid hsy
          have HWR := Lib.hid hwr
          have HHE := Lib.hid hhe
          have HS2 := Lib.hid hs2
          have HFIN := Lib.hid (Hres.out.trans hfin)
          clear hsy hwr hhe hs2 hfin hD1 hx1 hD2 hx2 hD3 hx3 hhd Hres HC3 hfm hrt
          by_cases z1 : x1 = 0
          · subst z1
            have HT0 : Hid (∀ w, Holds (cmA pb db bx mb p D1 l F) w → Calls Tryz.prog 63 #[.pointer (some ⟨pb, 0, none⟩), .int .i64 0] w (Ret (.int .i64 0) (cmA pb db bx mb p D1 l F) w)) := Lib.hid (fun w H => by
              have := cm_told H 0
              rw [Pg.told_zero] at this
              exact this)
            have H3d := H3.drew
            go_region_held3 (fun w' => w'.cell? ⟨bx, 0, none⟩ = some (.pointer (some ⟨pb, 0, none⟩)) ∧ w'.cell? ⟨pb, 0, none⟩ = some (.pointer (some ⟨db, 0, none⟩))) (first | exact ⟨c0, c1⟩ | exact ⟨d0, d1⟩ | exact ⟨e0, e1⟩)
              (first | (go_at_call 54; refine (HSY.out _ H3d).mono ?_; rintro e w4 ⟨rfl, H4, K4⟩; obtain ⟨d0, d1, _⟩ := cm_cells H4)
                     | (go_at_call 63; refine (HT0.out _ H4).mono ?_; rintro e w5 ⟨rfl, H5, K5⟩; obtain ⟨e0, e1, e5⟩ := cm_cells H5))
            obtain ⟨W5, hW5⟩ : ∃ W5, W5 = w5 := ⟨_, rfl⟩
            have KK5 := K2.trans ((((Keeps.refl W).drew).trans K4).trans K5)
            clear HSY HT0 H4 H3 H3d K4 K5 K2 c0 c1 d0 d1 hW5
            go_wp2_with fail
            by_cases z2 : x2 = 0
            · subst z2
              have HT0 : Hid (∀ w, Holds (cmA pb db bx mb p D2 l F) w → Calls Tryz.prog 63 #[.pointer (some ⟨pb, 0, none⟩), .int .i64 0] w (Ret (.int .i64 0) (cmA pb db bx mb p D2 l F) w)) := Lib.hid (fun w H => by
                have := cm_told H 0
                rw [Pg.told_zero] at this
                exact this)
              have H5d := H5.drew
              have c0 : w5.drew.cell? ⟨bx, 0, none⟩ = some (.pointer (some ⟨pb, 0, none⟩)) := e0
              have c1 : w5.drew.cell? ⟨pb, 0, none⟩ = some (.pointer (some ⟨db, 0, none⟩)) := e1
              go_region_held3 (fun w' => w'.cell? ⟨bx, 0, none⟩ = some (.pointer (some ⟨pb, 0, none⟩)) ∧ w'.cell? ⟨pb, 0, none⟩ = some (.pointer (some ⟨db, 0, none⟩))) (first | exact ⟨c0, c1⟩ | exact ⟨d0, d1⟩ | exact ⟨f0, f1⟩ | exact ⟨b0, b1⟩)
                (first | (go_at_call 52; refine (HHE.out _ H5d).mono ?_; rintro e w6 ⟨rfl, H6, K6⟩; obtain ⟨d0, d1, _⟩ := cm_cells H6)
                       | (go_at_call 53; refine (HWR.out _ H6).mono ?_; rintro e w7 ⟨rfl, H7, K7⟩; obtain ⟨f0, f1, _⟩ := cm_cells H7)
                       | (go_at_call 63; refine (HT0.out _ H7).mono ?_; rintro e w8 ⟨rfl, H8, K8⟩; obtain ⟨b0, b1, b5⟩ := cm_cells H8))
              have KK8 := KK5.trans (((((Keeps.refl w5).drew).trans K6).trans K7).trans K8)
              clear HWR HHE HT0 H5 H5d H6 H7 K6 K7 K8 KK5 c0 c1 d0 d1 f0 f1 e0 e1 e5
              go_wp2_with fail
              by_cases z3 : x3 = 0
              · subst z3
                have HT0 : Hid (∀ w, Holds (cmA pb db bx mb p D3 l F) w → Calls Tryz.prog 63 #[.pointer (some ⟨pb, 0, none⟩), .int .i64 0] w (Ret (.int .i64 0) (cmA pb db bx mb p D3 l F) w)) := Lib.hid (fun w H => by
                  have := cm_told H 0
                  rw [Pg.told_zero] at this
                  exact this)
                have H8d := H8.drew
                have c0 : w8.drew.cell? ⟨bx, 0, none⟩ = some (.pointer (some ⟨pb, 0, none⟩)) := b0
                have c1 : w8.drew.cell? ⟨pb, 0, none⟩ = some (.pointer (some ⟨db, 0, none⟩)) := b1
                go_region_held3 (fun w' => w'.cell? ⟨bx, 0, none⟩ = some (.pointer (some ⟨pb, 0, none⟩)) ∧ w'.cell? ⟨pb, 0, none⟩ = some (.pointer (some ⟨db, 0, none⟩))) (first | exact ⟨c0, c1⟩ | exact ⟨d0, d1⟩ | exact ⟨e0, e1⟩)
                  (first | (go_at_call 54; refine (HS2.out _ H8d).mono ?_; rintro e w9 ⟨rfl, H9, K9⟩; obtain ⟨d0, d1, _⟩ := cm_cells H9)
                         | (go_at_call 63; refine (HT0.out _ H9).mono ?_; rintro e w10 ⟨rfl, H10, K10⟩; obtain ⟨e0, e1, e5⟩ := cm_cells H10))
                have KKz := KK8.trans ((((Keeps.refl w8).drew).trans K9).trans K10)
                clear HS2 HT0 H8 H8d H9 K9 K10 KK8 c0 c1 d0 d1 b0 b1 b5
                have hfin2 : p.commit D root frm xs = ({ p with gen := p.gen + 1, root := root, frm := frm.toNat, live := l, taken := [] }, D3, 0) := by
                  have := HFIN.out
                  simpa using this
                have HFIN2 := Lib.hid hfin2
                clear HFIN hfin2
                go_wp2_with fail
                obtain ⟨lb5, tb5, G1⟩ := pgA_open.1 H10
                have hne : bx ≠ pb := by
                  have e1 : ∀ A B C E G : HProp, A * (B * (C * (E * G))) = E * (A * (B * (C * G))) := by intro A B C E G; ac_rfl
                  have e2 : ∀ A B C E G : HProp, A * (B * (C * (E * G))) = E * (A * (B * (C * G))) := by intro A B C E G; ac_rfl
                  have G2 := G1
                  have e3 : ∀ A B C E G L : HProp, A * (B * (C * (E * (G * L)))) = G * (A * (B * (C * (E * L)))) := by intro A B C E G L; ac_rfl
                  rw [e3] at G2
                  exact G2.ne
                have q0 : w10.cell? ⟨bx, 0, none⟩ = some (.pointer (some ⟨pb, 0, none⟩)) := e0
                have g3 := G1.cell 3 rfl
                have g4 := G1.cell 4 rfl
                have g5 := G1.cell 5 rfl
                have g6 := G1.cell 6 rfl
                have k3 := G1.unfz 3
                have k4 := G1.unfz 4
                have k5 := G1.unfz 5
                have k6 := G1.unfz 6
                clear e0 e1 e5
                go_region
                have G2 := (((G1.setCell (off := 5) (.int .i64 ((p.gen : Int) + 1))).setCell (off := 3) (.int .i64 root)).setCell (off := 4) (.int .i64 frm)).setCell (off := 6) (.map (some mb))
                have KZ := ((((KKz.setCell ⟨pb, 5, none⟩ (.int .i64 ((p.gen : Int) + 1))).setCell ⟨pb, 3, none⟩ (.int .i64 root)).setCell ⟨pb, 4, none⟩ (.int .i64 frm)).setCell ⟨pb, 6, none⟩ (.map (some mb))).drew
                replace G2 := G2.drew
                generalize World.drew _ = W11 at G2 KZ ⊢
                have hcells : ((((pgCells p db lb5 tb5).setIfInBounds 5 (.int .i64 ((p.gen : Int) + 1))).setIfInBounds 3 (.int .i64 root)).setIfInBounds 4 (.int .i64 frm)).setIfInBounds 6 (.map (some mb)) = pgCells { p with gen := p.gen + 1, root := root, frm := frm.toNat, live := l } db mb tb5 := by
                  have hfm : frm = ((frm.toNat : Nat) : Int) := by omega
                  show #[Value.pointer (some ⟨db, 0, none⟩), .int .i64 p.first, .int .i64 p.pages, .int .i64 root, .int .i64 frm, .int .i64 ((p.gen : Int) + 1), .map (some mb), .map (some tb5), .bool p.dead] = _
                  unfold pgCells
                  simp only []
                  rw [← hfm]
                  rfl
                rw [hcells] at G2
                have e7 : ∀ A B C E G L M : HProp, A * (B * (C * (E * (G * (L * M))))) = B * (A * (L * (C * (G * (E * M))))) := by intro A B C E G L M; ac_rfl
                rw [e7] at G2
                have G3 : Holds (pgA pb db { p with gen := p.gen + 1, root := root, frm := frm.toNat, live := l } * (pt bx (.cells #[.pointer (some ⟨pb, 0, none⟩)] 29 (0, 0)) * (diskA db D3 * F))) W11 := pgA_open.2 ⟨mb, tb5, G2.right⟩
                have q1 : W11.cell? ⟨bx, 0, none⟩ = some (.pointer (some ⟨pb, 0, none⟩)) := by
                  have G4 := G3
                  rw [sep_left_comm] at G4
                  exact G4.cell 0 rfl
                have HD := Lib.hid (Drop_calls G3)
                clear G1 G2 G3 hcells g3 g4 g5 g6 k3 k4 k5 k6 q0 H10 KKz hne e7
                go_wp2_with fail
                refine HD.out.mono ?_
                rintro e w12 ⟨rfl, H12, K12⟩
                have K13 := KZ.trans K12
                go_wp2_with fail
                go_ret
                rw [HFIN2.out]
                rw [sep_left_comm] at H12
                exact .mk H12.right K13
              · have hres : p.commit D root frm xs = (p.told x3, D3, x3) := by
                  have := HFIN.out
                  simpa [z3] using this
                have HRES := Lib.hid hres
                have H8d := H8.drew
                have c0 : w8.drew.cell? ⟨bx, 0, none⟩ = some (.pointer (some ⟨pb, 0, none⟩)) := b0
                have c1 : w8.drew.cell? ⟨pb, 0, none⟩ = some (.pointer (some ⟨db, 0, none⟩)) := b1
                have zb : (x3 != 0) = true := by simpa using z3
                clear HFIN hres z3
                go_region_held3 (fun w' => w'.cell? ⟨bx, 0, none⟩ = some (.pointer (some ⟨pb, 0, none⟩)) ∧ w'.cell? ⟨pb, 0, none⟩ = some (.pointer (some ⟨db, 0, none⟩))) (first | exact ⟨c0, c1⟩ | exact ⟨d0, d1⟩ | exact ⟨e0, e1⟩)
                  (first | (go_at_call 54; refine (HS2.out _ H8d).mono ?_; rintro e w9 ⟨rfl, H9, K9⟩; obtain ⟨d0, d1, _⟩ := cm_cells H9)
                         | (go_at_call 63; refine (cm_told H9 x3).mono ?_; rintro e w10 ⟨rfl, H10, K10⟩; obtain ⟨e0, e1, e5⟩ := cm_cells H10))
                have KKz := KK8.trans ((((Keeps.refl w8).drew).trans K9).trans K10)
                clear HS2 H8 H8d H9 K9 K10 KK8 c0 c1 d0 d1 b0 b1 b5
                go_wp2_with fail
                go_ret
                rw [HRES.out]
                exact .mk (cm_done H10) KKz
            · have hres : p.commit D root frm xs = (p.told x2, D2, x2) := by
                have := HFIN.out
                simpa [z2] using this
              have HRES := Lib.hid hres
              have H5d := H5.drew
              have c0 : w5.drew.cell? ⟨bx, 0, none⟩ = some (.pointer (some ⟨pb, 0, none⟩)) := e0
              have c1 : w5.drew.cell? ⟨pb, 0, none⟩ = some (.pointer (some ⟨db, 0, none⟩)) := e1
              have zb : (x2 != 0) = true := by simpa using z2
              clear HFIN hres z2
              go_region_held3 (fun w' => w'.cell? ⟨bx, 0, none⟩ = some (.pointer (some ⟨pb, 0, none⟩)) ∧ w'.cell? ⟨pb, 0, none⟩ = some (.pointer (some ⟨db, 0, none⟩))) (first | exact ⟨c0, c1⟩ | exact ⟨d0, d1⟩ | exact ⟨f0, f1⟩ | exact ⟨b0, b1⟩)
                (first | (go_at_call 52; refine (HHE.out _ H5d).mono ?_; rintro e w6 ⟨rfl, H6, K6⟩; obtain ⟨d0, d1, _⟩ := cm_cells H6)
                       | (go_at_call 53; refine (HWR.out _ H6).mono ?_; rintro e w7 ⟨rfl, H7, K7⟩; obtain ⟨f0, f1, _⟩ := cm_cells H7)
                       | (go_at_call 63; refine (cm_told H7 x2).mono ?_; rintro e w8 ⟨rfl, H8, K8⟩; obtain ⟨b0, b1, b5⟩ := cm_cells H8))
              have KK8 := KK5.trans (((((Keeps.refl w5).drew).trans K6).trans K7).trans K8)
              clear HWR HHE H5 H5d H6 H7 K6 K7 K8 KK5 c0 c1 d0 d1 f0 f1 e0 e1 e5
              go_wp2_with fail
              go_ret
              rw [HRES.out]
              exact .mk (cm_done H8) KK8
          · have hres : p.commit D root frm xs = (p.told x1, D1, x1) := by
              have := HFIN.out
              simpa [z1] using this
            have HRES := Lib.hid hres
            have zb : (x1 != 0) = true := by simpa using z1
            have H3d := H3.drew
            clear HFIN hres z1
            go_region_held3 (fun w' => w'.cell? ⟨bx, 0, none⟩ = some (.pointer (some ⟨pb, 0, none⟩)) ∧ w'.cell? ⟨pb, 0, none⟩ = some (.pointer (some ⟨db, 0, none⟩))) (first | exact ⟨c0, c1⟩ | exact ⟨d0, d1⟩ | exact ⟨e0, e1⟩)
              (first | (go_at_call 54; refine (HSY.out _ H3d).mono ?_; rintro e w4 ⟨rfl, H4, K4⟩; obtain ⟨d0, d1, _⟩ := cm_cells H4)
                     | (go_at_call 63; refine (cm_told H4 x1).mono ?_; rintro e w5 ⟨rfl, H5, K5⟩; obtain ⟨e0, e1, e5⟩ := cm_cells H5))
            have KK5 := K2.trans ((((Keeps.refl W).drew).trans K4).trans K5)
            clear HSY H4 H3 H3d K4 K5 K2 c0 c1 d0 d1
            go_wp2_with fail
            go_ret
            rw [HRES.out]
            exact .mk (cm_done H5) KK5
        · rw [hcn] at hlk
          clear hcn
          by_cases g1 : frm < 1
          · have hres : p.commit D root frm xs = (p, D, 190) := by rw [HC3.out, if_pos (.inl g1)]
            have Hres := Lib.hid hres
            have b1 : decide (frm < 1) = true := by simpa using g1
            have H3 := H2.right.right
            clear hres H1 H2
            go_wp2_with fail
            go_ret
            rw [Hres.out]
            exact .mk H3 K2
          by_cases g2 : 1152921504606846976 < frm
          · have hres : p.commit D root frm xs = (p, D, 190) := by rw [HC3.out, if_pos (.inr (.inl g2))]
            have Hres := Lib.hid hres
            have b1 : decide (frm < 1) = false := by simpa using g1
            have b2 : decide (1152921504606846976 < frm) = true := by simpa using g2
            have H3 := H2.right.right
            clear hres H1 H2
            go_wp2_with fail
            go_ret
            rw [Hres.out]
            exact .mk H3 K2
          have b1 : decide (frm < 1) = false := by simpa using g1
          have b2 : decide (1152921504606846976 < frm) = false := by simpa using g2
          by_cases g3 : 1152921504606846976 ≤ p.gen
          · have hres : p.commit D root frm xs = (p, D, 190) := by rw [HC3.out, if_pos (.inr (.inr g3))]
            have Hres := Lib.hid hres
            have g3' : (1152921504606846976 : Int) ≤ (p.gen : Int) := by omega
            have H3 := H2.right.right
            clear hres H1 H2 g3
            go_wp2_with fail
            go_ret
            rw [Hres.out]
            exact .mk H3 K2
          have hres : p.commit D root frm xs = p.finish D root frm l := by rw [HC3.out, if_neg (by omega)]
          have Hres := Lib.hid hres
          have g3' : (p.gen : Int) < 1152921504606846976 := by omega
          have b3 : decide ((1152921504606846976 : Int) ≤ (p.gen : Int)) = false := by simp; omega
          clear hres g3
          go_wp2_with fail
          obtain ⟨W, hW⟩ : ∃ W, W = w1.alloc (.cells #[] 94) := ⟨_, rfl⟩
          rw [← hW] at H2 K2 h0c hpc hgc ⊢
          obtain ⟨bx, hbx⟩ : ∃ bx, bx = w.heap.size := ⟨_, rfl⟩
          rw [← hbx] at H2 h0c ⊢
          have H3 : Holds (cmA pb db bx mb p D l F) W := by
            unfold cmA
            have e1 : ∀ A B C E G : HProp, A * (B * (C * (E * G))) = C * (E * (B * (A * G))) := by intro A B C E G; ac_rfl
            rw [e1] at H2
            exact H2
          have hgx := hp.gen1
          have hfm : frm = ((frm.toNat : Nat) : Int) := by omega
          have hrt : root = (((root + 1).toNat : Nat) : Int) - 1 := by omega
          clear hW hbx H1 H2 hwc hpl hlk h0c hpc hgc b1 b2 b3 hmf hl0 hc8 hlt K0
          obtain ⟨c0, c1, _⟩ := cm_cells H3.drew
          have hsy := fun w H => cm_Sync (pb := pb) (db := db) (bx := bx) (mb := mb) (p := p) (l := l) (F := F) (w := w) hD H
          have hsok := hD.sync
          obtain ⟨D1, hD1⟩ : ∃ D1, D1 = D.sync.1 := ⟨_, rfl⟩
          obtain ⟨x1, hx1⟩ : ∃ x1, x1 = D.sync.2 := ⟨_, rfl⟩
          rw [← hD1, ← hx1] at hsy
          rw [← hD1] at hsok
          have hfin : p.finish D root frm l = if x1 ≠ 0 then (p.told x1, D1, x1) else
              if (D1.write (((p.gen + 1) % 2 : Nat) : Int) (headL (p.gen + 1) (root + 1).toNat frm.toNat)).2 ≠ 0 then
              (p.told (D1.write (((p.gen + 1) % 2 : Nat) : Int) (headL (p.gen + 1) (root + 1).toNat frm.toNat)).2, (D1.write (((p.gen + 1) % 2 : Nat) : Int) (headL (p.gen + 1) (root + 1).toNat frm.toNat)).1, (D1.write (((p.gen + 1) % 2 : Nat) : Int) (headL (p.gen + 1) (root + 1).toNat frm.toNat)).2)
            else if (D1.write (((p.gen + 1) % 2 : Nat) : Int) (headL (p.gen + 1) (root + 1).toNat frm.toNat)).1.sync.2 ≠ 0 then
              (p.told (D1.write (((p.gen + 1) % 2 : Nat) : Int) (headL (p.gen + 1) (root + 1).toNat frm.toNat)).1.sync.2, (D1.write (((p.gen + 1) % 2 : Nat) : Int) (headL (p.gen + 1) (root + 1).toNat frm.toNat)).1.sync.1, (D1.write (((p.gen + 1) % 2 : Nat) : Int) (headL (p.gen + 1) (root + 1).toNat frm.toNat)).1.sync.2)
            else ({ p with gen := p.gen + 1, root := root, frm := frm.toNat, live := l, taken := [] }, (D1.write (((p.gen + 1) % 2 : Nat) : Int) (headL (p.gen + 1) (root + 1).toNat frm.toNat)).1.sync.1, 0) := by
            rw [hD1, hx1]; rfl
          obtain ⟨hd, hhd⟩ : ∃ hd, hd = headL (p.gen + 1) (root + 1).toNat frm.toNat := ⟨_, rfl⟩
          have hhl : hd.length = 64 := by rw [hhd]; exact headL_length _ _ _
          have hwr := fun w H => cm_Write (pb := pb) (db := db) (bx := bx) (mb := mb) (p := p) (l := l) (F := F) (w := w) hsok H (((p.gen + 1) % 2 : Nat) : Int) (by omega) (by omega) hd (by omega)
          have hwok := hsok.write (((p.gen + 1) % 2 : Nat) : Int) hd
          have hhe := fun w H => cm_head (pb := pb) (db := db) (bx := bx) (mb := mb) (p := p) (D := D1) (l := l) (F := F) (w := w) H (p.gen + 1) (root + 1).toNat frm.toNat (by omega) (by omega) (by omega)
          rw [← hhd] at hfin hhe
          rw [← hrt, ← hfm] at hhe
          obtain ⟨D2, hD2⟩ : ∃ D2, D2 = (D1.write (((p.gen + 1) % 2 : Nat) : Int) hd).1 := ⟨_, rfl⟩
          obtain ⟨x2, hx2⟩ : ∃ x2, x2 = (D1.write (((p.gen + 1) % 2 : Nat) : Int) hd).2 := ⟨_, rfl⟩
          rw [← hD2, ← hx2] at hwr hfin
          rw [← hD2] at hwok
          have hs2 := fun w H => cm_Sync (pb := pb) (db := db) (bx := bx) (mb := mb) (p := p) (l := l) (F := F) (w := w) hwok H
          obtain ⟨D3, hD3⟩ : ∃ D3, D3 = D2.sync.1 := ⟨_, rfl⟩
          obtain ⟨x3, hx3⟩ : ∃ x3, x3 = D2.sync.2 := ⟨_, rfl⟩
          rw [← hD3, ← hx3] at hs2 hfin
          have HSY := Lib.hid hsy
          have HWR := Lib.hid hwr
          have HHE := Lib.hid hhe
          have HS2 := Lib.hid hs2
          have HFIN := Lib.hid (Hres.out.trans hfin)
          clear hsy hwr hhe hs2 hfin hD1 hx1 hD2 hx2 hD3 hx3 hhd Hres HC3 hfm hrt
          by_cases z1 : x1 = 0
          · subst z1
            have HT0 : Hid (∀ w, Holds (cmA pb db bx mb p D1 l F) w → Calls Tryz.prog 63 #[.pointer (some ⟨pb, 0, none⟩), .int .i64 0] w (Ret (.int .i64 0) (cmA pb db bx mb p D1 l F) w)) := Lib.hid (fun w H => by
              have := cm_told H 0
              rw [Pg.told_zero] at this
              exact this)
            have H3d := H3.drew
            go_region_held3 (fun w' => w'.cell? ⟨bx, 0, none⟩ = some (.pointer (some ⟨pb, 0, none⟩)) ∧ w'.cell? ⟨pb, 0, none⟩ = some (.pointer (some ⟨db, 0, none⟩))) (first | exact ⟨c0, c1⟩ | exact ⟨d0, d1⟩ | exact ⟨e0, e1⟩)
              (first | (go_at_call 54; refine (HSY.out _ H3d).mono ?_; rintro e w4 ⟨rfl, H4, K4⟩; obtain ⟨d0, d1, _⟩ := cm_cells H4)
                     | (go_at_call 63; refine (HT0.out _ H4).mono ?_; rintro e w5 ⟨rfl, H5, K5⟩; obtain ⟨e0, e1, e5⟩ := cm_cells H5))
            obtain ⟨W5, hW5⟩ : ∃ W5, W5 = w5 := ⟨_, rfl⟩
            have KK5 := K2.trans ((((Keeps.refl W).drew).trans K4).trans K5)
            clear HSY HT0 H4 H3 H3d K4 K5 K2 c0 c1 d0 d1 hW5
            go_wp2_with fail
            by_cases z2 : x2 = 0
            · subst z2
              have HT0 : Hid (∀ w, Holds (cmA pb db bx mb p D2 l F) w → Calls Tryz.prog 63 #[.pointer (some ⟨pb, 0, none⟩), .int .i64 0] w (Ret (.int .i64 0) (cmA pb db bx mb p D2 l F) w)) := Lib.hid (fun w H => by
                have := cm_told H 0
                rw [Pg.told_zero] at this
                exact this)
              have H5d := H5.drew
              have c0 : w5.drew.cell? ⟨bx, 0, none⟩ = some (.pointer (some ⟨pb, 0, none⟩)) := e0
              have c1 : w5.drew.cell? ⟨pb, 0, none⟩ = some (.pointer (some ⟨db, 0, none⟩)) := e1
              go_region_held3 (fun w' => w'.cell? ⟨bx, 0, none⟩ = some (.pointer (some ⟨pb, 0, none⟩)) ∧ w'.cell? ⟨pb, 0, none⟩ = some (.pointer (some ⟨db, 0, none⟩))) (first | exact ⟨c0, c1⟩ | exact ⟨d0, d1⟩ | exact ⟨f0, f1⟩ | exact ⟨b0, b1⟩)
                (first | (go_at_call 52; refine (HHE.out _ H5d).mono ?_; rintro e w6 ⟨rfl, H6, K6⟩; obtain ⟨d0, d1, _⟩ := cm_cells H6)
                       | (go_at_call 53; refine (HWR.out _ H6).mono ?_; rintro e w7 ⟨rfl, H7, K7⟩; obtain ⟨f0, f1, _⟩ := cm_cells H7)
                       | (go_at_call 63; refine (HT0.out _ H7).mono ?_; rintro e w8 ⟨rfl, H8, K8⟩; obtain ⟨b0, b1, b5⟩ := cm_cells H8))
              have KK8 := KK5.trans (((((Keeps.refl w5).drew).trans K6).trans K7).trans K8)
              clear HWR HHE HT0 H5 H5d H6 H7 K6 K7 K8 KK5 c0 c1 d0 d1 f0 f1 e0 e1 e5
              go_wp2_with fail
              by_cases z3 : x3 = 0
              · subst z3
                have HT0 : Hid (∀ w, Holds (cmA pb db bx mb p D3 l F) w → Calls Tryz.prog 63 #[.pointer (some ⟨pb, 0, none⟩), .int .i64 0] w (Ret (.int .i64 0) (cmA pb db bx mb p D3 l F) w)) := Lib.hid (fun w H => by
                  have := cm_told H 0
                  rw [Pg.told_zero] at this
                  exact this)
                have H8d := H8.drew
                have c0 : w8.drew.cell? ⟨bx, 0, none⟩ = some (.pointer (some ⟨pb, 0, none⟩)) := b0
                have c1 : w8.drew.cell? ⟨pb, 0, none⟩ = some (.pointer (some ⟨db, 0, none⟩)) := b1
                go_region_held3 (fun w' => w'.cell? ⟨bx, 0, none⟩ = some (.pointer (some ⟨pb, 0, none⟩)) ∧ w'.cell? ⟨pb, 0, none⟩ = some (.pointer (some ⟨db, 0, none⟩))) (first | exact ⟨c0, c1⟩ | exact ⟨d0, d1⟩ | exact ⟨e0, e1⟩)
                  (first | (go_at_call 54; refine (HS2.out _ H8d).mono ?_; rintro e w9 ⟨rfl, H9, K9⟩; obtain ⟨d0, d1, _⟩ := cm_cells H9)
                         | (go_at_call 63; refine (HT0.out _ H9).mono ?_; rintro e w10 ⟨rfl, H10, K10⟩; obtain ⟨e0, e1, e5⟩ := cm_cells H10))
                have KKz := KK8.trans ((((Keeps.refl w8).drew).trans K9).trans K10)
                clear HS2 HT0 H8 H8d H9 K9 K10 KK8 c0 c1 d0 d1 b0 b1 b5
                have hfin2 : p.commit D root frm xs = ({ p with gen := p.gen + 1, root := root, frm := frm.toNat, live := l, taken := [] }, D3, 0) := by
                  have := HFIN.out
                  simpa using this
                have HFIN2 := Lib.hid hfin2
                clear HFIN hfin2
                go_wp2_with fail
                obtain ⟨lb5, tb5, G1⟩ := pgA_open.1 H10
                have hne : bx ≠ pb := by
                  have e1 : ∀ A B C E G : HProp, A * (B * (C * (E * G))) = E * (A * (B * (C * G))) := by intro A B C E G; ac_rfl
                  have e2 : ∀ A B C E G : HProp, A * (B * (C * (E * G))) = E * (A * (B * (C * G))) := by intro A B C E G; ac_rfl
                  have G2 := G1
                  have e3 : ∀ A B C E G L : HProp, A * (B * (C * (E * (G * L)))) = G * (A * (B * (C * (E * L)))) := by intro A B C E G L; ac_rfl
                  rw [e3] at G2
                  exact G2.ne
                have q0 : w10.cell? ⟨bx, 0, none⟩ = some (.pointer (some ⟨pb, 0, none⟩)) := e0
                have g3 := G1.cell 3 rfl
                have g4 := G1.cell 4 rfl
                have g5 := G1.cell 5 rfl
                have g6 := G1.cell 6 rfl
                have k3 := G1.unfz 3
                have k4 := G1.unfz 4
                have k5 := G1.unfz 5
                have k6 := G1.unfz 6
                clear e0 e1 e5
                go_region
                have G2 := (((G1.setCell (off := 5) (.int .i64 ((p.gen : Int) + 1))).setCell (off := 3) (.int .i64 root)).setCell (off := 4) (.int .i64 frm)).setCell (off := 6) (.map (some mb))
                have KZ := ((((KKz.setCell ⟨pb, 5, none⟩ (.int .i64 ((p.gen : Int) + 1))).setCell ⟨pb, 3, none⟩ (.int .i64 root)).setCell ⟨pb, 4, none⟩ (.int .i64 frm)).setCell ⟨pb, 6, none⟩ (.map (some mb))).drew
                replace G2 := G2.drew
                generalize World.drew _ = W11 at G2 KZ ⊢
                have hcells : ((((pgCells p db lb5 tb5).setIfInBounds 5 (.int .i64 ((p.gen : Int) + 1))).setIfInBounds 3 (.int .i64 root)).setIfInBounds 4 (.int .i64 frm)).setIfInBounds 6 (.map (some mb)) = pgCells { p with gen := p.gen + 1, root := root, frm := frm.toNat, live := l } db mb tb5 := by
                  have hfm : frm = ((frm.toNat : Nat) : Int) := by omega
                  show #[Value.pointer (some ⟨db, 0, none⟩), .int .i64 p.first, .int .i64 p.pages, .int .i64 root, .int .i64 frm, .int .i64 ((p.gen : Int) + 1), .map (some mb), .map (some tb5), .bool p.dead] = _
                  unfold pgCells
                  simp only []
                  rw [← hfm]
                  rfl
                rw [hcells] at G2
                have e7 : ∀ A B C E G L M : HProp, A * (B * (C * (E * (G * (L * M))))) = B * (A * (L * (C * (G * (E * M))))) := by intro A B C E G L M; ac_rfl
                rw [e7] at G2
                have G3 : Holds (pgA pb db { p with gen := p.gen + 1, root := root, frm := frm.toNat, live := l } * (pt bx (.cells #[.pointer (some ⟨pb, 0, none⟩)] 29 (0, 0)) * (diskA db D3 * F))) W11 := pgA_open.2 ⟨mb, tb5, G2.right⟩
                have q1 : W11.cell? ⟨bx, 0, none⟩ = some (.pointer (some ⟨pb, 0, none⟩)) := by
                  have G4 := G3
                  rw [sep_left_comm] at G4
                  exact G4.cell 0 rfl
                have HD := Lib.hid (Drop_calls G3)
                clear G1 G2 G3 hcells g3 g4 g5 g6 k3 k4 k5 k6 q0 H10 KKz hne e7
                go_wp2_with fail
                refine HD.out.mono ?_
                rintro e w12 ⟨rfl, H12, K12⟩
                have K13 := KZ.trans K12
                go_wp2_with fail
                go_ret
                rw [HFIN2.out]
                rw [sep_left_comm] at H12
                exact .mk H12.right K13
              · have hres : p.commit D root frm xs = (p.told x3, D3, x3) := by
                  have := HFIN.out
                  simpa [z3] using this
                have HRES := Lib.hid hres
                have H8d := H8.drew
                have c0 : w8.drew.cell? ⟨bx, 0, none⟩ = some (.pointer (some ⟨pb, 0, none⟩)) := b0
                have c1 : w8.drew.cell? ⟨pb, 0, none⟩ = some (.pointer (some ⟨db, 0, none⟩)) := b1
                have zb : (x3 != 0) = true := by simpa using z3
                clear HFIN hres z3
                go_region_held3 (fun w' => w'.cell? ⟨bx, 0, none⟩ = some (.pointer (some ⟨pb, 0, none⟩)) ∧ w'.cell? ⟨pb, 0, none⟩ = some (.pointer (some ⟨db, 0, none⟩))) (first | exact ⟨c0, c1⟩ | exact ⟨d0, d1⟩ | exact ⟨e0, e1⟩)
                  (first | (go_at_call 54; refine (HS2.out _ H8d).mono ?_; rintro e w9 ⟨rfl, H9, K9⟩; obtain ⟨d0, d1, _⟩ := cm_cells H9)
                         | (go_at_call 63; refine (cm_told H9 x3).mono ?_; rintro e w10 ⟨rfl, H10, K10⟩; obtain ⟨e0, e1, e5⟩ := cm_cells H10))
                have KKz := KK8.trans ((((Keeps.refl w8).drew).trans K9).trans K10)
                clear HS2 H8 H8d H9 K9 K10 KK8 c0 c1 d0 d1 b0 b1 b5
                go_wp2_with fail
                go_ret
                rw [HRES.out]
                exact .mk (cm_done H10) KKz
            · have hres : p.commit D root frm xs = (p.told x2, D2, x2) := by
                have := HFIN.out
                simpa [z2] using this
              have HRES := Lib.hid hres
              have H5d := H5.drew
              have c0 : w5.drew.cell? ⟨bx, 0, none⟩ = some (.pointer (some ⟨pb, 0, none⟩)) := e0
              have c1 : w5.drew.cell? ⟨pb, 0, none⟩ = some (.pointer (some ⟨db, 0, none⟩)) := e1
              have zb : (x2 != 0) = true := by simpa using z2
              clear HFIN hres z2
              go_region_held3 (fun w' => w'.cell? ⟨bx, 0, none⟩ = some (.pointer (some ⟨pb, 0, none⟩)) ∧ w'.cell? ⟨pb, 0, none⟩ = some (.pointer (some ⟨db, 0, none⟩))) (first | exact ⟨c0, c1⟩ | exact ⟨d0, d1⟩ | exact ⟨f0, f1⟩ | exact ⟨b0, b1⟩)
                (first | (go_at_call 52; refine (HHE.out _ H5d).mono ?_; rintro e w6 ⟨rfl, H6, K6⟩; obtain ⟨d0, d1, _⟩ := cm_cells H6)
                       | (go_at_call 53; refine (HWR.out _ H6).mono ?_; rintro e w7 ⟨rfl, H7, K7⟩; obtain ⟨f0, f1, _⟩ := cm_cells H7)
                       | (go_at_call 63; refine (cm_told H7 x2).mono ?_; rintro e w8 ⟨rfl, H8, K8⟩; obtain ⟨b0, b1, b5⟩ := cm_cells H8))
              have KK8 := KK5.trans (((((Keeps.refl w5).drew).trans K6).trans K7).trans K8)
              clear HWR HHE H5 H5d H6 H7 K6 K7 K8 KK5 c0 c1 d0 d1 f0 f1 e0 e1 e5
              go_wp2_with fail
              go_ret
              rw [HRES.out]
              exact .mk (cm_done H8) KK8
          · have hres : p.commit D root frm xs = (p.told x1, D1, x1) := by
              have := HFIN.out
              simpa [z1] using this
            have HRES := Lib.hid hres
            have zb : (x1 != 0) = true := by simpa using z1
            have H3d := H3.drew
            clear HFIN hres z1
            go_region_held3 (fun w' => w'.cell? ⟨bx, 0, none⟩ = some (.pointer (some ⟨pb, 0, none⟩)) ∧ w'.cell? ⟨pb, 0, none⟩ = some (.pointer (some ⟨db, 0, none⟩))) (first | exact ⟨c0, c1⟩ | exact ⟨d0, d1⟩ | exact ⟨e0, e1⟩)
              (first | (go_at_call 54; refine (HSY.out _ H3d).mono ?_; rintro e w4 ⟨rfl, H4, K4⟩; obtain ⟨d0, d1, _⟩ := cm_cells H4)
                     | (go_at_call 63; refine (cm_told H4 x1).mono ?_; rintro e w5 ⟨rfl, H5, K5⟩; obtain ⟨e0, e1, e5⟩ := cm_cells H5))
            have KK5 := K2.trans ((((Keeps.refl W).drew).trans K4).trans K5)
            clear HSY H4 H3 H3d K4 K5 K2 c0 c1 d0 d1
            go_wp2_with fail
            go_ret
            rw [HRES.out]
            exact .mk (cm_done H5) KK5
    · have hres : p.commit D root frm xs = (p, D, 191) := by rw [HC.out, hso]
      have Hres := Lib.hid hres
      have hlk := set_look H1 hroot.1 hroot.2
      have H2 := H1.right.right.alloc_only (.cells #[] 94)
      have K2 := (K0.trans K1).alloc (.cells #[] 94)
      clear hres hso H1 K1 HS
      go_wp2_with fail
      go_ret
      rw [Hres.out]
      exact .mk H2 K2
    · have hres : p.commit D root frm xs = (p, D, 191) := by rw [HC.out, hso]
      have Hres := Lib.hid hres
      have H2 := H1.right.alloc_only (.cells #[] 94)
      have K2 := (K0.trans K1).alloc (.cells #[] 94)
      clear hres hso H1 K1 HS
      go_wp2_with fail
      go_ret
      rw [Hres.out]
      exact .mk H2 K2
end Go.Proofs.YtmeepegllkhlcaaGreat
