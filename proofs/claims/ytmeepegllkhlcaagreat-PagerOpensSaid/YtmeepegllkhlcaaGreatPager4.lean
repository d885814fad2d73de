/-
  A pager's Write and Format.
-/
import Derived.Test.YtmeepegllkhlcaaGreatPager3
namespace Go.Proofs.YtmeepegllkhlcaaGreat
open Go Go.RowKit Go.Maps

theorem run_strV_add (a b : Bs) (h : a.length + b.length ≤ 1000000) (w : World) : (binOp .add 9 (strV a) (strV b)).run Tryz.prog w = .ok (strV (a ++ b)) w := by
  unfold strV
  rw [binOp_string_add]
  exact run_string_add_lists w a b (by omega) (by omega)

set_option maxRecDepth 100000 in
set_option maxHeartbeats 4000000 in
theorem Write_pager_calls {pb db : Nat} {p : Pg} {D : Dk} {F : HProp} {w : World} (hp : p.Ok D.n) (hD : D.Ok) (H : Holds (pgA pb db p * (diskA db D * F)) w) (page : Int) (hpg : -9223372036854775808 ≤ page ∧ page ≤ 9223372036854775807) (s : Bs) (hs : s.length ≤ 140737488355328) :
    Calls Tryz.prog 21 #[.pointer (some ⟨pb, 0, none⟩), .int .i64 page, strV s] w (Ret (.int .i64 (p.write D page s).2.2) (pgA pb db (p.write D page s).1 * (diskA db (p.write D page s).2.1 * F)) w) := by
  have hsz : (⟨s.toArray⟩ : ByteArray).size = s.length := by simp [ByteArray.size]
  obtain ⟨lb, tb, H1⟩ := pgA_open.1 H
  have hlt := H1.lt
  have c7 := H1.cell 7 (v := .map (some tb)) rfl
  have c8 := H1.cell 8 (v := .bool p.dead) rfl
  have c0 := H1.cell 0 (v := .pointer (some ⟨db, 0, none⟩)) rfl
  have c1 := H1.cell 1 (v := .int .i64 p.first) rfl
  have hl := set_look (by have H2 := H1; rw [show ∀ A B C D : HProp, A * (B * (C * D)) = C * (A * (B * D)) from by intro A B C D; ac_rfl] at H2; exact H2) hpg.1 hpg.2
  have H2 := H.alloc_only (.cells #[] 94)
  have K2 := (Keeps.refl w).alloc (.cells #[] 94)
  have hex : ∀ off v, w.cell? ⟨pb, off, none⟩ = some v → (w.alloc (.cells #[] 94)).cell? ⟨pb, off, none⟩ = some v := fun off v h => by
    rw [World.cell?_alloc_lt _ _ _ hlt]; exact h
  have c0' := hex _ _ c0
  have c1' := hex _ _ c1
  clear hex H1
  have hwr : p.write D page s = (if p.dead then (p, D, 2)
  else if 512 < s.length then (p, D, 193)
  else if p.taken.contains page = false then (p, D, 191)
  else (p.told (D.write ((p.first : Int) + 8 * page) (s ++ Pg.zeros (512 - s.length))).2, (D.write ((p.first : Int) + 8 * page) (s ++ Pg.zeros (512 - s.length))).1, (D.write ((p.first : Int) + 8 * page) (s ++ Pg.zeros (512 - s.length))).2)) := rfl
  obtain ⟨t, ht⟩ : ∃ t, t = p.taken.contains page := ⟨_, rfl⟩
  rw [← ht] at hwr hl
  cases hdead : p.dead with
  | true =>
    rw [hdead] at c8 hwr
    have HW := Lib.hid hwr
    clear hwr hdead hsz ht
    unfold strV
    go_enter Tryz.func21, Tryz.ntmps21
    go_wp2_with fail
    go_ret
    rw [HW.out]
    exact .mk H2 K2
  | false =>
    rw [hdead] at c8 hwr
    rw [if_neg (by decide)] at hwr
    clear hdead
    by_cases hlong : 512 < s.length
    · rw [if_pos hlong] at hwr
      have HW := Lib.hid hwr
      have hb : decide ((512 : Int) < (s.length : Int)) = true := by simp; omega
      have hl2 : (512 : Int) < (s.length : Int) := by omega
      clear hwr hlong ht
      unfold strV
      go_enter Tryz.func21, Tryz.ntmps21
      go_wp2_with fail
      go_ret
      rw [HW.out]
      exact .mk H2 K2
    · rw [if_neg hlong] at hwr
      have hl2 : (s.length : Int) ≤ 512 := by omega
      cases t with
      | false =>
        rw [if_pos rfl] at hwr
        have HW := Lib.hid hwr
        clear hwr hlong ht
        unfold strV
        go_enter Tryz.func21, Tryz.ntmps21
        go_wp2_with fail
        go_ret
        rw [HW.out]
        exact .mk H2 K2
      | true =>
        rw [if_neg (by decide)] at hwr
        have hb := hp.taken page (by simpa using ht.symm)
        have := hp.fits
        have := hp.n4096
        have hw1 : IntKind.i64.wrap (8 * page) = 8 * page := IntWalk.i64_in _ (by omega)
        have hw2 : IntKind.i64.wrap ((p.first : Int) + 8 * page) = (p.first : Int) + 8 * page := IntWalk.i64_in _ (by omega)
        have hw3 : IntKind.i64.wrap (512 - (s.length : Int)) = ((512 - s.length : Nat) : Int) := by rw [IntWalk.i64_in _ (by omega)]; omega
        obtain ⟨z, hz⟩ : ∃ z, z = 512 - s.length := ⟨_, rfl⟩
        have hcat := fun w => run_strV_add s (Pg.zeros z) (by simp [Pg.zeros]; omega) w
        have hzc := fun w => zeros_calls z (by omega) w
        have hdw := fun w H => Write_calls (db := db) (D := D) (F := pgA pb db p * F) (w := w) hD H ((p.first : Int) + 8 * page) (by omega) (by omega) (s ++ Pg.zeros z) (by rw [List.length_append]; simp [Pg.zeros]; omega)
        rw [← hz] at hwr hw3
        obtain ⟨D1, hD1⟩ : ∃ D1, D1 = (D.write ((p.first : Int) + 8 * page) (s ++ Pg.zeros z)).1 := ⟨_, rfl⟩
        obtain ⟨x1, hx1⟩ : ∃ x1, x1 = (D.write ((p.first : Int) + 8 * page) (s ++ Pg.zeros z)).2 := ⟨_, rfl⟩
        rw [← hD1, ← hx1] at hdw hwr
        have HW := Lib.hid hwr
        have HZ := Lib.hid hzc
        have HDW := Lib.hid hdw
        clear hwr hlong ht hzc hdw hD1 hx1 hz
        obtain ⟨sb, hsb⟩ : ∃ sb : ByteArray, sb = ⟨s.toArray⟩ := ⟨_, rfl⟩
        have e0 : strV s = .string sb := by rw [hsb]; rfl
        rw [← hsb] at hsz
        rw [e0] at hcat ⊢
        clear e0 hsb
        go_enter Tryz.func21, Tryz.ntmps21
        go_wp2_with fail
        obtain ⟨W, hW⟩ : ∃ W, W = w.alloc (.cells #[] 94) := ⟨_, rfl⟩
        rw [← hW] at c0' c1' H2 K2 ⊢
        clear c0 c1 c7 c8 hl hlt hW
        have a0 : W.drew.cell? ⟨pb, 0, none⟩ = some (.pointer (some ⟨db, 0, none⟩)) := c0'
        have a1 : W.drew.cell? ⟨pb, 1, none⟩ = some (.int .i64 p.first) := c1'
        go_region_held3 (fun w' => w'.cell? ⟨pb, 0, none⟩ = some (.pointer (some ⟨db, 0, none⟩)) ∧ w'.cell? ⟨pb, 1, none⟩ = some (.int .i64 p.first)) (first | exact ⟨a0, a1⟩ | exact ⟨d0, d1⟩ | exact ⟨f0, f1⟩ | exact ⟨b0, b1⟩)
          (first | (go_at_call 51; refine (HZ.out _).mono ?_; rintro e w6 ⟨rfl, hb6⟩; have H6 := H2.drew.below hb6; have K6 := (K2.drew).trans (Keeps.below hb6); obtain ⟨lb6, tb6, G6⟩ := pgA_open.1 H6; have d0 := G6.cell 0 (v := .pointer (some ⟨db, 0, none⟩)) rfl; have d1 := G6.cell 1 (v := .int .i64 p.first) rfl; rw [sep_left_comm] at H6)
                 | (go_at_call 53; refine (HDW.out _ H6).mono ?_; rintro e w7 ⟨rfl, H7, K7⟩; rw [sep_left_comm] at H7; obtain ⟨lb7, tb7, G7⟩ := pgA_open.1 H7; have f0 := G7.cell 0 (v := .pointer (some ⟨db, 0, none⟩)) rfl; have f1 := G7.cell 1 (v := .int .i64 p.first) rfl)
                 | (go_at_call 63; refine (told_calls H7 x1).mono ?_; rintro e w8 ⟨rfl, H8, K8⟩; obtain ⟨lb8, tb8, G8⟩ := pgA_open.1 H8; have b0 := G8.cell 0 (v := .pointer (some ⟨db, 0, none⟩)) rfl; have b1 := G8.cell 1 (v := .int .i64 p.first) rfl))
        go_wp2_with fail
        go_ret
        rw [HW.out]
        exact .mk H8 ((K6.trans K7).trans K8)

/-! ### Format -/
/-- What Format leaves behind. -/
def FmtTo (D : Dk) (first pages frm : Int) (db : Nat) (F : HProp) (w : World) (e : Ending) (w' : World) : Prop :=
  match (Pg.format D first pages frm).2.1 with
  | none => Ret (.tuple #[.pointer none, .int .i64 (Pg.format D first pages frm).2.2]) (diskA db (Pg.format D first pages frm).1 * F) w e w'
  | some p => ∃ pb, Ret (.tuple #[.pointer (some ⟨pb, 0, none⟩), .int .i64 0]) (pgA pb db p * (diskA db (Pg.format D first pages frm).1 * F)) w e w'

theorem pg_made {F : HProp} {w : World} (H : Holds F w) (p : Pg) (db : Nat) (hl : p.live = []) (ht : p.taken = []) :
    Holds (pgA (w.heap.size + 1 + 1) db p * F) (((w.alloc (.map #[] 0)).alloc (.map #[] 0)).alloc (.cells (pgCells p db w.heap.size (w.heap.size + 1)) 70)) := by
  have s1 : (w.alloc (.map #[] 0)).heap.size = w.heap.size + 1 := by simp
  have s2 : ((w.alloc (.map #[] 0)).alloc (.map #[] 0)).heap.size = w.heap.size + 1 + 1 := by simp
  have H1 := mapA_made (mapA_made H Tryz.prog 3) Tryz.prog 3
  have H2 := H1.alloc (.cells (pgCells p db w.heap.size (w.heap.size + 1)) 70)
  rw [s1, s2] at H2
  refine pgA_open.2 ⟨w.heap.size, w.heap.size + 1, ?_⟩
  rw [hl, ht]
  have e0 : ∀ b, setA b [] = mapA Tryz.prog 3 b (fun _ => none) 0 := by
    intro b
    unfold setA
    have : setM [] = fun _ => none := by
      funext k; unfold setM liftI; split <;> simp
    rw [this]; rfl
  rw [e0, e0]
  have e1 : ∀ A B C E : HProp, A * (B * (C * E)) = A * (C * (B * E)) := by intro A B C E; ac_rfl
  rw [e1]
  exact H2

set_option maxRecDepth 100000 in
set_option maxHeartbeats 4000000 in
theorem Format_calls {db : Nat} {D : Dk} {F : HProp} {w : World} (hD : D.Ok) (H : Holds (diskA db D * F) w) (first pages frm : Int)
    (h1 : -9223372036854775808 ≤ first ∧ first ≤ 9223372036854775807) (h2 : -9223372036854775808 ≤ pages ∧ pages ≤ 9223372036854775807) (h3 : -9223372036854775808 ≤ frm ∧ frm ≤ 9223372036854775807) :
    Calls Tryz.prog 12 #[.pointer (some ⟨db, 0, none⟩), .int .i64 first, .int .i64 pages, .int .i64 frm] w (FmtTo D first pages frm db F w) := by
  have hmm := @run_makeMap Tryz.prog
  have hck := check_calls hD H first pages frm h1 h2 h3
  obtain ⟨x0, hx0⟩ : ∃ x0, x0 = Pg.check D first pages frm := ⟨_, rfl⟩
  rw [← hx0] at hck
  have HCK := Lib.hid hck
  clear hck
  by_cases z0 : x0 = 0
  · subst z0
    have hg : ¬ (first < 2 ∨ pages < 1 ∨ 4096 < pages ∨ (D.n : Int) < first ∨ (D.n : Int) - first < 8 * pages ∨ frm < 1 ∨ 1152921504606846976 < frm) := by
      intro h
      unfold Pg.check at hx0
      rw [if_pos h] at hx0
      cases hx0
    have hp0 := pg_made H (Pg.fresh first pages frm) db rfl rfl
    have hcells : pgCells (Pg.fresh first pages frm) db w.heap.size (w.heap.size + 1) = #[.pointer (some ⟨db, 0, none⟩), .int .i64 first, .int .i64 pages, .int .i64 (-1), .int .i64 frm, .int .i64 2, .map (some w.heap.size), .map (some (w.heap.size + 1)), .bool false] := by
      unfold pgCells Pg.fresh
      simp only []
      rw [show ((first.toNat : Nat) : Int) = first from by omega, show ((pages.toNat : Nat) : Int) = pages from by omega, show ((frm.toNat : Nat) : Int) = frm from by omega]
      rfl
    rw [hcells] at hp0
    have K0 := (((Keeps.refl w).alloc (.map #[] 0)).alloc (.map #[] 0)).alloc (.cells #[.pointer (some ⟨db, 0, none⟩), .int .i64 first, .int .i64 pages, .int .i64 (-1), .int .i64 frm, .int .i64 2, .map (some w.heap.size), .map (some (w.heap.size + 1)), .bool false] 70)
    have HX0 := Lib.hid hx0
    have HP0 := Lib.hid hp0
    clear hcells hx0 hp0
    go_enter Tryz.func12, Tryz.ntmps12
    go_wp2_with fail
    refine HCK.out.mono ?_
    rintro e w1 ⟨rfl, rfl⟩
    go_wp2_with fail
    have H1 := HP0.out
    generalize World.alloc _ _ = W at H1 K0 ⊢
    obtain ⟨pb, hpb⟩ : ∃ pb, pb = w.heap.size + 1 + 1 := ⟨_, rfl⟩
    rw [← hpb] at H1 ⊢
    clear hpb HP0 HCK hmm
    have hfm : frm = ((frm.toNat : Nat) : Int) := by omega
    have hzc := fun w => zeros_calls 64 (by omega) w
    have hhd := fun w => head_calls (w := w) 2 0 frm.toNat (by omega) (by omega) (by omega)
    obtain ⟨hd, hhd2⟩ : ∃ hd, hd = headL 2 0 frm.toNat := ⟨_, rfl⟩
    have hhl : hd.length = 64 := by rw [hhd2]; exact headL_length _ _ _
    obtain ⟨z, hz⟩ : ∃ z, z = Pg.zeros 64 := ⟨_, rfl⟩
    have hzl : z.length = 64 := by rw [hz]; simp [Pg.zeros]
    rw [← hhd2, ← hfm] at hhd
    rw [← hz] at hzc
    obtain ⟨zb, hzb⟩ : ∃ zb : ByteArray, strV z = .string zb := ⟨_, rfl⟩
    obtain ⟨hb, hhb⟩ : ∃ hb : ByteArray, strV hd = .string hb := ⟨_, rfl⟩
    rw [hzb] at hzc
    rw [hhb] at hhd
    have HZB := Lib.hid hzb
    have HHB := Lib.hid hhb
    clear hzb hhb
    have HZ := Lib.hid hzc
    have HH := Lib.hid hhd
    have HD2 := Lib.hid hhd2
    have Hz := Lib.hid hz
    clear hzc hhd hhd2 hz hfm
    have hcel : ∀ w', Holds (pgA pb db (Pg.fresh first pages frm) * (diskA db D * F)) w' → w'.cell? ⟨pb, 5, none⟩ = some (.int .i64 2) ∧ w'.cell? ⟨pb, 3, none⟩ = some (.int .i64 (-1)) ∧ w'.cell? ⟨pb, 4, none⟩ = some (.int .i64 frm) := by
      intro w' h
      obtain ⟨lb, tb, h⟩ := pgA_open.1 h
      have hfm : frm = ((frm.toNat : Nat) : Int) := by omega
      refine ⟨h.cell 5 rfl, h.cell 3 rfl, h.cell 4 ?_⟩
      rw [hfm]; rfl
    have HCEL := Lib.hid hcel
    obtain ⟨a5, a3, a4⟩ := hcel _ H1.drew
    clear hcel hg
    go_region_held3 (fun w' => w'.cell? ⟨pb, 5, none⟩ = some (.int .i64 2) ∧ w'.cell? ⟨pb, 3, none⟩ = some (.int .i64 (-1)) ∧ w'.cell? ⟨pb, 4, none⟩ = some (.int .i64 frm)) (first | exact ⟨a5, a3, a4⟩ | exact ⟨d5, d3, d4⟩ | exact ⟨f5, f3, f4⟩ | exact HCEL.out _ (H7.alloc_only _))
      (first | (go_at_call 51; refine (HZ.out _).mono ?_; rintro e w6 ⟨rfl, hb6⟩; have H6 := H1.drew.below hb6; have K6 := (K0.drew).trans (Keeps.below hb6); obtain ⟨d5, d3, d4⟩ := HCEL.out _ H6)
             | (go_at_call 52; refine (HH.out _).mono ?_; rintro e w7 ⟨rfl, hb7⟩; have H7 := H6.below hb7; have K7 := K6.trans (Keeps.below hb7); obtain ⟨f5, f3, f4⟩ := HCEL.out _ H7))
    have H8 := H7.alloc (.cells #[.string zb, .string hb] 9)
    have K8 := K7.alloc (.cells #[.string zb, .string hb] 9)
    obtain ⟨W8, hW8⟩ : ∃ W8, W8 = w7.alloc (.cells #[.string zb, .string hb] 9) := ⟨_, rfl⟩
    rw [← hW8] at H8 K8 ⊢
    obtain ⟨sb, hsb⟩ : ∃ sb, sb = w7.heap.size := ⟨_, rfl⟩
    rw [← hsb] at H8 ⊢
    clear hW8 hsb H7 K7 H6 K6 f5 f3 f4 d5 d3 d4 a5 a3 a4 hb6 hb7 HZ HH HCEL H1 K0
    have hcon : ∀ (E : Dk) (a : Int) (t : Bs) (tb : ByteArray), E.Ok → strV t = .string tb → -9223372036854775808 ≤ a → a ≤ 9223372036854775807 → t.length = 64 → ∀ w', Holds (pt sb (.cells #[.string zb, .string hb] 9 (0, 0)) * (pgA pb db (Pg.fresh first pages frm) * (diskA db E * F))) w' →
        Calls Tryz.prog 53 #[.pointer (some ⟨db, 0, none⟩), .int .i64 a, .string tb] w' (Ret (.int .i64 (E.write a t).2) (pt sb (.cells #[.string zb, .string hb] 9 (0, 0)) * (pgA pb db (Pg.fresh first pages frm) * (diskA db (E.write a t).1 * F))) w') := by
      intro E a t tb hE ht ha ha' htl w' hw
      have e1 : ∀ A B C G : HProp, A * (B * (C * G)) = C * (A * (B * G)) := by intro A B C G; ac_rfl
      rw [e1] at hw
      have := Write_calls hE hw a ha ha' t (by omega)
      rw [ht] at this
      refine this.mono ?_
      rintro e w'' ⟨rfl, H1, K1⟩
      rw [← e1] at H1
      exact .mk H1 K1
    have hw1 := hcon D 1 z zb hD HZB.out (by decide) (by decide) hzl
    have ok1 : (D.write 1 z).1.Ok := hD.write 1 z
    have hfmt : Pg.format D first pages frm = (if (D.write 1 z).2 ≠ 0 then ((D.write 1 z).1, none, 2)
        else if ((D.write 1 z).1.write 0 hd).2 ≠ 0 then (((D.write 1 z).1.write 0 hd).1, none, 2)
        else if ((D.write 1 z).1.write 0 hd).1.sync.2 ≠ 0 then (((D.write 1 z).1.write 0 hd).1.sync.1, none, 2)
        else (((D.write 1 z).1.write 0 hd).1.sync.1, some (Pg.fresh first pages frm), 0)) := by
      unfold Pg.format
      rw [← HX0.out, if_neg (by decide), Hz.out, HD2.out]
    obtain ⟨D1, hD1⟩ : ∃ D1, D1 = (D.write 1 z).1 := ⟨_, rfl⟩
    obtain ⟨x1, hx1⟩ : ∃ x1, x1 = (D.write 1 z).2 := ⟨_, rfl⟩
    rw [← hD1, ← hx1] at hw1 hfmt
    rw [← hD1] at ok1
    have hw2 := hcon D1 0 hd hb ok1 HHB.out (by decide) (by decide) hhl
    have ok2 : (D1.write 0 hd).1.Ok := ok1.write 0 hd
    obtain ⟨D2, hD2⟩ : ∃ D2, D2 = (D1.write 0 hd).1 := ⟨_, rfl⟩
    obtain ⟨x2, hx2⟩ : ∃ x2, x2 = (D1.write 0 hd).2 := ⟨_, rfl⟩
    rw [← hD2, ← hx2] at hw2 hfmt
    rw [← hD2] at ok2
    have hsy : ∀ w', Holds (pt sb (.cells #[.string zb, .string hb] 9 (0, 0)) * (pgA pb db (Pg.fresh first pages frm) * (diskA db D2 * F))) w' →
        Calls Tryz.prog 54 #[.pointer (some ⟨db, 0, none⟩)] w' (Ret (.int .i64 D2.sync.2) (pt sb (.cells #[.string zb, .string hb] 9 (0, 0)) * (pgA pb db (Pg.fresh first pages frm) * (diskA db D2.sync.1 * F))) w') := by
      intro w' hw
      have e1 : ∀ A B C G : HProp, A * (B * (C * G)) = C * (A * (B * G)) := by intro A B C G; ac_rfl
      rw [e1] at hw
      refine (Sync_calls ok2 hw).mono ?_
      rintro e w'' ⟨rfl, H1, K1⟩
      rw [← e1] at H1
      exact .mk H1 K1
    obtain ⟨D3, hD3⟩ : ∃ D3, D3 = D2.sync.1 := ⟨_, rfl⟩
    obtain ⟨x3, hx3⟩ : ∃ x3, x3 = D2.sync.2 := ⟨_, rfl⟩
    rw [← hD3, ← hx3] at hsy hfmt
    have HW1 := Lib.hid hw1
    have HW2 := Lib.hid hw2
    have HSY := Lib.hid hsy
    have HFMT := Lib.hid hfmt
    clear hcon hw1 hw2 hsy hfmt hD1 hx1 hD2 hx2 hD3 hx3 hzl hhl HZB HHB
    go_wp2_with fail
    go_loopw [48] (fun i wr => ∃ (k : Nat) (E : Dk), i = .int .i64 k ∧ ((k = 0 ∧ E = D) ∨ (k = 1 ∧ E = D1 ∧ x1 = 0) ∨ (k = 2 ∧ E = D2 ∧ x1 = 0 ∧ x2 = 0)) ∧ Holds (pt sb (.cells #[.string zb, .string hb] 9 (0, 0)) * (pgA pb db (Pg.fresh first pages frm) * (diskA db E * F))) wr ∧ Keeps w wr) (fun i _ => 2 - (intOf i).toNat)
    case atStart => exact ⟨0, D, rfl, .inl ⟨rfl, rfl⟩, H8, K8⟩
    case round =>
      clear H8 K8 H
      obtain ⟨k, E, rfl, hcase, HR, hKr⟩ := hrel
      rcases hcase with ⟨rfl, rfl⟩ | ⟨rfl, rfl, rfl⟩ | ⟨rfl, rfl, rfl, rfl⟩
      · have s0 := HR.cell 0 (v := .string zb) rfl
        by_cases z1 : x1 = 0
        · subst z1
          go_wp2_with fail
          refine (HW1.out _ HR).mono ?_
          rintro e w1 ⟨rfl, G1, L1⟩
          have L2 := hKr.trans L1
          go_wp2_with fail
          go_roundw
          case rel => exact ⟨1, D1, by go_num, .inr (.inl (by simp)), G1, L2⟩
          case measure => simp [intOf]
        · have zb : (x1 != 0) = true := by simpa using z1
          have hres : Pg.format E first pages frm = (D1, none, 2) := by rw [HFMT.out, if_pos z1]
          have HRES := Lib.hid hres
          clear hres z1 HFMT
          go_wp2_with fail
          refine (HW1.out _ HR).mono ?_
          rintro e w1 ⟨rfl, G1, L1⟩
          have L2 := hKr.trans L1
          go_wp2_with fail
          go_ret2
          unfold FmtTo
          rw [HRES.out]
          exact .mk G1.right.right L2
      · have s0 := HR.cell 1 (v := .string hb) rfl
        by_cases z1 : x2 = 0
        · subst z1
          go_wp2_with fail
          refine (HW2.out _ HR).mono ?_
          rintro e w1 ⟨rfl, G1, L1⟩
          have L2 := hKr.trans L1
          go_wp2_with fail
          go_roundw
          case rel => exact ⟨2, D2, by go_num, .inr (.inr (by simp)), G1, L2⟩
          case measure => simp [intOf]
        · have zb : (x2 != 0) = true := by simpa using z1
          have hres : Pg.format D first pages frm = (D2, none, 2) := by rw [HFMT.out, if_neg (by decide), if_pos z1]
          have HRES := Lib.hid hres
          clear hres z1 HFMT
          go_wp2_with fail
          refine (HW2.out _ HR).mono ?_
          rintro e w1 ⟨rfl, G1, L1⟩
          have L2 := hKr.trans L1
          go_wp2_with fail
          go_ret2
          unfold FmtTo
          rw [HRES.out]
          exact .mk G1.right.right L2
      · by_cases z1 : x3 = 0
        · subst z1
          have hres : Pg.format D first pages frm = (D3, some (Pg.fresh first pages frm), 0) := by rw [HFMT.out, if_neg (by decide), if_neg (by decide), if_neg (by decide)]
          have HRES := Lib.hid hres
          clear hres HFMT
          go_wp2_with fail
          refine (HSY.out _ HR).mono ?_
          rintro e w1 ⟨rfl, G1, L1⟩
          have L2 := hKr.trans L1
          go_wp2_with fail
          go_ret2
          unfold FmtTo
          rw [HRES.out]
          exact ⟨pb, .mk G1.right L2⟩
        · have zb : (x3 != 0) = true := by simpa using z1
          have hres : Pg.format D first pages frm = (D3, none, 2) := by rw [HFMT.out, if_neg (by decide), if_neg (by decide), if_pos z1]
          have HRES := Lib.hid hres
          clear hres z1 HFMT
          go_wp2_with fail
          refine (HSY.out _ HR).mono ?_
          rintro e w1 ⟨rfl, G1, L1⟩
          have L2 := hKr.trans L1
          go_wp2_with fail
          go_ret2
          unfold FmtTo
          rw [HRES.out]
          exact .mk G1.right.right L2
  · have hres : Pg.format D first pages frm = (D, none, x0) := by
      unfold Pg.format
      rw [← hx0, if_pos z0]
    have hb : (x0 != 0) = true := by simpa using z0
    have Hres := Lib.hid hres
    clear hres z0 hx0
    go_enter Tryz.func12, Tryz.ntmps12
    go_wp2_with fail
    refine HCK.out.mono ?_
    rintro e w1 ⟨rfl, rfl⟩
    go_wp2_with fail
    go_ret2
    unfold FmtTo
    rw [Hres.out]
    exact .mk H (.refl _)
end Go.Proofs.YtmeepegllkhlcaaGreat
