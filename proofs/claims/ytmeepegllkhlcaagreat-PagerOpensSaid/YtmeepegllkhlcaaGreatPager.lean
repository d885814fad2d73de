/-
  A pager's small calls: is, used, told, Root, From, Gen, Dead, Drop, Free, Alloc, Read.
-/
import Derived.Test.YtmeepegllkhlcaaGreatPg
import Derived.Deep.RegionHeld3
namespace Go.Proofs.YtmeepegllkhlcaaGreat
open Go Go.RowKit Go.Maps

/-- A set of ints as a map's content. -/
def setM (l : List Int) : Lit → Option Value := liftI fun x => if x ∈ l then some (.agg #[]) else none
def setA (b : Nat) (l : List Int) : HProp := mapA Tryz.prog 3 b (setM l) l.length
def pgCells (p : Pg) (db lb tb : Nat) : Array Value := #[.pointer (some ⟨db, 0, none⟩), .int .i64 p.first, .int .i64 p.pages, .int .i64 p.root, .int .i64 p.frm, .int .i64 p.gen, .map (some lb), .map (some tb), .bool p.dead]
def pgA (pb db : Nat) (p : Pg) : HProp := ex fun lb : Nat => ex fun tb : Nat => pt pb (.cells (pgCells p db lb tb) 70 (0, 0)) * (setA lb p.live * setA tb p.taken)

theorem pgA_open {pb db : Nat} {p : Pg} {F : HProp} {w : World} : Holds (pgA pb db p * F) w ↔ ∃ lb tb, Holds (pt pb (.cells (pgCells p db lb tb) 70 (0, 0)) * (setA lb p.live * (setA tb p.taken * F))) w := by
  unfold pgA
  rw [holds_ex_sep]
  constructor
  · rintro ⟨lb, h⟩
    rw [holds_ex_sep] at h
    obtain ⟨tb, h⟩ := h
    rw [sep_assoc, sep_assoc] at h
    exact ⟨lb, tb, h⟩
  · rintro ⟨lb, tb, h⟩
    refine ⟨lb, ?_⟩
    rw [holds_ex_sep]
    refine ⟨tb, ?_⟩
    rw [sep_assoc, sep_assoc]
    exact h

theorem setM_at (l : List Int) (x : Int) : (setM l (.int .i64 x)).isSome = l.contains x := by
  by_cases h : x ∈ l <;> simp [setM, liftI, h]
theorem setM_getD (l : List Int) (k : Lit) : (setM l k).getD (.agg #[]) = .agg #[] := by
  unfold setM liftI
  split
  · simp only []
    split <;> rfl
  · rfl
theorem zeroNone (w : World) : (zeroValue 94).run Tryz.prog w = .ok (.agg #[]) w := by kernel_rfl
/-- '_, ok := m[x]' -/
theorem set_look {b : Nat} {l : List Int} {F : HProp} {w : World} (h : Holds (setA b l * F) w) {x : Int} (h0 : -9223372036854775808 ≤ x) (h1 : x ≤ 9223372036854775807) :
    (Instr.lookup 68 (.map (some b)) (.int .i64 x) true).run Tryz.prog w = .ok (.tuple #[.agg #[], .bool (l.contains x)]) w := by
  have := mapA_look_ok h kInt Tryz.underlying68 (zeroNone w) (keyInt h0 h1)
  rw [setM_at, setM_getD] at this
  exact this

theorem is_calls {pb db : Nat} {p : Pg} {F : HProp} {w : World} (H : Holds (pgA pb db p * F) w) (x : Int) :
    Calls Tryz.prog 66 #[.pointer (some ⟨pb, 0, none⟩), .int .i64 x] w fun e w' => e = .returned (.bool (p.is x)) ∧ w = w' := by
  obtain ⟨lb, tb, H⟩ := pgA_open.1 H
  have c2 := H.cell 2 (v := .int .i64 p.pages) rfl
  have hfin : p.is x = (decide (0 ≤ x) && decide (x < p.pages)) := by unfold Pg.is; rw [Bool.decide_and]
  rw [hfin]
  clear hfin H
  by_cases h0 : 0 ≤ x
  · go_enter Tryz.func66, Tryz.ntmps66
    go_wp2
    go_ret
    refine ⟨?_, rfl⟩
    simp [h0]
  · have h1 : decide (0 ≤ x) = false := by simpa using h0
    go_enter Tryz.func66, Tryz.ntmps66
    go_wp2
    go_ret
    exact ⟨rfl, rfl⟩

set_option maxRecDepth 100000 in
theorem used_calls {pb db : Nat} {p : Pg} {F : HProp} {w : World} (H : Holds (pgA pb db p * F) w) (x : Int) (h0 : -9223372036854775808 ≤ x) (h1 : x ≤ 9223372036854775807) :
    Calls Tryz.prog 57 #[.pointer (some ⟨pb, 0, none⟩), .int .i64 x] w (Ret (.bool (p.used x)) (pgA pb db p * F) w) := by
  have H0 := H
  obtain ⟨lb, tb, H⟩ := pgA_open.1 H
  have c6 := H.cell 6 (v := .map (some lb)) rfl
  have c7 := H.cell 7 (v := .map (some tb)) rfl
  have hlt := H.lt
  have hl1 := set_look (by rw [sep_left_comm] at H; exact H) h0 h1
  have e1 : ∀ A B C D : HProp, A * (B * (C * D)) = C * (A * (B * D)) := by intro A B C D; ac_rfl
  rw [e1] at H
  have hl2 := fun o : Obj => set_look (H.alloc_only o) h0 h1
  unfold Pg.used
  obtain ⟨u, hu⟩ : ∃ u, u = p.live.contains x := ⟨_, rfl⟩
  obtain ⟨t, ht⟩ : ∃ t, t = p.taken.contains x := ⟨_, rfl⟩
  rw [← hu] at hl1 ⊢
  rw [← ht] at hl2 ⊢
  clear hu ht H e1
  go_enter Tryz.func57, Tryz.ntmps57
  have H1 := (H0.alloc_only (.cells #[] 94)).alloc_only (.cells #[] 94)
  have K1 := ((Keeps.refl w).alloc (.cells #[] 94)).alloc (.cells #[] 94)
  cases u <;> (go_wp2; go_ret; exact .mk H1 K1)

theorem Root_calls {pb db : Nat} {p : Pg} {F : HProp} {w : World} (H : Holds (pgA pb db p * F) w) :
    Calls Tryz.prog 9 #[.pointer (some ⟨pb, 0, none⟩)] w fun e w' => e = .returned (.int .i64 p.root) ∧ w = w' := by
  obtain ⟨lb, tb, H⟩ := pgA_open.1 H
  have c := H.cell 3 (v := .int .i64 p.root) rfl
  go_enter Tryz.func9, Tryz.ntmps9
  go_wp2
  go_ret
  exact ⟨rfl, rfl⟩

theorem From_calls {pb db : Nat} {p : Pg} {F : HProp} {w : World} (H : Holds (pgA pb db p * F) w) :
    Calls Tryz.prog 10 #[.pointer (some ⟨pb, 0, none⟩)] w fun e w' => e = .returned (.int .i64 p.frm) ∧ w = w' := by
  obtain ⟨lb, tb, H⟩ := pgA_open.1 H
  have c := H.cell 4 (v := .int .i64 p.frm) rfl
  go_enter Tryz.func10, Tryz.ntmps10
  go_wp2
  go_ret
  exact ⟨rfl, rfl⟩

theorem Gen_calls {pb db : Nat} {p : Pg} {F : HProp} {w : World} (H : Holds (pgA pb db p * F) w) :
    Calls Tryz.prog 11 #[.pointer (some ⟨pb, 0, none⟩)] w fun e w' => e = .returned (.int .i64 p.gen) ∧ w = w' := by
  obtain ⟨lb, tb, H⟩ := pgA_open.1 H
  have c := H.cell 5 (v := .int .i64 p.gen) rfl
  go_enter Tryz.func11, Tryz.ntmps11
  go_wp2
  go_ret
  exact ⟨rfl, rfl⟩

theorem told_calls {pb db : Nat} {p : Pg} {F : HProp} {w : World} (H : Holds (pgA pb db p * F) w) (x : Int) :
    Calls Tryz.prog 63 #[.pointer (some ⟨pb, 0, none⟩), .int .i64 x] w (Ret (.int .i64 x) (pgA pb db (p.told x) * F) w) := by
  obtain ⟨lb, tb, H⟩ := pgA_open.1 H
  have c8 := H.cell 8 (v := .bool p.dead) rfl
  have f8 := H.unfz 8
  have hfin : Ret (.int .i64 x) (pgA pb db (p.told x) * F) w (.returned (.int .i64 x)) (w.setCell ⟨pb, 8, none⟩ (.bool (p.dead || x == 2))) :=
    .mk (pgA_open.2 ⟨lb, tb, H.setCell (off := 8) (.bool (p.dead || x == 2))⟩) ((Keeps.refl w).setCell _ _)
  clear H
  cases hd : p.dead with
  | true =>
    rw [hd] at c8 hfin
    simp only [Bool.true_or] at hfin
    clear hd
    go_enter Tryz.func63, Tryz.ntmps63
    go_wp2
    go_ret
    exact hfin
  | false =>
    rw [hd] at c8 hfin
    simp only [Bool.false_or] at hfin
    clear hd
    go_enter Tryz.func63, Tryz.ntmps63
    go_wp2
    go_ret
    exact hfin

set_option maxRecDepth 100000 in
theorem Drop_calls {pb db : Nat} {p : Pg} {F : HProp} {w : World} (H : Holds (pgA pb db p * F) w) :
    Calls Tryz.prog 25 #[.pointer (some ⟨pb, 0, none⟩)] w (Ret (.tuple #[]) (pgA pb db p.drop * F) w) := by
  obtain ⟨lb, tb, H⟩ := pgA_open.1 H
  have c7 := H.cell 7 (v := .map (some tb)) rfl
  have e1 : ∀ A B C D : HProp, A * (B * (C * D)) = C * (A * (B * D)) := by intro A B C D; ac_rfl
  rw [e1] at H
  go_enter Tryz.func25, Tryz.ntmps25
  go_wp2_with (refine wpList_clear_sep rfl _ _ rfl 94 Tryz.underlying68 rfl H ?_; intro w1 H1 K1)
  go_end0
  refine .mk (pgA_open.2 ⟨lb, tb, ?_⟩) K1
  rw [e1]
  have e2 : setA tb [] = mapA Tryz.prog 3 tb (fun _ => none) 0 := by
    unfold setA
    have : setM [] = fun _ => none := by
      funext k; unfold setM liftI; split <;> simp
    rw [this]; rfl
  show Holds (setA tb [] * _) w1
  rw [e2]
  exact H1

set_option maxRecDepth 100000 in
theorem Free_calls {pb db n : Nat} {p : Pg} {F : HProp} {w : World} (hp : p.Ok n) (H : Holds (pgA pb db p * F) w) :
    Calls Tryz.prog 14 #[.pointer (some ⟨pb, 0, none⟩)] w (Ret (.int .i64 p.free) (pgA pb db p * F) w) := by
  have hpages : p.pages ≤ 4096 := by have := hp.fits; have := hp.n4096; omega
  have c2 : w.cell? ⟨pb, 2, none⟩ = some (.int .i64 p.pages) := by
    obtain ⟨lb, tb, H⟩ := pgA_open.1 H
    exact H.cell 2 rfl
  obtain ⟨m, hm⟩ : ∃ m, m = p.pages := ⟨_, rfl⟩
  rw [← hm] at c2 hpages
  have hfree : p.free = ((List.range m).filter fun i : Nat => !p.used (i : Int)).length := by rw [hm]; rfl
  have Hm := Lib.hid hm
  have Hfree := Lib.hid hfree
  clear hm hfree
  go_enter Tryz.func14, Tryz.ntmps14
  go_wp2_with fail
  go_loopw [3, 9] (fun n i wr => ∃ (k c : Nat), k ≤ m ∧ c ≤ k ∧ i = .int .i64 k ∧ n = .int .i64 c ∧ c = ((List.range k).filter fun i : Nat => !p.used (i : Int)).length ∧ Holds (pgA pb db p * F) wr ∧ Keeps w wr) (fun _ i _ => m - (intOf i).toNat)
  case atStart => exact ⟨0, 0, Nat.zero_le _, Nat.le_refl _, rfl, rfl, rfl, H, .refl _⟩
  case round =>
    clear H c2
    obtain ⟨k, c, hk, hck, rfl, rfl, hc, HR, hKr⟩ := hrel
    have Hc := Lib.hid hc
    clear hc
    by_cases hlt : k < m
    · have hu := used_calls HR (k : Int) (by omega) (by omega)
      have hstep : ((List.range (k + 1)).filter fun i : Nat => !p.used (i : Int)).length = ((List.range k).filter fun i : Nat => !p.used (i : Int)).length + (if p.used (k : Int) then 0 else 1) := by
        rw [List.range_succ, List.filter_append, List.length_append]
        congr 1
        cases h : p.used (k : Int) <;> simp [h]
      have Hstep := Lib.hid hstep
      clear hstep
      cases hus : p.used (k : Int) with
      | true =>
        rw [hus] at hu
        have Hus := Lib.hid hus
        have hu' := Lib.hid hu
        clear hus hu
        go_wp2_with fail
        refine hu'.out.mono ?_
        rintro e w1 ⟨rfl, H1, K1⟩
        have K2 := hKr.trans K1
        clear hu' K1 HR hKr
        go_wp2_with fail
        go_roundw
        case rel => exact ⟨k + 1, c, by omega, by omega, by go_num, rfl, by rw [Hstep.out, Hus.out, Hc.out]; rfl, H1, K2⟩
        case measure => simp [intOf]; omega
      | false =>
        rw [hus] at hu
        have Hus := Lib.hid hus
        have hu' := Lib.hid hu
        clear hus hu
        go_wp2_with fail
        refine hu'.out.mono ?_
        rintro e w1 ⟨rfl, H1, K1⟩
        have K2 := hKr.trans K1
        clear hu' K1 HR hKr
        go_wp2_with fail
        go_roundw
        case rel => exact ⟨k + 1, c + 1, by omega, by omega, by go_num, by go_num, by rw [Hstep.out, Hus.out, Hc.out]; rfl, H1, K2⟩
        case measure => simp [intOf]; omega
    · obtain rfl : k = m := by omega
      go_wp2_with fail
      go_ret
      rw [Hfree.out, ← Hc.out]
      exact .mk HR hKr

theorem used_cons {p : Pg} {x : Int} : setM (x :: p.taken) (.int .i64 x) = some (.agg #[]) ∧ ∀ z, z ≠ .int .i64 x → setM (x :: p.taken) z = setM p.taken z := by
  constructor
  · simp [setM, liftI]
  · intro z hz
    unfold setM liftI
    split
    · rename_i y
      have hy : y ≠ x := fun e => hz (by rw [e])
      simp [hy]
    · rfl

set_option maxRecDepth 100000 in
theorem Alloc_calls {pb db n : Nat} {p : Pg} {F : HProp} {w : World} (hp : p.Ok n) (H : Holds (pgA pb db p * F) w) :
    Calls Tryz.prog 19 #[.pointer (some ⟨pb, 0, none⟩)] w (Ret (.tuple #[.int .i64 p.alloc.2.1, .int .i64 p.alloc.2.2]) (pgA pb db p.alloc.1 * F) w) := by
  have hpages : p.pages ≤ 4096 := by have := hp.fits; have := hp.n4096; omega
  have htl : p.taken.length ≤ 4096 := Nat.le_trans (Pg.nodup_le hp.taken hp.takenN) hpages
  have c2 : w.cell? ⟨pb, 2, none⟩ = some (.int .i64 p.pages) := by
    obtain ⟨lb, tb, H⟩ := pgA_open.1 H
    exact H.cell 2 rfl
  obtain ⟨m, hm⟩ : ∃ m, m = p.pages := ⟨_, rfl⟩
  rw [← hm] at c2 hpages
  have hff : p.firstFree = (List.range m).find? fun i : Nat => !p.used (i : Int) := by rw [hm]; rfl
  have Hm := Lib.hid hm
  have Hff := Lib.hid hff
  clear hm hff
  go_enter Tryz.func19, Tryz.ntmps19
  go_wp2_with fail
  go_loopw [9] (fun i wr => ∃ (k : Nat), k ≤ m ∧ i = .int .i64 k ∧ (∀ j : Nat, j < k → p.used (j : Int) = true) ∧ Holds (pgA pb db p * F) wr ∧ Keeps w wr) (fun i _ => m - (intOf i).toNat)
  case atStart => exact ⟨0, Nat.zero_le _, rfl, fun j hj => absurd hj (Nat.not_lt_zero _), H, .refl _⟩
  case round =>
    clear H c2
    obtain ⟨k, hk, rfl, hall, HR, hKr⟩ := hrel
    have Hall := Lib.hid hall
    clear hall
    by_cases hlt : k < m
    · have hu := used_calls HR (k : Int) (by omega) (by omega)
      cases hus : p.used (k : Int) with
      | true =>
        rw [hus] at hu
        have Hus := Lib.hid hus
        have hu' := Lib.hid hu
        clear hus hu
        go_wp2_with fail
        refine hu'.out.mono ?_
        rintro e w1 ⟨rfl, H1, K1⟩
        have K2 := hKr.trans K1
        clear hu' K1 HR hKr
        go_wp2_with fail
        go_roundw
        case rel => exact ⟨k + 1, by omega, by go_num, fun j hj => by
          rcases Nat.lt_succ_iff_lt_or_eq.1 hj with h | h
          · exact Hall.out j h
          · rw [h]; exact Hus.out, H1, K2⟩
        case measure => simp [intOf]; omega
      | false =>
        rw [hus] at hu
        have hres : p.alloc = ({ p with taken := (k : Int) :: p.taken }, (k : Int), 0) := by
          unfold Pg.alloc
          have : p.firstFree = some k := by
            rw [Hff.out, List.find?_range_eq_some]
            refine ⟨by rw [hus]; rfl, by simpa using hlt, fun j hj => by rw [Hall.out j hj]; rfl⟩
          rw [this]
        have Hres := Lib.hid hres
        have hnc : p.taken.contains (k : Int) = false := by
          unfold Pg.used at hus
          simp only [Bool.or_eq_false_iff] at hus
          exact hus.2
        have hu' := Lib.hid hu
        have Hnc := Lib.hid hnc
        clear hus hu hres hnc
        go_wp2_with fail
        refine hu'.out.mono ?_
        rintro e w1 ⟨rfl, H1, K1⟩
        have K2 := hKr.trans K1
        clear hu' K1 HR hKr
        obtain ⟨lb, tb, H2⟩ := pgA_open.1 H1
        have c7 := H2.cell 7 (v := .map (some tb)) rfl
        have e1 : ∀ A B C D : HProp, A * (B * (C * D)) = C * (A * (B * D)) := by intro A B C D; ac_rfl
        rw [e1] at H2
        have hlen : p.taken.length < maxLen := by unfold maxLen; omega
        have hM := @used_cons p (k : Int)
        have HM := Lib.hid hM
        clear H1 hM
        go_wp2_with (refine wpList_store_sep rfl _ _ _ 68 rfl 94 kInt Tryz.underlying68 rfl (setM ((k : Int) :: p.taken)) H2 hlen (.int .i64 (k : Int)) (.agg #[]) (.int .i64 (k : Int)) rfl rfl (keyInt (by omega) (by omega)) HM.out.1 HM.out.2 ?_; intro w3 H3 K3)
        go_ret2
        rw [Hres.out]
        refine .mk (pgA_open.2 ⟨lb, tb, ?_⟩) (K2.trans K3)
        rw [e1]
        have hs : (setM p.taken (.int .i64 (k : Int))).isSome = false := by rw [setM_at]; exact Hnc.out
        rw [hs] at H3
        exact H3
    · obtain rfl : k = m := by omega
      have hres : p.alloc = (p, 0, 192) := by
        unfold Pg.alloc
        have : p.firstFree = none := by
          rw [Hff.out, List.find?_eq_none]
          intro x hx
          rw [Hall.out x (by simpa using hx)]; simp
        rw [this]
      have Hres := Lib.hid hres
      clear hres
      go_wp2_with fail
      go_ret2
      rw [Hres.out]
      exact .mk HR hKr

theorem Pg.Ok.alloc {p : Pg} {n : Nat} (h : p.Ok n) : p.alloc.1.Ok n := by
  unfold Pg.alloc
  split
  · rename_i i hi
    have h1 := List.find?_range_eq_some.1 hi
    have h2 : i < p.pages := by simpa using h1.2.1
    have h3 : p.taken.contains (i : Int) = false := by
      have := h1.1
      unfold Pg.used at this
      simp only [Bool.not_eq_true', Bool.or_eq_false_iff] at this
      exact this.2
    exact ⟨h.first2, h.pages1, h.fits, h.n4096, h.root0, h.root1, h.frm1, h.frmMax, h.gen1, h.genMax, h.live, h.liveN, fun x hx => by
      rcases List.mem_cons.1 hx with rfl | hx
      · show 0 ≤ (i : Int) ∧ (i : Int) < p.pages
        omega
      · exact h.taken x hx, List.nodup_cons.2 ⟨by simpa using h3, h.takenN⟩⟩
  · exact h

theorem Read_pager_calls {pb db : Nat} {p : Pg} {D : Dk} {F : HProp} {w : World} (hp : p.Ok D.n) (hD : D.Ok) (H : Holds (pgA pb db p * (diskA db D * F)) w) (x : Int) :
    Calls Tryz.prog 50 #[.pointer (some ⟨pb, 0, none⟩), .int .i64 x] w (Ret (.tuple #[strV (p.read D x).1, .int .i64 (p.read D x).2]) (pgA pb db p * (diskA db D * F)) w) := by
  have hi := Lib.hid (is_calls H x)
  cases his : p.is x with
  | false =>
    have hres : p.read D x = ([], 191) := by unfold Pg.read; rw [his]; rfl
    rw [hres]
    rw [his] at hi
    clear his hres
    unfold strV
    go_enter Tryz.func50, Tryz.ntmps50
    go_wp2_with fail
    refine hi.out.mono ?_
    rintro e w1 ⟨rfl, rfl⟩
    go_wp2_with fail
    go_ret2
    exact .mk H (.refl _)
  | true =>
    have hres : p.read D x = D.read ((p.first : Int) + 8 * x) 8 := by unfold Pg.read; rw [his]; rfl
    rw [hres]
    have hx : 0 ≤ x ∧ x < p.pages := by simpa [Pg.is] using his
    rw [his] at hi
    have := hp.fits
    have := hp.n4096
    have hb1 : (p.first : Int) + 8 * x ≤ 4096 := by omega
    have hb0 : 0 ≤ x := hx.1
    have hb2 : x ≤ 4096 := by omega
    have hb3 : p.first ≤ 4096 := by omega
    obtain ⟨lb, tb, H1⟩ := pgA_open.1 H
    have c0 := H1.cell 0 (v := .pointer (some ⟨db, 0, none⟩)) rfl
    have c1 := H1.cell 1 (v := .int .i64 p.first) rfl
    rw [sep_left_comm] at H
    clear his hres H1
    go_enter Tryz.func50, Tryz.ntmps50
    go_wp2_with fail
    refine hi.out.mono ?_
    rintro e w1 ⟨rfl, rfl⟩
    go_wp2_with fail
    have c0' : w.drew.cell? ⟨pb, 0, none⟩ = some (.pointer (some ⟨db, 0, none⟩)) := c0
    have c1' : w.drew.cell? ⟨pb, 1, none⟩ = some (.int .i64 p.first) := c1
    have Hd := H.drew
    have hw1 : IntKind.i64.wrap (8 * x) = 8 * x := IntWalk.i64_in _ (by omega)
    have hw2 : IntKind.i64.wrap ((p.first : Int) + 8 * x) = (p.first : Int) + 8 * x := IntWalk.i64_in _ (by omega)
    go_region_held3 (fun w' => w'.cell? ⟨pb, 0, none⟩ = some (.pointer (some ⟨db, 0, none⟩)) ∧ w'.cell? ⟨pb, 1, none⟩ = some (.int .i64 p.first)) (first | exact ⟨c0', c1'⟩ | exact ⟨d0, d1⟩)
      (first | (go_at_call 44; refine (A_Read hD Hd _ _ (by omega) (by omega) (by omega) (by omega)).mono ?_; rintro e w2 ⟨rfl, H2, K2⟩; rw [sep_left_comm] at H2; obtain ⟨lb2, tb2, H3⟩ := pgA_open.1 H2; have d0 := H3.cell 0 (v := .pointer (some ⟨db, 0, none⟩)) rfl; have d1 := H3.cell 1 (v := .int .i64 p.first) rfl))
    go_wp2_with fail
    go_ret2
    exact .mk H2 (((Keeps.refl _).drew).trans K2)

end Go.Proofs.YtmeepegllkhlcaaGreat
