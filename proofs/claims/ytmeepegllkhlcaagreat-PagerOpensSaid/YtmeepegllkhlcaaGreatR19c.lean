/-
  The document's pager: what it lies as; Format.
-/
import Derived.Test.YtmeepegllkhlcaaGreatR19b
namespace Go.Proofs.YtmeepegllkhlcaaGreat
open Go Go.RowKit Go.Maps

/-- Ints in a row of their own. -/
def rowI (v : Value) (l : List Int) : HProp :=
  ex fun g : Nat => ex fun cap : Nat => ex fun cur : Array Value => pur (v = .slice (some ⟨g, 0, none⟩) l.length cap ∧ l.length ≤ cap ∧ cap ≤ maxLen ∧ cur.size = cap ∧ cur.toList.take l.length = l.map (Value.int .i64)) * pt g (.cells cur 3 (0, 0))
theorem rowI_open {v : Value} {l : List Int} {F : HProp} {w : World} : Holds (rowI v l * F) w ↔ ∃ g cap cur, (v = .slice (some ⟨g, 0, none⟩) l.length cap ∧ l.length ≤ cap ∧ cap ≤ maxLen ∧ cur.size = cap ∧ cur.toList.take l.length = l.map (Value.int .i64)) ∧ Holds (pt g (.cells cur 3 (0, 0)) * F) w := by
  unfold rowI
  rw [holds_ex_sep]
  constructor
  · rintro ⟨g, h⟩
    rw [holds_ex_sep] at h
    obtain ⟨cap, h⟩ := h
    rw [holds_ex_sep] at h
    obtain ⟨cur, h⟩ := h
    rw [sep_assoc, holds_pur_sep] at h
    exact ⟨g, cap, cur, h.1, h.2⟩
  · rintro ⟨g, cap, cur, h1, h2⟩
    refine ⟨g, ?_⟩
    rw [holds_ex_sep]
    refine ⟨cap, ?_⟩
    rw [holds_ex_sep]
    refine ⟨cur, ?_⟩
    rw [sep_assoc, holds_pur_sep]
    exact ⟨h1, h2⟩
theorem rowI_cell {v : Value} {l : List Int} {F : HProp} {w : World} (h : Holds (rowI v l * F) w) : ∃ g cap, v = .slice (some ⟨g, 0, none⟩) l.length cap ∧ l.length ≤ cap ∧ ∀ j, j < l.length → w.cell? ⟨g, j, none⟩ = some (.int .i64 (l.getD j 0)) := by
  obtain ⟨g, cap, cur, ⟨hv, h1, h2, h3, h4⟩, hp⟩ := rowI_open.1 h
  refine ⟨g, cap, hv, h1, fun j hj => ?_⟩
  refine hp.cell j ?_
  have h5 : (cur.toList.take l.length)[j]? = (l.map (Value.int .i64))[j]? := by rw [h4]
  rw [List.getElem?_take, if_pos hj] at h5
  rw [← Array.getElem?_toList, h5, List.getElem?_map, List.getElem?_eq_getElem hj, List.getD_eq_getElem?_getD, List.getElem?_eq_getElem hj]
  rfl
theorem rowI_of_own {F : HProp} {w' : World} {v : Value} {l : List Int} {B : Nat} (h : w'.ownsRow B 3 1 v l.length (l.map (Value.int .i64))) (hne : 0 < l.length) (hg : ∀ g n c, v = .slice (some ⟨g, 0, none⟩) n c → ∀ o, w'.heap[g]? = some o → Holds (pt g o * F) w') : Holds (rowI v l * F) w' := by
  rcases h.2 with ⟨_, h0⟩ | ⟨g, cap, cur, hv, hb, hh, h1, h2, h3, h4⟩
  · omega
  · refine rowI_open.2 ⟨g, cap, cur, ⟨hv, h1, h2, by rw [h3, Nat.mul_one], by rw [← h4, Nat.mul_one]⟩, hg g _ _ hv _ hh⟩
theorem rowI_unfz {g n c : Nat} {l : List Int} {F : HProp} {w : World} (h : Holds (rowI (.slice (some ⟨g, 0, none⟩) n c) l * F) w) (j : Nat) : w.frozen? ⟨g, j, none⟩ = false := by
  obtain ⟨g', cap, cur, ⟨hv, _⟩, hp⟩ := rowI_open.1 h
  simp only [Value.slice.injEq, Option.some.injEq, Addr.mk.injEq] at hv
  rw [hv.1.1]
  exact hp.unfz j
/-- 'v[j] = x', v a row of ints of its own. -/
theorem rowI_set {g n c : Nat} {l : List Int} {F : HProp} {w : World} (h : Holds (rowI (.slice (some ⟨g, 0, none⟩) n c) l * F) w) (j : Nat) (x : Int) :
    Holds (rowI (.slice (some ⟨g, 0, none⟩) n c) (l.set j x) * F) (w.setCell ⟨g, j, none⟩ (.int .i64 x)) := by
  obtain ⟨g', cap, cur, ⟨hv, h1, h2, h3, h4⟩, hp⟩ := rowI_open.1 h
  have hg : g = g' := by
    simp only [Value.slice.injEq, Option.some.injEq, Addr.mk.injEq] at hv
    exact hv.1.1
  subst hg
  have hp2 := hp.setCell (off := j) (.int .i64 x)
  refine rowI_open.2 ⟨g, cap, cur.setIfInBounds j (.int .i64 x), ⟨by rw [List.length_set]; exact hv, by rw [List.length_set]; exact h1, h2, by simp [h3], ?_⟩, hp2⟩
  rw [List.length_set, Array.toList_setIfInBounds, List.take_set, h4, List.map_set]
theorem madeInts (n : Nat) : (madeCells (Value.int .i64 0).cells (n * 1)).toList = (List.replicate n (0 : Int)).map (Value.int .i64) := by
  unfold madeCells
  simp [Value.cells, List.map_replicate, Nat.mod_one, List.map_const']
/-- What 'make([]int, n)' has made. -/
theorem rowI_made {F : HProp} {w w1 : World} {n : Nat} (H : Holds F w) (hn : 0 < n) (ho : w1.ownsRow 0 3 1 (.slice (some ⟨w.heap.size, 0, none⟩) n n) n ((List.replicate n (0 : Int)).map (Value.int .i64))) (hg : w.grownBy w1 none) :
    Holds (rowI (.slice (some ⟨w.heap.size, 0, none⟩) n n) (List.replicate n 0) * F) w1 := by
  have ho2 : w1.ownsRow 0 3 1 (.slice (some ⟨w.heap.size, 0, none⟩) n n) (List.replicate n (0 : Int)).length ((List.replicate n (0 : Int)).map (Value.int .i64)) := by
    rw [List.length_replicate]; exact ho
  refine rowI_of_own ho2 (by rw [List.length_replicate]; exact hn) (fun g' m c hv o ho => ?_)
  have hgg : g' = w.heap.size := by
    simp only [Value.slice.injEq, Option.some.injEq, Addr.mk.injEq] at hv
    exact hv.1.1.symm
  rw [hgg] at ho ⊢
  exact H.fresh (Nat.le_refl _) ho (fun j hj => hg.block j hj (by simp))

/-! ### what a pager lies as -/
def useAt (p : Pg) (i : Nat) : Int := (if p.live.contains (i : Int) then 1 else 0) + (if p.taken.contains (i : Int) then 2 else 0)
def useL (p : Pg) : List Int := (List.range p.pages).map (useAt p)
theorem useL_length (p : Pg) : (useL p).length = p.pages := by simp [useL]
theorem useL_at {p : Pg} {i : Nat} (h : i < p.pages) : (useL p).getD i 0 = useAt p i := by
  unfold useL
  rw [List.getD_eq_getElem?_getD, List.getElem?_map, List.getElem?_range h]
  rfl
def rpCells (p : Pg) (rb : Nat) (uv : Value) : Array Value := #[.pointer (some ⟨rb, 0, none⟩), .int .i64 (p.first : Int), .int .i64 (p.pages : Int), .int .i64 p.root, .int .i64 (p.frm : Int), .int .i64 (p.gen : Int), uv, .bool p.dead]
def rpA (qb rb : Nat) (p : Pg) : HProp := ex fun uv : Value => pt qb (.cells (rpCells p rb uv) 40 (0, 0)) * rowI uv (useL p)
theorem rpA_open {qb rb : Nat} {p : Pg} {F : HProp} {w : World} : Holds (rpA qb rb p * F) w ↔ ∃ uv, Holds (pt qb (.cells (rpCells p rb uv) 40 (0, 0)) * (rowI uv (useL p) * F)) w := by
  unfold rpA
  rw [holds_ex_sep]
  constructor
  · rintro ⟨uv, h⟩
    rw [sep_assoc] at h
    exact ⟨uv, h⟩
  · rintro ⟨uv, h⟩
    refine ⟨uv, ?_⟩
    rw [sep_assoc]
    exact h
theorem useL_none {p : Pg} (h1 : p.live = []) (h2 : p.taken = []) : useL p = List.replicate p.pages 0 := by
  unfold useL
  rw [List.map_congr_left (g := fun _ => (0 : Int)) (fun i _ => by unfold useAt; rw [h1, h2]; rfl)]
  simp [List.map_const']

/-! ### Format -/
def RFmtTo (D : Dk) (first pages frm : Int) (rb : Nat) (F : HProp) (w : World) (e : Ending) (w' : World) : Prop :=
  match (Pg.format D first pages frm).2.1 with
  | none => Ret (.tuple #[.pointer none, .int .i64 (Pg.format D first pages frm).2.2]) (rdA rb (Pg.format D first pages frm).1 * F) w e w'
  | some p => ∃ qb, Ret (.tuple #[.pointer (some ⟨qb, 0, none⟩), .int .i64 0]) (rpA qb rb p * (rdA rb (Pg.format D first pages frm).1 * F)) w e w'

set_option maxRecDepth 100000 in
set_option maxHeartbeats 4000000 in
theorem RFormat_calls {rb : Nat} {D : Dk} {F : HProp} {w : World} (hD : D.Ok) (H : Holds (rdA rb D * F) w) (first pages frm : Int) (h1 : i64ok first) (h2 : i64ok pages) (h3 : i64ok frm) :
    Calls Tryz.prog 13 #[.pointer (some ⟨rb, 0, none⟩), .int .i64 first, .int .i64 pages, .int .i64 frm] w (RFmtTo D first pages frm rb F w) := by
  obtain ⟨i0, hi, hz0, hz1, hz2⟩ := info_parts Tryz_infoByte
  obtain ⟨i1, hi1, hy0, hy1, hy2⟩ := info_parts Tryz_infoInt
  unfold i64ok at h1 h2 h3
  have hck := Rform_calls hD H first pages frm h1 h2 h3
  obtain ⟨x0, hx0⟩ : ∃ x0, x0 = Pg.check D first pages frm := ⟨_, rfl⟩
  rw [← hx0] at hck
  have HCK := Lib.hid hck
  clear hck
  by_cases z0 : x0 = 0
  · subst z0
    have hg : ¬ (first < 2 ∨ pages < 1 ∨ 4096 < pages ∨ (D.n : Int) < first ∨ (D.n : Int) - first < 8 * pages ∨ frm < 1 ∨ 1152921504606846976 < frm) := by
      intro h
      unfold Pg.check at hx0
      rw [if_pos h] at hx0
      cases hx0
    have hpp : ∃ pn : Nat, pages = (pn : Int) ∧ 1 ≤ pn ∧ pn ≤ 4096 := ⟨pages.toNat, by omega, by omega, by omega⟩
    obtain ⟨pn, rfl, hpn1, hpn2⟩ := hpp
    have hff : ∃ fn : Nat, frm = (fn : Int) ∧ fn < 9223372036854775808 := ⟨frm.toNat, by omega, by omega⟩
    obtain ⟨fn, rfl, hfn⟩ := hff
    obtain ⟨z, hz⟩ : ∃ z, z = Pg.zeros 64 := ⟨_, rfl⟩
    obtain ⟨hd, hhd⟩ : ∃ hd, hd = headL 2 0 fn := ⟨_, rfl⟩
    have hzl : z.length = 64 := by rw [hz]; simp [Pg.zeros]
    have hhl : hd.length = 64 := by rw [hhd]; exact headL_length _ _ _
    have hhc := fun w => RHead_calls 2 0 fn (by omega) (by omega) hfn w
    rw [← hhd, show (((0 : Nat) : Int) - 1) = -1 from rfl] at hhc
    have hfmt : Pg.format D first (pn : Int) (fn : Int) = (if (D.write 1 z).2 ≠ 0 then ((D.write 1 z).1, none, 2)
        else if ((D.write 1 z).1.write 0 hd).2 ≠ 0 then (((D.write 1 z).1.write 0 hd).1, none, 2)
        else if ((D.write 1 z).1.write 0 hd).1.sync.2 ≠ 0 then (((D.write 1 z).1.write 0 hd).1.sync.1, none, 2)
        else (((D.write 1 z).1.write 0 hd).1.sync.1, some (Pg.fresh first (pn : Int) (fn : Int)), 0)) := by
      unfold Pg.format
      rw [← hx0, if_neg (by decide), hz, hhd, Int.toNat_natCast]
    have ok1 : (D.write 1 z).1.Ok := hD.write 1 z
    obtain ⟨zb, hzb⟩ : ∃ zb : ByteArray, strV z = .string zb := ⟨_, rfl⟩
    obtain ⟨hb, hhb⟩ : ∃ hb : ByteArray, strV hd = .string hb := ⟨_, rfl⟩
    have hw1 := fun w' (h : Holds (rdA rb D * F) w') => RWrite_calls hD h 1 (by unfold i64ok; omega) z (by omega)
    obtain ⟨D1, hD1⟩ : ∃ D1, D1 = (D.write 1 z).1 := ⟨_, rfl⟩
    obtain ⟨x1, hx1⟩ : ∃ x1, x1 = (D.write 1 z).2 := ⟨_, rfl⟩
    rw [← hD1, ← hx1] at hw1 hfmt
    rw [← hD1] at ok1
    have ok2 : (D1.write 0 hd).1.Ok := ok1.write 0 hd
    have hw2 := fun w' (h : Holds (rdA rb D1 * F) w') => RWrite_calls ok1 h 0 (by unfold i64ok; omega) hd (by omega)
    obtain ⟨D2, hD2⟩ : ∃ D2, D2 = (D1.write 0 hd).1 := ⟨_, rfl⟩
    obtain ⟨x2, hx2⟩ : ∃ x2, x2 = (D1.write 0 hd).2 := ⟨_, rfl⟩
    rw [← hD2, ← hx2] at hw2 hfmt
    rw [← hD2] at ok2
    have hsy := fun w' (h : Holds (rdA rb D2 * F) w') => RSync_calls ok2 h
    obtain ⟨D3, hD3⟩ : ∃ D3, D3 = D2.sync.1 := ⟨_, rfl⟩
    obtain ⟨x3, hx3⟩ : ∃ x3, x3 = D2.sync.2 := ⟨_, rfl⟩
    rw [← hD3, ← hx3] at hsy hfmt
    rw [hzb] at hw1
    rw [hhb] at hw2 hhc
    have HW1 := Lib.hid hw1
    have HW2 := Lib.hid hw2
    have HSY := Lib.hid hsy
    have HFMT := Lib.hid hfmt
    have HHC := Lib.hid hhc
    have HZ := Lib.hid hz
    have HZB := Lib.hid hzb
    have HFR : Hid (useL (Pg.fresh first (pn : Int) (fn : Int)) = List.replicate pn 0) := Lib.hid (by rw [useL_none rfl rfl]; rfl)
    have HRC : Hid (∀ uv, rpCells (Pg.fresh first (pn : Int) (fn : Int)) rb uv = #[.pointer (some ⟨rb, 0, none⟩), .int .i64 first, .int .i64 pn, .int .i64 (-1), .int .i64 fn, .int .i64 2, uv, .bool false]) := Lib.hid (fun uv => by
      unfold rpCells Pg.fresh
      simp only []
      rw [show ((first.toNat : Nat) : Int) = first from by omega]
      rfl)
    clear hw1 hw2 hsy hfmt hhc hz hzb hhb hx0 hhd hD1 hx1 hD2 hx2 hD3 hx3 hzl hhl hg h1 h2 h3 hfn
    go_enter Tryz.func13, Tryz.ntmps13
    go_wp2_with fail
    refine HCK.out.mono ?_
    rintro e w1 ⟨rfl, rfl⟩
    go_wp2_with (at_make; refine wpList_make_full _ rfl _ _ _ rfl 0 5 i0 (.int .u8 0) 1 Tryz.underlying60 hi hz0 hz1 .i64 .i64 64 64 64 rfl rfl rfl rfl (by rw [hz2]; omega) (by unfold maxLen; omega) (Nat.zero_le _) ?_; intro w2 hown2 hg2; rw [madeZeros] at hown2; have hstr := run_own_string hown2 (by simp [Pg.zeros]); rw [← HZ.out, HZB.out] at hstr)
    have H2 := H.grow (fun j hj => hg2.block j hj (by simp))
    have K2 := Keeps.grown hg2
    clear hown2 hg2
    by_cases z1 : x1 = 0
    · subst z1
      refine (HW1.out _ H2).mono ?_
      rintro e w3 ⟨rfl, H3, K3⟩
      have K4 := K2.trans K3
      go_wp2_with fail
      refine (HHC.out _).mono ?_
      rintro e w4 ⟨rfl, hb4⟩
      have H4 := Holds_below H3 (Nat.le_refl _) hb4
      have K5 := K4.trans (Keeps.below hb4)
      go_wp2_with fail
      by_cases z2 : x2 = 0
      · subst z2
        refine (HW2.out _ H4).mono ?_
        rintro e w5 ⟨rfl, H5, K6⟩
        have K7 := K5.trans K6
        go_wp2_with fail
        by_cases z3 : x3 = 0
        · subst z3
          have hres : Pg.format D first (pn : Int) (fn : Int) = (D3, some (Pg.fresh first (pn : Int) (fn : Int)), 0) := by rw [HFMT.out, if_neg (by decide), if_neg (by decide), if_neg (by decide)]
          have HRES := Lib.hid hres
          clear hres HFMT
          refine (HSY.out _ H5).mono ?_
          rintro e w6 ⟨rfl, H6, K8⟩
          have K9 := K7.trans K8
          clear H H2 H3 H4 H5 K2 K3 K4 K5 K6 K7 K8 hb4 hstr
          go_wp2_with (at_make; refine wpList_make_full _ rfl _ _ _ rfl 0 3 i1 (.int .i64 0) 1 Tryz.underlying38 hi1 hy0 hy1 .i64 .i64 (pn : Int) (pn : Int) pn rfl rfl rfl rfl (by rw [hy2]; omega) (by unfold maxLen; omega) (Nat.zero_le _) ?_; intro w7 hown7 hg7; rw [madeInts] at hown7)
          go_ret2
          have H7 := rowI_made H6 (by omega) hown7 hg7
          obtain ⟨g7, hg7d⟩ : ∃ g7, g7 = w6.heap.size := ⟨_, rfl⟩
          rw [← hg7d] at H7 ⊢
          have H8 := H7.alloc (.cells #[.pointer (some ⟨rb, 0, none⟩), .int .i64 first, .int .i64 pn, .int .i64 (-1), .int .i64 fn, .int .i64 2, .slice (some ⟨g7, 0, none⟩) pn pn, .bool false] 40)
          unfold RFmtTo
          rw [HRES.out]
          refine ⟨w7.heap.size, .mk (rpA_open.2 ⟨.slice (some ⟨g7, 0, none⟩) pn pn, ?_⟩) ((K9.trans (Keeps.grown hg7)).alloc _)⟩
          rw [HFR.out, HRC.out]
          exact H8
        · have zb : (x3 != 0) = true := by simpa using z3
          have hres : Pg.format D first (pn : Int) (fn : Int) = (D3, none, 2) := by rw [HFMT.out, if_neg (by decide), if_neg (by decide), if_pos z3]
          have HRES := Lib.hid hres
          clear hres z3 HFMT
          refine (HSY.out _ H5).mono ?_
          rintro e w6 ⟨rfl, H6, K8⟩
          go_wp2_with fail
          go_ret2
          unfold RFmtTo
          rw [HRES.out]
          exact .mk H6 (K7.trans K8)
      · have zb : (x2 != 0) = true := by simpa using z2
        have hres : Pg.format D first (pn : Int) (fn : Int) = (D2, none, 2) := by rw [HFMT.out, if_neg (by decide), if_pos z2]
        have HRES := Lib.hid hres
        clear hres z2 HFMT
        refine (HW2.out _ H4).mono ?_
        rintro e w5 ⟨rfl, H5, K6⟩
        go_wp2_with fail
        go_ret2
        unfold RFmtTo
        rw [HRES.out]
        exact .mk H5 (K5.trans K6)
    · have zb : (x1 != 0) = true := by simpa using z1
      have hres : Pg.format D first (pn : Int) (fn : Int) = (D1, none, 2) := by rw [HFMT.out, if_pos z1]
      have HRES := Lib.hid hres
      clear hres z1 HFMT
      refine (HW1.out _ H2).mono ?_
      rintro e w3 ⟨rfl, H3, K3⟩
      go_wp2_with fail
      go_ret2
      unfold RFmtTo
      rw [HRES.out]
      exact .mk H3 (K2.trans K3)
  · have hres : Pg.format D first pages frm = (D, none, x0) := by
      unfold Pg.format
      rw [← hx0, if_pos z0]
    have hb : (x0 != 0) = true := by simpa using z0
    have Hres := Lib.hid hres
    clear hres z0 hx0
    go_enter Tryz.func13, Tryz.ntmps13
    go_wp2_with fail
    refine HCK.out.mono ?_
    rintro e w1 ⟨rfl, rfl⟩
    go_wp2_with fail
    go_ret2
    unfold RFmtTo
    rw [Hres.out]
    exact .mk H (.refl _)
end Go.Proofs.YtmeepegllkhlcaaGreat
