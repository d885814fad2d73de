/-
  The law's helpers: a disk of zeros, fixed, laidOut.
-/
import Derived.Test.YtmeepegllkhlcaaGreatPager6
import Derived.Test.YtmeepegllkhlcaaGreatFix
namespace Go.Proofs.YtmeepegllkhlcaaGreat
open Go Go.RowKit Go.Maps

theorem madeZeros (n : Nat) : (madeCells (Value.int .u8 0).cells (n * 1)).toList = Lib.byteCells (Pg.zeros n) := by
  apply List.ext_getElem
  · simp [madeCells, Value.cells, Lib.byteCells, Pg.zeros]
  · intro i h1 h2
    simp [madeCells, Value.cells, Lib.byteCells, Pg.zeros, Nat.mod_one]

theorem intsA_nil (a : Option Addr) (c : Nat) : intsA (.slice a 0 c) [] = 1 := by
  funext h
  apply propext
  constructor
  · rintro (⟨a, c, ⟨_, _⟩, hh⟩ | ⟨g, cs, c, hh⟩)
    · exact hh
    · have h2 : (pur _ * pt g (.cells cs 3 (0, 0))) h := hh
      rw [pur_sep] at h2
      exact absurd rfl h2.1.1
  · intro hh
    exact .inl ⟨a, c, ⟨rfl, rfl⟩, hh⟩
theorem diskB_nil {db : Nat} {D : Dk} {a : Option Addr} {c : Nat} {F : HProp} {w : World} (hk : D.kept = []) (H : Holds (diskB db (.slice a D.kept.length c) D * F) w) : Holds (diskA db D * F) w := by
  refine diskA_B.2 ⟨.slice a D.kept.length c, ?_⟩
  rw [hk]
  rw [hk] at H
  rw [show ([] : List Int).length = 0 from rfl] at H ⊢
  rw [intsA_nil, emp_sep]
  exact H

theorem Pg.format_ok {D : Dk} (h : D.Ok) (a b c : Int) : (Pg.format D a b c).1.Ok := by
  unfold Pg.format
  repeat' split
  all_goals first | exact h | exact h.write _ _ | exact (h.write _ _).write _ _ | exact ((h.write _ _).write _ _).sync
theorem Pg.write_ok {D : Dk} (h : D.Ok) (p : Pg) (a : Int) (s : Bs) : (p.write D a s).2.1.Ok := by
  unfold Pg.write
  repeat' split
  all_goals first | exact h | exact h.write _ _
theorem Pg.commit_ok {D : Dk} (h : D.Ok) (p : Pg) (a b : Int) (xs : List Int) : (p.commit D a b xs).2.1.Ok := by
  unfold Pg.commit
  split
  · exact h
  · split
    · exact h
    · split
      · exact h
      · split
        · exact h
        · unfold Pg.finish
          repeat' split
          all_goals first | exact h.sync | exact h.sync.write _ _ | exact (h.sync.write _ _).sync

namespace Fx
theorem k0 : D0.Ok := Dk.ok_new ok0
theorem k1 : D1.Ok := Pg.format_ok k0 _ _ _
theorem k2 : D2.Ok := Pg.write_ok k1 _ _ _
theorem k3 : D3.Ok := Pg.commit_ok k2 _ _ _ _
theorem n1 : D1.n = 34 := by kernel_rfl
theorem n2 : D2.n = 34 := by kernel_rfl
theorem n3 : D3.n = 34 := by kernel_rfl
theorem o0 : p0.Ok 34 := ⟨by decide, by decide, by decide, by decide, by decide, by decide, by decide, by decide, by decide, by decide, by decide, by decide, by decide, by decide⟩
theorem o1 : p1.Ok 34 := o0.alloc
theorem o2 : p2.Ok 34 := o1.alloc
theorem o3 : p3.Ok 34 := ⟨by decide, by decide, by decide, by decide, by decide, by decide, by decide, by decide, by decide, by decide, by decide, by decide, by decide, by decide⟩
theorem oq3 : q3.Ok 34 := ⟨by decide, by decide, by decide, by decide, by decide, by decide, by decide, by decide, by decide, by decide, by decide, by decide, by decide, by decide⟩
end Fx

theorem fmt_some {D : Dk} {a b c : Int} {p : Pg} {x : Int} {db : Nat} {F : HProp} {w w' : World} {e : Ending} (h : (Pg.format D a b c).2 = (some p, x)) (hf : FmtTo D a b c db F w e w') :
    ∃ pb, Ret (.tuple #[.pointer (some ⟨pb, 0, none⟩), .int .i64 0]) (pgA pb db p * (diskA db (Pg.format D a b c).1 * F)) w e w' := by
  unfold FmtTo at hf
  rw [h] at hf
  exact hf
theorem fmt_none {D : Dk} {a b c : Int} {x : Int} {db : Nat} {F : HProp} {w w' : World} {e : Ending} (h : (Pg.format D a b c).2 = (none, x)) (hf : FmtTo D a b c db F w e w') :
    Ret (.tuple #[.pointer none, .int .i64 x]) (diskA db (Pg.format D a b c).1 * F) w e w' := by
  unfold FmtTo at hf
  rw [h] at hf
  exact hf
theorem open_some {D : Dk} {a b : Int} {p : Pg} {x : Int} {db : Nat} {F : HProp} {w w' : World} {e : Ending} (h : Pg.open_ D a b = (some p, x)) (hf : OpenTo D a b db F w e w') :
    ∃ pb, Ret (.tuple #[.pointer (some ⟨pb, 0, none⟩), .int .i64 0]) (pgA pb db p * (diskA db D * F)) w e w' := by
  unfold OpenTo at hf
  rw [h] at hf
  exact hf
theorem open_none {D : Dk} {a b : Int} {x : Int} {db : Nat} {F : HProp} {w w' : World} {e : Ending} (h : Pg.open_ D a b = (none, x)) (hf : OpenTo D a b db F w e w') :
    Ret (.tuple #[.pointer none, .int .i64 x]) (diskA db D * F) w e w' := by
  unfold OpenTo at hf
  rw [h] at hf
  exact hf

theorem reads_pt {g c : Nat} {cs : Array Value} {xs : List Int} {F : HProp} (hc : xs.length ≤ c) (hm : c ≤ 9223372036854775807) (h : ∀ j, j < xs.length → cs[j]? = some (.int .i64 (xs.getD j 0))) :
    Reads (pt g (.cells cs 3 (0, 0)) * F) (.slice (some ⟨g, 0, none⟩) xs.length c) xs := by
  intro w hw
  refine ⟨_, c, rfl, hc, Nat.le_trans hc hm, fun _ => ⟨⟨g, 0, none⟩, rfl, fun j hj => ?_⟩⟩
  have hadd : (⟨g, 0, none⟩ : Addr).add j = ⟨g, j, none⟩ := by unfold Addr.add; split <;> simp_all
  rw [hadd]
  exact hw.cell j (h j hj)

set_option maxRecDepth 100000 in
set_option maxHeartbeats 4000000 in
theorem fixed_calls {F : HProp} {w : World} (H : Holds F w) : Calls Tryz.prog 8 #[] w (Ret (.bool true) F w) := by
  obtain ⟨i0, hi, hz0, hz1, hz2⟩ := info_parts Tryz_infoByte
  go_enter Tryz.func8, Tryz.ntmps8
  obtain ⟨S, hS⟩ : ∃ S : ByteArray, strV (Pg.zeros 2176) = .string S := ⟨_, rfl⟩
  have HS := Lib.hid hS
  clear hS
  go_wp2_with (at_make; refine wpList_make_full w rfl _ _ _ rfl w.heap.size 5 i0 (.int .u8 0) 1 Tryz.underlying60 hi hz0 hz1 .i64 .i64 2176 2176 2176 rfl rfl rfl rfl (by rw [hz2]; decide) (by decide) (Nat.le_refl _) ?_; intro w1 hown1 hg1; rw [madeZeros] at hown1; have hstr := run_own_string hown1 (by simp [Pg.zeros]); rw [HS.out] at hstr; clear hown1)
  have hb1 : Below w.heap.size w w1 := (Below.refl w.heap.size w).grown hg1 (Nat.le_refl _) (fun k hk => by cases hk)
  have H1 := H.below hb1
  have K1 := Keeps.below hb1
  have hnew := New_calls H1 (Pg.zeros 2176) Fx.ok0
  rw [HS.out] at hnew
  have HN := Lib.hid hnew
  clear hg1 hb1 hnew
  refine HN.out.mono ?_
  rintro e w2 ⟨db, rfl, H2, K2⟩
  replace H2 : Holds (diskA db Fx.D0 * F) w2 := H2
  have K3 := K1.trans K2
  clear K1 K2 H1 hstr H
  go_wp2_with fail
  refine (Format_calls Fx.k0 H2 2 4 1 (by decide) (by decide) (by decide)).mono ?_
  intro e w3 hf
  obtain ⟨pb, rfl, H3, K4⟩ := fmt_some Fx.fmt hf
  replace H3 : Holds (pgA pb db Fx.p0 * (diskA db Fx.D1 * F)) w3 := H3
  have K5 := K3.trans K4
  clear hf K3 K4 H2
  rw [sep_left_comm] at H3
  go_wp2_with fail
  refine (Clone_calls H3).mono ?_
  rintro e w4 ⟨cb, ak, ck, rfl, H4, K6⟩
  have K7 := K5.trans K6
  clear H3 K5 K6
  go_wp2_with fail
  refine (Format_calls Fx.k1 H4 2 5 1 (by decide) (by decide) (by decide)).mono ?_
  intro e w5 hf
  obtain ⟨rfl, H5, K8⟩ := fmt_none (x := 190) (by rw [Fx.fmt2]) hf
  have H6 : Holds (pgA pb db Fx.p0 * (diskA db Fx.D1 * F)) w5 := by
    have := diskB_nil (by kernel_rfl) H5.right
    rw [sep_left_comm] at this
    exact this
  have K9 := K7.trans K8
  clear hf H4 H5 K7 K8
  have hr := Lib.hid (Root_calls H6)
  have hfr := Lib.hid (From_calls H6)
  have hge := Lib.hid (Gen_calls H6)
  have hfe := Lib.hid (Free_calls Fx.o0 H6)
  have hv : Hid (Fx.p0.root = -1 ∧ Fx.p0.frm = 1 ∧ Fx.p0.gen = 2 ∧ Fx.p0.free = 4) := Lib.hid ⟨rfl, rfl, rfl, Fx.fr0⟩
  rw [hv.out.1] at hr
  rw [hv.out.2.1] at hfr
  rw [hv.out.2.2.1] at hge
  rw [hv.out.2.2.2] at hfe
  go_wp2_with (first
    | (go_at_call 9; refine hr.out.mono ?_; rintro e w' ⟨rfl, rfl⟩)
    | (go_at_call 10; refine hfr.out.mono ?_; rintro e w' ⟨rfl, rfl⟩)
    | (go_at_call 11; refine hge.out.mono ?_; rintro e w' ⟨rfl, rfl⟩))
  refine hfe.out.mono ?_
  rintro e w6 ⟨rfl, H7, K10⟩
  have K11 := K9.trans K10
  clear hr hfr hge hfe hv H6 K9 K10
  go_wp2_with fail
  refine (Alloc_calls Fx.o0 H7).mono ?_
  rw [Fx.al0]
  rintro e w7 ⟨rfl, H8, K12⟩
  have K13 := K11.trans K12
  clear H7 K11 K12
  go_wp2_with fail
  refine (Alloc_calls Fx.o1 H8).mono ?_
  rw [Fx.al1]
  rintro e w8 ⟨rfl, H9, K14⟩
  have K15 := K13.trans K14
  clear H8 K13 K14
  go_wp2_with fail
  refine (Write_pager_calls (s := [97]) (page := 0) (by rw [Fx.n1]; exact Fx.o2) Fx.k1 H9 (by decide) (by decide)).mono ?_
  rw [Fx.wr1.1, Fx.wr1.2]
  rintro e w9 ⟨rfl, H10, K16⟩
  replace H10 : Holds (pgA pb db Fx.p2 * (diskA db Fx.D2 * F)) w9 := H10
  have K17 := K15.trans K16
  clear H9 K15 K16
  go_wp2_with fail
  refine (Write_pager_calls (s := [97]) (page := 2) (by rw [Fx.n2]; exact Fx.o2) Fx.k2 H10 (by decide) (by decide)).mono ?_
  rw [Fx.wr2]
  rintro e w10 ⟨rfl, H11, K18⟩
  replace H11 : Holds (pgA pb db Fx.p2 * (diskA db Fx.D2 * F)) w10 := H11
  have K19 := K17.trans K18
  clear H10 K17 K18
  go_wp2_with fail
  have H12 := H11.alloc (.cells #[.int .i64 0] 3)
  have K20 := K19.alloc (.cells #[.int .i64 0] 3)
  rw [show ∀ A B C E : HProp, A * (B * (C * E)) = B * (C * (A * E)) from by intro A B C E; ac_rfl] at H12
  refine (Commit_calls (xs := [0]) (by rw [Fx.n2]; exact Fx.o2) Fx.k2 H12 (reads_pt (by decide) (by decide) (fun j hj => by obtain rfl : j = 0 := (by simpa using hj); rfl)) (by decide) 0 5 (by decide) (by decide)).mono ?_
  rw [Fx.com.1, Fx.com.2]
  rintro e w11 ⟨rfl, H13, K21⟩
  replace H13 : Holds (pgA pb db Fx.p3 * (diskA db Fx.D3 * (pt w10.heap.size (.cells #[.int .i64 0] 3 (0, 0)) * F))) w11 := H13
  rw [show ∀ A B C E : HProp, A * (B * (C * E)) = C * (A * (B * E)) from by intro A B C E; ac_rfl] at H13
  have H14 := H13.right
  have K22 := K20.trans K21
  clear H11 H12 H13 K19 K20 K21
  go_wp2_with fail
  refine (Write_pager_calls (s := [98]) (page := 0) (by rw [Fx.n3]; exact Fx.o3) Fx.k3 H14 (by decide) (by decide)).mono ?_
  rw [Fx.wr3]
  rintro e w12 ⟨rfl, H15, K23⟩
  replace H15 : Holds (pgA pb db Fx.p3 * (diskA db Fx.D3 * F)) w12 := H15
  have K24 := K22.trans K23
  clear H14 K22 K23
  go_wp2_with fail
  have hrd := Read_pager_calls (by rw [Fx.n3]; exact Fx.o3) Fx.k3 H15 0
  rw [Fx.rd3.1] at hrd
  have hs3 : (Fx.p3.read Fx.D3 0).1 = Fx.s3 := rfl
  rw [hs3] at hrd
  obtain ⟨sb, hsb⟩ : ∃ sb : ByteArray, sb = ⟨Fx.s3.toArray⟩ := ⟨_, rfl⟩
  have e0 : strV Fx.s3 = .string sb := by rw [hsb]; rfl
  have hsz : sb.size = 512 := by rw [hsb]; show Fx.s3.toArray.size = 512; rw [List.size_toArray]; exact Fx.rd3.2.1
  have hix : ∀ h, (sb[0]'h) = 97 := by
    intro h
    subst hsb
    have h2 := Fx.rd3.2.2
    have h3 : 0 < Fx.s3.length := by rw [Fx.rd3.2.1]; decide
    rw [List.getD_eq_getElem?_getD, List.getElem?_eq_getElem h3] at h2
    exact h2
  rw [e0] at hrd
  have HRD := Lib.hid hrd
  have HIX := Lib.hid hix
  clear hsb e0 hs3 hrd hix
  refine HRD.out.mono ?_
  rintro e w13 ⟨rfl, H16, K25⟩
  have K26 := K24.trans K25
  clear H15 K24 K25 HRD
  go_wp2_with fail
  have H17 := H16
  rw [sep_left_comm] at H17
  refine (Open_calls Fx.k3 H17 2 4 (by decide) (by decide)).mono ?_
  intro e w14 hf
  obtain ⟨qb, rfl, H18, K27⟩ := open_some Fx.op3 hf
  have K28 := K26.trans K27
  clear H16 H17 hf K26 K27
  have hr := Lib.hid (Root_calls H18)
  have hfr := Lib.hid (From_calls H18)
  have hge := Lib.hid (Gen_calls H18)
  have hv : Hid (Fx.q3.root = 0 ∧ Fx.q3.frm = 5 ∧ Fx.q3.gen = 3) := Lib.hid ⟨rfl, rfl, rfl⟩
  rw [hv.out.1] at hr
  rw [hv.out.2.1] at hfr
  rw [hv.out.2.2] at hge
  have hix2 := HIX.out
  go_wp2_with (first
    | (go_at_call 9; refine hr.out.mono ?_; rintro e w' ⟨rfl, rfl⟩)
    | (go_at_call 10; refine hfr.out.mono ?_; rintro e w' ⟨rfl, rfl⟩)
    | (go_at_call 11; refine hge.out.mono ?_; rintro e w' ⟨rfl, rfl⟩))
  have e1 : ∀ A B C E : HProp, A * (B * (C * E)) = C * (A * (B * E)) := by intro A B C E; ac_rfl
  rw [e1] at H18
  have hf1 := Free_calls Fx.o3 H18
  rw [Fx.fr3.1] at hf1
  refine hf1.mono ?_
  rintro e w15 ⟨rfl, H19, K29⟩
  rw [← e1] at H19
  have K30 := K28.trans K29
  have hf2 := Free_calls Fx.oq3 H19
  rw [Fx.fr3.2] at hf2
  have HF2 := Lib.hid hf2
  clear hf1 hf2 hr hfr hge hv H18 K28 K29
  go_wp2_with fail
  refine HF2.out.mono ?_
  rintro e w16 ⟨rfl, H20, K31⟩
  have K32 := K30.trans K31
  have H21 := H20.right.right.right
  clear HF2 H19 H20 K30 K31
  go_wp2_with fail
  go_ret
  exact .mk H21 K32
end Go.Proofs.YtmeepegllkhlcaaGreat
