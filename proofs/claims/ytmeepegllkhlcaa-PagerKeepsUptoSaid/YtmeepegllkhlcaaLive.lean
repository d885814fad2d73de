/-
  The law's live and stands.
-/
import Derived.Test.YtmeepegllkhlcaaStrs
import Derived.Test.YtmeepegllkhlcaaKeep3
import Derived.Deep.QuietTactic
import Derived.BigQuiet
namespace Go.Proofs.Ytmeepegllkhlcaa
open Go Go.RowKit Go.Maps

theorem strV_size (l : Bs) : ∃ sb : ByteArray, strV l = .string sb ∧ sb.size = l.length := ⟨⟨l.toArray⟩, rfl, by simp [ByteArray.size]⟩
/-- What live leaves. -/
def LiveTo (p : Pg) (D : Dk) (xs : List Int) (G : HProp) (w : World) (e : Ending) (w' : World) : Prop :=
  match Kp.liveP p D xs with
  | none => Ret (.tuple #[.slice none 0 0, .bool false]) G w e w'
  | some l => ∃ v, Ret (.tuple #[v, .bool true]) (rowS v l * G) w e w'

set_option maxRecDepth 100000 in
set_option maxHeartbeats 4000000 in
theorem live_calls {pb db : Nat} {p : Pg} {D : Dk} {F : HProp} {w : World} {kv : Value} {xs : List Int} (hp : p.Ok D.n) (hD : D.Ok) (H : Holds (pgA pb db p * (diskA db D * F)) w) (hr : Reads F kv xs)
    (hl : xs.length ≤ 2000000) :
    Calls Try.prog 13 #[.pointer (some ⟨pb, 0, none⟩), kv] w (LiveTo p D xs (pgA pb db p * (diskA db D * F)) w) := by
  obtain ⟨a, c, rfl, _⟩ := hr w H.right.right
  have H0 := rowS_made H
  have K0 := (Keeps.refl w).alloc (.cells #[] 9)
  have HRD := Lib.hid hr
  clear hr H
  go_enter Try.func13, Try.ntmps13
  go_wp2_with fail
  go_loopw [6, 7] (fun out i wr => ∃ (k : Nat) (l : List Bs), k ≤ xs.length ∧ i = .int .i64 k ∧ l = (xs.take k).map (fun x => (p.read D x).1) ∧ (∀ x ∈ xs.take k, ((p.read D x).2 == 0 && (p.read D x).1.length == 512) = true) ∧ Holds (rowS out l * (pgA pb db p * (diskA db D * F))) wr ∧ Keeps w wr) (fun _ i _ => xs.length - (intOf i).toNat)
  case atStart => exact ⟨0, [], Nat.zero_le _, rfl, rfl, (fun x hx => by simp at hx), H0, K0⟩
  case round =>
    clear H0 K0
    obtain ⟨k, l, hk, rfl, hll, hgood, HR, hKr⟩ := hrel
    have Hll := Lib.hid hll
    have Hgood := Lib.hid hgood
    have hlk : l.length = k := by rw [hll]; simp; omega
    have Hlk := Lib.hid hlk
    clear hll hgood hlk
    obtain ⟨g, cap, hv, hcap, _⟩ := rowS_cell HR
    subst hv
    by_cases hlt : k < xs.length
    · have e1 : ∀ A B C E : HProp, A * (B * (C * E)) = B * (C * (A * E)) := by intro A B C E; ac_rfl
      have HR2 := HR
      rw [e1] at HR2
      obtain ⟨a2, c2, hv, _, _, hcell⟩ := (HRD.out.frame (rowS (.slice (some ⟨g, 0, none⟩) l.length cap) l)) wr HR2.right.right
      simp only [Value.slice.injEq] at hv
      obtain ⟨rfl, _, rfl⟩ := hv
      obtain ⟨ad, rfl, hcell2⟩ := hcell (by omega)
      have hck := hcell2 k hlt
      obtain ⟨x, hxd⟩ : ∃ x, x = xs.getD k 0 := ⟨_, rfl⟩
      rw [← hxd] at hck
      have hrd := Read_pager_calls hp hD HR2 x
      obtain ⟨rb, hrb⟩ : ∃ rb, rb = (p.read D x).1 := ⟨_, rfl⟩
      obtain ⟨re, hre⟩ : ∃ re, re = (p.read D x).2 := ⟨_, rfl⟩
      rw [← hrb, ← hre] at hrd
      have htake : xs.take (k + 1) = xs.take k ++ [x] := by
        rw [List.take_add_one, List.getElem?_eq_getElem hlt, hxd, List.getD_eq_getElem?_getD, List.getElem?_eq_getElem hlt]; rfl
      have hmem : x ∈ xs := by
        rw [hxd, List.getD_eq_getElem?_getD, List.getElem?_eq_getElem hlt]; exact List.getElem_mem hlt
      have Htake := Lib.hid htake
      have Hmem := Lib.hid hmem
      have Hrb := Lib.hid hrb
      have Hre := Lib.hid hre
      obtain ⟨sb, hsb, hsz⟩ := strV_size rb
      rw [hsb] at hrd
      have Hsb := Lib.hid hsb
      have HRDC := Lib.hid hrd
      clear hcell hcell2 hxd hrd htake hmem hrb hre hsb HR HR2
      have hbad : ¬ ((re == 0 && rb.length == 512) = true) → Kp.liveP p D xs = none := by
        intro hb
        unfold Kp.liveP
        rw [if_neg]
        intro hall
        have := List.all_eq_true.1 hall x Hmem.out
        rw [← Hrb.out, ← Hre.out] at this
        exact hb this
      have HBAD := Lib.hid hbad
      clear hbad
      by_cases z : re = 0
      · subst z
        by_cases h512 : rb.length = 512
        · have hsz2 : sb.size = 512 := by rw [hsz]; exact h512
          have HG2 : Hid (∀ x ∈ xs.take (k + 1), ((p.read D x).2 == 0 && (p.read D x).1.length == 512) = true) := Lib.hid (fun y hy => by
            rw [Htake.out] at hy
            rcases List.mem_append.1 hy with hy | hy
            · exact Hgood.out y hy
            · rw [List.mem_singleton.1 hy, ← Hre.out, ← Hrb.out, h512]; rfl)
          have HL2 : Hid (l ++ [rb] = (xs.take (k + 1)).map (fun x => (p.read D x).1)) := Lib.hid (by rw [Htake.out, List.map_append, ← Hll.out, Hrb.out]; rfl)
          have hlk2 : l.length ≤ 4000000 := by have := Hlk.out; omega
          clear hsz h512
          go_wp2_with fail
          refine HRDC.out.mono ?_
          rintro e w1 ⟨rfl, H1, K1⟩
          rw [← e1] at H1
          have K2 := hKr.trans K1
          clear HRDC K1 hKr
          go_wp2_with (at_builtin; refine append_str rfl (.tmp 33) (.tmp 35) rfl _ l rb (.string sb) Hsb.out.symm rfl rfl H1 hlk2 ?_; intro v1 w2 H2 K3)
          have K4 := K2.trans K3
          go_roundw
          case rel => exact ⟨k + 1, l ++ [rb], by omega, by go_num, HL2.out, HG2.out, H2, K4⟩
          case measure => simp [intOf]; omega
        · have hb : ((sb.size : Int) != 512) = true := by rw [bne_iff_ne, hsz]; omega
          have hres := HBAD.out (by simp [h512])
          have HRES := Lib.hid hres
          clear hres h512
          go_wp2_with fail
          refine HRDC.out.mono ?_
          rintro e w1 ⟨rfl, H1, K1⟩
          rw [← e1] at H1
          have K2 := hKr.trans K1
          clear HRDC K1 hKr
          go_wp2_with fail
          go_ret2
          unfold LiveTo
          rw [HRES.out]
          exact .mk H1.right K2
      · have hb : (re != 0) = true := by simpa using z
        have hres := HBAD.out (by simp [z])
        have HRES := Lib.hid hres
        clear hres z
        go_wp2_with fail
        refine HRDC.out.mono ?_
        rintro e w1 ⟨rfl, H1, K1⟩
        rw [← e1] at H1
        have K2 := hKr.trans K1
        clear HRDC K1 hKr
        go_wp2_with fail
        go_ret2
        unfold LiveTo
        rw [HRES.out]
        exact .mk H1.right K2
    · obtain rfl : k = xs.length := by omega
      have hres : Kp.liveP p D xs = some l := by
        have h1 := Hgood.out
        have h2 := Hll.out
        rw [List.take_length] at h1 h2
        unfold Kp.liveP
        rw [if_pos (List.all_eq_true.2 h1), h2]
      have HRES := Lib.hid hres
      clear hres
      go_wp2_with fail
      go_ret2
      unfold LiveTo
      rw [HRES.out]
      exact ⟨_, .mk HR hKr⟩

/-- A slice of texts that can be read wherever F holds. -/
def ReadsS (F : HProp) (v : Value) (l : List Bs) : Prop := ∀ w, Holds F w → ∃ (a : Option Addr) (c : Nat), v = .slice a l.length c ∧ l.length ≤ c ∧ (0 < l.length → ∃ ad : Addr, a = some ad ∧ ∀ j, j < l.length → w.cell? (ad.add j) = some (strV (l.getD j [])))
theorem ReadsS.frame {F : HProp} {v : Value} {l : List Bs} (h : ReadsS F v l) (G : HProp) : ReadsS (G * F) v l := fun w hw => h w hw.right
theorem reads_rowS {v : Value} {l : List Bs} (F : HProp) : ReadsS (rowS v l * F) v l := fun w hw => by
  obtain ⟨g, cap, hv, hc, hcell⟩ := rowS_cell hw
  refine ⟨_, cap, hv, hc, fun _ => ⟨⟨g, 0, none⟩, rfl, fun j hj => ?_⟩⟩
  have hadd : (⟨g, 0, none⟩ : Addr).add j = ⟨g, j, none⟩ := by unfold Addr.add; split <;> simp_all
  rw [hadd]
  exact hcell j hj

set_option maxRecDepth 100000 in
set_option maxHeartbeats 4000000 in
theorem stands_calls {pb db : Nat} {p : Pg} {D : Dk} {F : HProp} {w : World} {pv bv : Value} {s : Kp.St} (hp : p.Ok D.n) (hD : D.Ok) (H : Holds (pgA pb db p * (diskA db D * F)) w) (hr : Reads F pv s.pages) (hb : ReadsS F bv s.bytes)
    (hl : s.pages.length ≤ 2000000) :
    Calls Try.prog 18 #[.pointer (some ⟨pb, 0, none⟩), .agg #[.int .i64 s.root, .int .i64 s.frm, pv, bv]] w (Ret (.bool (Kp.standsP p D s)) (pgA pb db p * (diskA db D * F)) w) := by
  obtain ⟨a, c, rfl, _⟩ := hr w H.right.right
  obtain ⟨a2, c2, rfl, _⟩ := hb w H.right.right
  have H0 := H.alloc (.cells #[.int .i64 s.root, .int .i64 s.frm, .slice a s.pages.length c, .slice a2 s.bytes.length c2] 42)
  have K0 := (Keeps.refl w).alloc (.cells #[.int .i64 s.root, .int .i64 s.frm, .slice a s.pages.length c, .slice a2 s.bytes.length c2] 42)
  have e1 : ∀ A B C E : HProp, A * (B * (C * E)) = B * (C * (A * E)) := by intro A B C E; ac_rfl
  have b2 := H0.cell 2 (v := .slice a s.pages.length c) rfl
  rw [e1] at H0
  have hlive := live_calls hp hD H0 (hr.frame _) hl
  have HLV := Lib.hid hlive
  have HB := Lib.hid hb
  clear hr hb H hlive
  go_enter Try.func18, Try.ntmps18
  go_wp2_with fail
  refine HLV.out.mono ?_
  intro e w1 hlv
  unfold LiveTo at hlv
  cases hlp : Kp.liveP p D s.pages with
  | none =>
    rw [hlp] at hlv
    obtain ⟨rfl, H1, K1⟩ := hlv
    have hres : Kp.standsP p D s = false := by unfold Kp.standsP; rw [hlp]
    have HRES := Lib.hid hres
    rw [← e1] at H1
    have H2 := H1.right
    have K2 := K0.trans K1
    clear hres hlp HLV H1 K1 K0 H0 b2
    go_wp2_with fail
    go_quiet (fail)
    have H3 := H2.drewN nq
    have K3 := K2.drewN nq
    go_wp2_with fail
    go_ret
    rw [HRES.out]
    exact .mk H3 K3
  | some l =>
    rw [hlp] at hlv
    obtain ⟨v, rfl, H1, K1⟩ := hlv
    have hst : Kp.standsP p D s = (p.root == s.root && (p.frm : Int) == s.frm && l == s.bytes) := by unfold Kp.standsP; rw [hlp]
    have HST := Lib.hid hst
    have K2 := K0.trans K1
    obtain ⟨g, cap, hv, hcap, _⟩ := rowS_cell H1
    subst hv
    have H2 : Holds (pgA pb db p * (diskA db D * F)) w1 := by
      have h := H1.right
      rw [← e1] at h
      exact h.right
    have hbox := H1
    rw [show ∀ A B C E G : HProp, A * (B * (C * (E * G))) = E * (A * (B * (C * G))) from by intro A B C E G; ac_rfl] at hbox
    have q0 := hbox.cell 0 (v := .int .i64 s.root) rfl
    have q1 := hbox.cell 1 (v := .int .i64 s.frm) rfl
    have q3 := hbox.cell 3 (v := .slice a2 s.bytes.length c2) rfl
    have hro : ∀ n, Calls Try.prog 24 #[.pointer (some ⟨pb, 0, none⟩)] (w1.drewN n) fun e w' => e = .returned (.int .i64 p.root) ∧ w' = w1.drewN n := fun n => (Root_calls (H2.drewN n)).mono fun e w' h => ⟨h.1, h.2.symm⟩
    have hfr : ∀ n, Calls Try.prog 25 #[.pointer (some ⟨pb, 0, none⟩)] (w1.drewN n) fun e w' => e = .returned (.int .i64 p.frm) ∧ w' = w1.drewN n := fun n => (From_calls (H2.drewN n)).mono fun e w' h => ⟨h.1, h.2.symm⟩
    have HRO := Lib.hid hro
    have HFR := Lib.hid hfr
    clear hst hlp HLV K1 K0 H0 b2 hbox hro hfr
    by_cases z1 : ¬ p.root = s.root
    · have hres : Kp.standsP p D s = false := by rw [HST.out]; simp [z1]
      have HRES := Lib.hid hres
      have hb1 : (p.root != s.root) = true := by simpa using z1
      clear hres z1 HST
      go_wp2_with fail
      go_quiet (first | (go_at_call 24; exact Calls.quiet_of_same (HRO.out _)))
      have H3 := H2.drewN nq
      have K3 := K2.drewN nq
      go_wp2_with fail
      go_ret
      rw [HRES.out]
      exact .mk H3 K3
    replace z1 := Classical.not_not.1 z1
    have hb1 : (p.root != s.root) = false := by simpa using z1
    by_cases z2 : ¬ (p.frm : Int) = s.frm
    · have hres : Kp.standsP p D s = false := by rw [HST.out]; simp [z2]
      have HRES := Lib.hid hres
      have hb2 : ((p.frm : Int) != s.frm) = true := by simpa using z2
      clear hres z1 z2 HST
      go_wp2_with fail
      go_quiet (first | (go_at_call 24; exact Calls.quiet_of_same (HRO.out _)) | (go_at_call 25; exact Calls.quiet_of_same (HFR.out _)))
      have H3 := H2.drewN nq
      have K3 := K2.drewN nq
      go_wp2_with fail
      go_ret
      rw [HRES.out]
      exact .mk H3 K3
    replace z2 := Classical.not_not.1 z2
    have hb2 : ((p.frm : Int) != s.frm) = false := by simpa using z2
    have hst : Kp.standsP p D s = (l == s.bytes) := by rw [HST.out]; simp [z1, z2]
    have HST2 := Lib.hid hst
    clear hst HST z1 z2
    by_cases z3 : ¬ l.length = s.bytes.length
    · have hres : Kp.standsP p D s = false := by
        rw [HST2.out]
        rw [beq_eq_false_iff_ne]
        intro h
        exact z3 (by rw [h])
      have HRES := Lib.hid hres
      have hb3 : ((l.length : Int) != (s.bytes.length : Int)) = true := by rw [bne_iff_ne]; omega
      clear hres z3 HST2
      go_wp2_with fail
      go_quiet (first | (go_at_call 24; exact Calls.quiet_of_same (HRO.out _)) | (go_at_call 25; exact Calls.quiet_of_same (HFR.out _)))
      have H3 := H2.drewN nq
      have K3 := K2.drewN nq
      go_wp2_with fail
      go_ret
      rw [HRES.out]
      exact .mk H3 K3
    replace z3 := Classical.not_not.1 z3
    have hb3 : ((l.length : Int) != (s.bytes.length : Int)) = false := by rw [bne_eq_false_iff_eq]; omega
    have Z3 := Lib.hid z3
    clear z3
    go_wp2_with fail
    go_quiet (first | (go_at_call 24; exact Calls.quiet_of_same (HRO.out _)) | (go_at_call 25; exact Calls.quiet_of_same (HFR.out _)))
    have H3 := H1.drewN nq
    have K3 := K2.drewN nq
    generalize w1.drewN nq = w2 at H3 K3 ⊢
    clear H1 H2 q0 q1 q3 hb1 hb2 hb3 HRO HFR K2
    go_wp2_with fail
    obtain ⟨bx, hbx⟩ : ∃ bx, bx = w.heap.size := ⟨_, rfl⟩
    rw [← hbx] at H3 ⊢
    clear hbx
    have hlb : l.length ≤ 9223372036854775807 := by
      obtain ⟨g5, cap5, cur5, ⟨_, h1, h2, _, _⟩, _⟩ := rowS_open.1 H3
      unfold maxLen at h2; omega
    go_loopw [7] (fun i wr => ∃ k : Nat, k ≤ l.length ∧ i = .int .i64 k ∧ (∀ j, j < k → l.getD j [] = s.bytes.getD j []) ∧ Holds (rowS (.slice (some ⟨g, 0, none⟩) l.length cap) l * (pgA pb db p * (diskA db D * (pt bx (.cells #[.int .i64 s.root, .int .i64 s.frm, .slice a s.pages.length c, .slice a2 s.bytes.length c2] 42 (0, 0)) * F)))) wr ∧ Keeps w wr) (fun i _ => l.length - (intOf i).toNat)
    case atStart => exact ⟨0, Nat.zero_le _, rfl, (fun j hj => absurd hj (Nat.not_lt_zero _)), H3, K3⟩
    case round =>
      clear H3 K3
      obtain ⟨k, hk, rfl, hall, HR, hKr⟩ := hrel
      have Hall := Lib.hid hall
      clear hall
      by_cases hlt : k < l.length
      · obtain ⟨g6, cap6, hv6, _, hcl⟩ := rowS_cell HR
        simp only [Value.slice.injEq, Option.some.injEq, Addr.mk.injEq] at hv6
        obtain ⟨⟨hg6, _⟩, _⟩ := hv6
        have ck := hcl k hlt
        rw [← hg6] at ck
        have hbox := HR
        rw [show ∀ A B C E G : HProp, A * (B * (C * (E * G))) = E * (A * (B * (C * G))) from by intro A B C E G; ac_rfl] at hbox
        have q3 := hbox.cell 3 (v := .slice a2 s.bytes.length c2) rfl
        obtain ⟨a7, c7, hv7, hc7, hcell⟩ := HB.out wr HR.right.right.right.right
        simp only [Value.slice.injEq] at hv7
        obtain ⟨rfl, _, rfl⟩ := hv7
        have hkb : k < s.bytes.length := by have := Z3.out; omega
        obtain ⟨ad, rfl, hcell2⟩ := hcell (by omega)
        have cb := hcell2 k hkb
        obtain ⟨sa, hsa⟩ : ∃ sa : ByteArray, sa = ⟨(l.getD k []).toArray⟩ := ⟨_, rfl⟩
        obtain ⟨sc, hsc⟩ : ∃ sa : ByteArray, sa = ⟨(s.bytes.getD k []).toArray⟩ := ⟨_, rfl⟩
        have hcmp : (sa.toList == sc.toList) = (l.getD k [] == s.bytes.getD k []) := by rw [hsa, hsc, toList_mk, toList_mk]
        have e3 : strV (l.getD k []) = .string sa := by rw [hsa]; rfl
        have e4 : strV (s.bytes.getD k []) = .string sc := by rw [hsc]; rfl
        rw [e3] at ck
        rw [e4] at cb
        have hkb2 : (k : Int) < (s.bytes.length : Int) := by omega
        clear hcell hcell2 hcl hbox e3 e4 hsa hsc hg6
        by_cases heq : l.getD k [] = s.bytes.getD k []
        · have hcmp2 : (sa.toList == sc.toList) = true := by rw [hcmp]; simpa using heq
          have HEQ := Lib.hid heq
          clear hcmp heq
          go_wp2_with fail
          go_quiet (fail)
          have HR2 := HR.drewN nq
          have K4 := hKr.drewN nq
          go_wp2_with fail
          go_roundw
          case rel => exact ⟨k + 1, by omega, by go_num, (fun j hj => by
            rcases Nat.lt_succ_iff_lt_or_eq.1 hj with h | h
            · exact Hall.out j h
            · rw [h]; exact HEQ.out), HR2, K4⟩
          case measure => simp [intOf]; omega
        · have hcmp2 : (sa.toList == sc.toList) = false := by rw [hcmp]; simpa using heq
          have hres : Kp.standsP p D s = false := by
            rw [HST2.out, beq_eq_false_iff_ne]
            intro h
            exact heq (by rw [h])
          have HRES := Lib.hid hres
          clear hcmp heq hres
          go_wp2_with fail
          go_quiet (fail)
          have HR2 := HR.drewN nq
          have K4 := hKr.drewN nq
          go_wp2_with fail
          go_ret
          rw [HRES.out]
          have h := HR2.right
          rw [← e1] at h
          exact .mk h.right K4
      · obtain rfl : k = l.length := by omega
        have hres : Kp.standsP p D s = true := by
          rw [HST2.out, beq_iff_eq]
          apply List.ext_getElem Z3.out
          intro j h1 h2
          have := Hall.out j h1
          rw [List.getD_eq_getElem?_getD, List.getElem?_eq_getElem h1, List.getD_eq_getElem?_getD, List.getElem?_eq_getElem h2] at this
          exact this
        have HRES := Lib.hid hres
        clear hres
        go_wp2_with fail
        go_ret
        rw [HRES.out]
        have h := HR.right
        rw [← e1] at h
        exact .mk h.right hKr
end Go.Proofs.Ytmeepegllkhlcaa
