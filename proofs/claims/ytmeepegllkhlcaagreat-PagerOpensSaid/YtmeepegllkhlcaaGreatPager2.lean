/-
  A pager's check, set, Live, Commit.
-/
import Derived.Test.YtmeepegllkhlcaaGreatPager
namespace Go.Proofs.YtmeepegllkhlcaaGreat
open Go Go.RowKit Go.Maps

theorem zeros_calls (c : Nat) (hc : c ≤ 1000) (w : World) : Calls Tryz.prog 51 #[.string ⟨#[0]⟩, .int .i64 (c : Int)] w fun e w' => e = .returned (strV (Pg.zeros c)) ∧ Below w.heap.size w w' := by
  have h := Tryz.strings_Repeat ⟨#[0]⟩ c w (by omega) (by show 1 * c ≤ _; omega)
  refine h.mono ?_
  rintro e w' ⟨rfl, hb⟩
  refine ⟨?_, hb⟩
  have : Lib.repeatL [(0 : UInt8)] c = List.replicate c 0 := by
    induction c with
    | zero => rfl
    | succ c ih =>
      have := ih (by omega) (Tryz.strings_Repeat ⟨#[0]⟩ c w (by omega) (by show 1 * c ≤ _; omega))
      simp [Lib.repeatL, List.replicate_succ] at this ⊢
      exact this
  show Ending.returned (.string ⟨(Lib.repeatL [(0 : UInt8)] c).toArray⟩) = _
  rw [this]; rfl

/-! ### check -/
set_option maxRecDepth 100000 in
theorem check_calls {db : Nat} {D : Dk} {F : HProp} {w : World} (hD : D.Ok) (H : Holds (diskA db D * F) w) (first pages frm : Int)
    (h1 : -9223372036854775808 ≤ first ∧ first ≤ 9223372036854775807) (h2 : -9223372036854775808 ≤ pages ∧ pages ≤ 9223372036854775807) (h3 : -9223372036854775808 ≤ frm ∧ frm ≤ 9223372036854775807) :
    Calls Tryz.prog 43 #[.pointer (some ⟨db, 0, none⟩), .int .i64 first, .int .i64 pages, .int .i64 frm] w fun e w' => e = .returned (.int .i64 (Pg.check D first pages frm)) ∧ w = w' := by
  have hn : D.n ≤ 4096 := hD.most
  have hc := Lib.hid (A_Count hD H)
  have hd := Lib.hid (A_Dead H)
  by_cases g1 : first < 2
  · have hres : Pg.check D first pages frm = 190 := by unfold Pg.check; rw [if_pos (by omega)]
    rw [hres]; clear hres
    go_enter Tryz.func43, Tryz.ntmps43
    go_wp2_with fail
    go_ret
    exact ⟨rfl, rfl⟩
  have b1 : decide (first < 2) = false := by simpa using g1
  by_cases g2 : pages < 1
  · have hres : Pg.check D first pages frm = 190 := by unfold Pg.check; rw [if_pos (by omega)]
    rw [hres]; clear hres
    go_enter Tryz.func43, Tryz.ntmps43
    go_wp2_with fail
    go_ret
    exact ⟨rfl, rfl⟩
  have b2 : decide (pages < 1) = false := by simpa using g2
  by_cases g3 : 4096 < pages
  · have hres : Pg.check D first pages frm = 190 := by unfold Pg.check; rw [if_pos (by omega)]
    rw [hres]; clear hres
    go_enter Tryz.func43, Tryz.ntmps43
    go_wp2_with fail
    go_ret
    exact ⟨rfl, rfl⟩
  have b3 : decide (4096 < pages) = false := by simpa using g3
  by_cases g4 : (D.n : Int) < first
  · have hres : Pg.check D first pages frm = 190 := by unfold Pg.check; rw [if_pos (by omega)]
    rw [hres]; clear hres
    go_enter Tryz.func43, Tryz.ntmps43
    go_wp2_with (go_at_call 79; refine hc.out.mono ?_; rintro e w' ⟨rfl, rfl⟩)
    go_ret
    exact ⟨rfl, rfl⟩
  have b4 : decide ((D.n : Int) < first) = false := by simpa using g4
  by_cases g5 : (D.n : Int) - first < 8 * pages
  · have hres : Pg.check D first pages frm = 190 := by unfold Pg.check; rw [if_pos (by omega)]
    rw [hres]; clear hres
    go_enter Tryz.func43, Tryz.ntmps43
    go_wp2_with (go_at_call 79; refine hc.out.mono ?_; rintro e w' ⟨rfl, rfl⟩)
    go_ret
    exact ⟨rfl, rfl⟩
  have b5 : decide ((D.n : Int) - first < 8 * pages) = false := by simpa using g5
  by_cases g6 : frm < 1
  · have hres : Pg.check D first pages frm = 190 := by unfold Pg.check; rw [if_pos (by omega)]
    rw [hres]; clear hres
    go_enter Tryz.func43, Tryz.ntmps43
    go_wp2_with (go_at_call 79; refine hc.out.mono ?_; rintro e w' ⟨rfl, rfl⟩)
    go_ret
    exact ⟨rfl, rfl⟩
  have b6 : decide (frm < 1) = false := by simpa using g6
  by_cases g7 : 1152921504606846976 < frm
  · have hres : Pg.check D first pages frm = 190 := by unfold Pg.check; rw [if_pos (by omega)]
    rw [hres]; clear hres
    go_enter Tryz.func43, Tryz.ntmps43
    go_wp2_with (go_at_call 79; refine hc.out.mono ?_; rintro e w' ⟨rfl, rfl⟩)
    go_ret
    exact ⟨rfl, rfl⟩
  have b7 : decide (1152921504606846976 < frm) = false := by simpa using g7
  cases hdead : D.dead with
  | true =>
    have hres : Pg.check D first pages frm = 2 := by unfold Pg.check; rw [if_neg (by omega), hdead]; rfl
    rw [hres]
    rw [hdead] at hd
    clear hres hdead
    go_enter Tryz.func43, Tryz.ntmps43
    go_wp2_with (first | (go_at_call 79; refine hc.out.mono ?_; rintro e w' ⟨rfl, rfl⟩) | (go_at_call 80; refine hd.out.mono ?_; rintro e w' ⟨rfl, rfl⟩))
    go_ret
    exact ⟨rfl, rfl⟩
  | false =>
    have hres : Pg.check D first pages frm = 0 := by unfold Pg.check; rw [if_neg (by omega), hdead]; rfl
    rw [hres]
    rw [hdead] at hd
    clear hres hdead
    go_enter Tryz.func43, Tryz.ntmps43
    go_wp2_with (first | (go_at_call 79; refine hc.out.mono ?_; rintro e w' ⟨rfl, rfl⟩) | (go_at_call 80; refine hd.out.mono ?_; rintro e w' ⟨rfl, rfl⟩))
    go_ret
    exact ⟨rfl, rfl⟩

/-! ### set -/
theorem insAt_succ (xs : List Int) (k : Nat) (h : k < xs.length) : Pg.insAll (xs.take (k + 1)) = (Pg.insAll (xs.take k)).insert (xs.getD k 0) := by
  unfold Pg.insAll
  rw [List.take_add_one, List.getElem?_eq_getElem h, Option.toList_some, List.foldl_append]
  simp [List.getD_eq_getElem?_getD, List.getElem?_eq_getElem h]
theorem setM_insert (l : List Int) (x : Int) : setM (l.insert x) (.int .i64 x) = some (.agg #[]) ∧ ∀ z, z ≠ .int .i64 x → setM (l.insert x) z = setM l z := by
  constructor
  · simp [setM, liftI]
  · intro z hz
    unfold setM liftI
    split
    · rename_i y
      have hy : y ≠ x := fun e => hz (by rw [e])
      simp [hy]
    · rfl
theorem insert_len (l : List Int) (x : Int) : (l.insert x).length = if l.contains x then l.length else l.length + 1 := by
  by_cases h : x ∈ l
  · simp [h]
  · simp [h]
/-- What set comes to. -/
def SetTo (may : Int → Bool) (xs : List Int) (G : HProp) (w : World) (e : Ending) (w' : World) : Prop :=
  (∃ mb, Pg.setOf may xs = some (Pg.insAll xs) ∧ Ret (.tuple #[.map (some mb), .bool true]) (setA mb (Pg.insAll xs) * G) w e w') ∨
  (∃ mb, Pg.setOf may xs = none ∧ Ret (.tuple #[.map (some mb), .bool false]) (setA mb (Pg.insAll xs) * G) w e w') ∨
  (Pg.setOf may xs = none ∧ Ret (.tuple #[.map none, .bool false]) G w e w')

set_option maxRecDepth 100000 in
theorem set_calls {G : HProp} {w : World} (K : FuncId) (fst caps : Array Value) (may : Int → Bool) {kv : Value} {xs : List Int} (H : Holds G w) (hr : Reads G kv xs)
    (hx : ∀ x ∈ xs, -9223372036854775808 ≤ x ∧ x ≤ 9223372036854775807) (hm : ∀ x, may x = true → 0 ≤ x ∧ x < 4096)
    (hK : ∀ args w, (callFunc K args).run Tryz.prog w = .ok (.enter K args) w)
    (hc : ∀ (E : HProp) (x : Int) (w' : World), -9223372036854775808 ≤ x → x ≤ 9223372036854775807 → Holds (E * G) w' → Calls Tryz.prog K (fst ++ #[.int .i64 x] ++ caps) w' (Ret (.bool (may x)) (E * G) w')) :
    Calls Tryz.prog 65 #[kv, .func (.func K) fst caps] w (SetTo may xs G w) := by
  have hmm := @run_makeMap Tryz.prog
  obtain ⟨a, c, rfl, hlen, hmax, _⟩ := hr w H
  have H0 := mapA_made H Tryz.prog 3
  have K0 := (Keeps.refl w).alloc (.map #[] 0)
  have e0 : mapA Tryz.prog 3 w.heap.size (fun _ => none) 0 = setA w.heap.size (Pg.insAll (xs.take 0)) := by
    unfold setA
    have : setM (Pg.insAll (xs.take 0)) = fun _ => none := by
      funext k; unfold setM liftI; split <;> simp [Pg.insAll]
    rw [this]; rfl
  rw [e0] at H0
  have HR := Lib.hid hr
  have HC := Lib.hid hc
  have HX := Lib.hid hx
  have HM := Lib.hid hm
  clear hr hc hx hm e0 H
  go_enter Tryz.func65, Tryz.ntmps65
  go_wp2_with fail
  obtain ⟨mb, hmb⟩ : ∃ mb, mb = w.heap.size := ⟨_, rfl⟩
  rw [← hmb] at H0 ⊢
  clear hmb
  have Hlen := Lib.hid hlen
  have hlm : (xs.length : Int) ≤ 9223372036854775807 := by omega
  clear hlen hmax
  go_loopw [12] (fun i wr => ∃ (k : Nat), k ≤ xs.length ∧ i = .int .i64 k ∧ (∀ x ∈ xs.take k, may x = true) ∧ Holds (setA mb (Pg.insAll (xs.take k)) * G) wr ∧ Keeps w wr) (fun i _ => xs.length - (intOf i).toNat)
  case atStart => exact ⟨0, Nat.zero_le _, rfl, fun x hx => by simp at hx, H0, K0⟩
  case round =>
    clear H0 K0
    obtain ⟨k, hk, rfl, hall, HRr, hKr⟩ := hrel
    have Hall := Lib.hid hall
    clear hall
    by_cases hlt : k < xs.length
    · obtain ⟨a2, c2, hv, _, _, hcell⟩ := (HR.out.frame (setA mb (Pg.insAll (xs.take k)))) wr HRr
      simp only [Value.slice.injEq] at hv
      obtain ⟨rfl, _, rfl⟩ := hv
      obtain ⟨ad, rfl, hcell2⟩ := hcell (by omega)
      have hck := hcell2 k hlt
      obtain ⟨x, hxd⟩ : ∃ x, x = xs.getD k 0 := ⟨_, rfl⟩
      rw [← hxd] at hck
      have hmem : x ∈ xs := by
        rw [hxd, List.getD_eq_getElem?_getD, List.getElem?_eq_getElem hlt]; exact List.getElem_mem hlt
      have hxb := HX.out x hmem
      have hcl := HC.out (setA mb (Pg.insAll (xs.take k))) x wr hxb.1 hxb.2 HRr
      have Hxd := Lib.hid hxd
      have htake : xs.take (k + 1) = xs.take k ++ [x] := by
        rw [List.take_add_one, List.getElem?_eq_getElem hlt, hxd, List.getD_eq_getElem?_getD, List.getElem?_eq_getElem hlt]; rfl
      have Htake := Lib.hid htake
      have Hmem := Lib.hid hmem
      clear hcell hcell2 hxd hmem htake
      cases hmx : may x with
      | false =>
        rw [hmx] at hcl
        have hres : Pg.setOf may xs = none := by
          unfold Pg.setOf
          rw [if_neg]
          rintro ⟨h1, _⟩
          have := List.all_eq_true.1 h1 x Hmem.out
          rw [hmx] at this; cases this
        have Hres := Lib.hid hres
        have HCL := Lib.hid hcl
        clear hcl hmx hres
        go_wp2_with fail
        refine HCL.out.mono ?_
        rintro e w1 ⟨rfl, H1, K1⟩
        have K2 := hKr.trans K1
        clear HCL K1 HRr hKr
        go_wp2_with fail
        go_ret2
        exact .inr (.inr ⟨Hres.out, .mk H1.right K2⟩)
      | true =>
        rw [hmx] at hcl
        have Hmx := Lib.hid hmx
        have HCL := Lib.hid hcl
        have hbnd : (Pg.insAll (xs.take k)).length < maxLen := by
          have h1 : ∀ y ∈ Pg.insAll (xs.take k), 0 ≤ y ∧ y < ((4096 : Nat) : Int) := fun y hy => HM.out y (Hall.out y ((Pg.mem_insAll _ _).1 hy))
          have := Pg.nodup_le h1 (Pg.insAll_nodup _)
          unfold maxLen; omega
        have HI := Lib.hid (setM_insert (Pg.insAll (xs.take k)) x)
        have Hins : Hid (Pg.insAll (xs.take (k + 1)) = (Pg.insAll (xs.take k)).insert x) := Lib.hid (by rw [insAt_succ xs k hlt, Hxd.out])
        clear hcl hmx
        go_wp2_with fail
        refine HCL.out.mono ?_
        rintro e w1 ⟨rfl, H1, K1⟩
        have K2 := hKr.trans K1
        clear HCL K1 HRr hKr
        unfold setA at H1
        go_wp2_with (refine wpList_store_sep rfl _ _ _ 68 rfl 94 kInt Tryz.underlying68 rfl (setM ((Pg.insAll (xs.take k)).insert x)) H1 hbnd (.int .i64 x) (.agg #[]) (.int .i64 x) rfl rfl (keyInt hxb.1 hxb.2) HI.out.1 HI.out.2 ?_; intro w3 H3 K3)
        go_roundw
        case rel =>
          refine ⟨k + 1, by omega, by go_num, ?_, ?_, K2.trans K3⟩
          · intro y hy
            rw [Htake.out] at hy
            rcases List.mem_append.1 hy with hy | hy
            · exact Hall.out y hy
            · rw [List.mem_singleton.1 hy]; exact Hmx.out
          · rw [Hins.out]
            unfold setA
            rw [insert_len]
            rw [setM_at] at H3
            exact H3
        case measure => simp [intOf]; omega
    · obtain rfl : k = xs.length := by omega
      rw [List.take_length] at Hall HRr
      have hall2 : xs.all may = true := List.all_eq_true.2 Hall.out
      have hln := fun ty => mapA_len HRr Tryz.underlying68 ty
      have HL := Lib.hid hall2
      clear hall2
      obtain ⟨q, hq⟩ : ∃ q, q = (Pg.insAll xs).length := ⟨_, rfl⟩
      rw [← hq] at hln
      by_cases he : q = xs.length
      · have hres : Pg.setOf may xs = some (Pg.insAll xs) := by
          unfold Pg.setOf; rw [if_pos ⟨HL.out, by rw [← hq]; exact he⟩]
        have Hres := Lib.hid hres
        subst he
        clear hres hq
        go_wp2_with fail
        go_ret2
        exact .inl ⟨mb, Hres.out, .mk HRr hKr⟩
      · have hres : Pg.setOf may xs = none := by
          unfold Pg.setOf; rw [if_neg (fun h => he (by rw [hq]; exact h.2))]
        have Hres := Lib.hid hres
        have hb : ((q : Int) == (xs.length : Int)) = false := by rw [beq_eq_false_iff_ne]; omega
        clear hres hq he
        go_wp2_with fail
        go_ret2
        exact .inr (.inl ⟨mb, Hres.out, .mk HRr hKr⟩)

/-! ### Live -/
set_option maxRecDepth 100000 in
theorem Live_calls {pb db n : Nat} {p : Pg} {F : HProp} {w : World} {kv : Value} {xs : List Int} (hp : p.Ok n) (H : Holds (pgA pb db p * F) w) (hr : Reads F kv xs)
    (hx : ∀ x ∈ xs, -9223372036854775808 ≤ x ∧ x ≤ 9223372036854775807) :
    Calls Tryz.prog 23 #[.pointer (some ⟨pb, 0, none⟩), kv] w (Ret (.int .i64 (p.setLive xs).2) (pgA pb db (p.setLive xs).1 * F) w) := by
  have hpages : p.pages ≤ 4096 := by have := hp.fits; have := hp.n4096; omega
  obtain ⟨a, c, rfl, _⟩ := hr w H.right
  have hmf : ∀ (fn : Fn) (first cap : Array Value) (w : World), (Instr.makeFunc fn first cap).run Tryz.prog w = .ok (.func fn first cap) w := fun _ _ _ _ => rfl
  have hset := set_calls (G := pgA pb db p * F) 66 #[.pointer (some ⟨pb, 0, none⟩)] #[] p.is H (hr.frame _) hx
    (fun x h => by simp only [Pg.is, decide_eq_true_eq] at h; omega) (enters_of Tryz.func66 (by kernel_rfl) rfl)
    (fun E x w' _ _ HE => by
      rw [sep_left_comm] at HE
      refine (is_calls HE x).mono ?_
      rintro e w'' ⟨rfl, rfl⟩
      rw [sep_left_comm] at HE
      exact .mk HE (.refl _))
  have HS := Lib.hid hset
  have hlive : p.setLive xs = (match Pg.setOf p.is xs with | some l => ({ p with live := l }, 0) | none => (p, 191)) := rfl
  have HL := Lib.hid hlive
  clear hset hr hx hlive
  go_enter Tryz.func23, Tryz.ntmps23
  go_wp2_with fail
  refine HS.out.mono ?_
  rintro e w1 (⟨mb, hso, rfl, H1, K1⟩ | ⟨mb, hso, rfl, H1, K1⟩ | ⟨hso, rfl, H1, K1⟩)
  · have hres : p.setLive xs = ({ p with live := Pg.insAll xs }, 0) := by rw [HL.out, hso]
    have Hres := Lib.hid hres
    clear hres hso
    have H2 := H1
    rw [sep_left_comm] at H2
    obtain ⟨lb, tb, H2⟩ := pgA_open.1 H2
    have c6 := H2.cell 6 (v := .map (some lb)) rfl
    have f6 := H2.unfz 6
    have H3 := H2.setCell (off := 6) (.map (some mb))
    have K3 := K1.setCell ⟨pb, 6, none⟩ (.map (some mb))
    clear H1 H2 K1 HS
    go_wp2_with fail
    go_ret
    rw [Hres.out]
    refine .mk (pgA_open.2 ⟨mb, tb, ?_⟩) K3
    have e1 : ∀ A B C E G : HProp, A * (B * (C * (E * G))) = B * (A * (E * (C * G))) := by intro A B C E G; ac_rfl
    rw [e1] at H3
    exact H3.right
  · have hres : p.setLive xs = (p, 191) := by rw [HL.out, hso]
    have Hres := Lib.hid hres
    clear hres hso
    go_wp2_with fail
    go_ret
    rw [Hres.out]
    exact .mk H1.right K1
  · have hres : p.setLive xs = (p, 191) := by rw [HL.out, hso]
    have Hres := Lib.hid hres
    clear hres hso
    go_wp2_with fail
    go_ret
    rw [Hres.out]
    exact .mk H1 K1
end Go.Proofs.YtmeepegllkhlcaaGreat
