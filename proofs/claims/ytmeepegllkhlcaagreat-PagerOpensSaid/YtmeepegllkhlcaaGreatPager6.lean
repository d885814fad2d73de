/-
  A pager's Open.
-/
import Derived.Test.YtmeepegllkhlcaaGreatPager5
namespace Go.Proofs.YtmeepegllkhlcaaGreat
open Go Go.RowKit Go.Maps

def OpenTo (D : Dk) (first pages : Int) (db : Nat) (F : HProp) (w : World) (e : Ending) (w' : World) : Prop :=
  match (Pg.open_ D first pages).1 with
  | none => Ret (.tuple #[.pointer none, .int .i64 (Pg.open_ D first pages).2]) (diskA db D * F) w e w'
  | some p => ∃ pb, Ret (.tuple #[.pointer (some ⟨pb, 0, none⟩), .int .i64 0]) (pgA pb db p * (diskA db D * F)) w e w'

/-- What Open has found behind k heads. -/
def openAt (D : Dk) (first pages : Int) : Nat → Pg
  | 0 => { first := first.toNat, pages := pages.toNat, root := 0, frm := 0, gen := 0, live := [], taken := [], dead := false }
  | k + 1 => (openAt D first pages k).better (Pg.parse pages.toNat (D.sec k) k)
theorem openAt_pages (D : Dk) (first pages : Int) : ∀ k, (openAt D first pages k).pages = pages.toNat
  | 0 => rfl
  | k + 1 => by
    unfold openAt Pg.better
    split
    · exact openAt_pages D first pages k
    · exact openAt_pages D first pages k
theorem secs_sub {D : Dk} (hD : D.Ok) {m : Nat} (hm : m ≤ D.n) (k : Nat) (hk : k < m) : (((D.secs 0 m).flatten.drop (64 * k)).take 64) = D.sec k := by
  have h64 : ∀ s ∈ D.secs 0 m, s.length = 64 := by
    intro s hs
    simp only [Dk.secs, List.mem_map, List.mem_range] at hs
    obtain ⟨i, hi, rfl⟩ := hs
    exact Dk.sec_length hD (by omega)
  have hlen : (D.secs 0 m).length = m := by simp [Dk.secs]
  rw [Dk.flatten_at _ h64 k (by rw [hlen]; exact hk)]
  simp [Dk.secs, List.getD_eq_getElem?_getD, List.getElem?_map, List.getElem?_range, hk]
theorem secs_length {D : Dk} (hD : D.Ok) (m : Nat) (hm : m ≤ D.n) : (D.secs 0 m).flatten.length = 64 * m := by
  rw [Dk.flatten_length_of]
  · simp [Dk.secs]
  · intro s hs
    simp only [Dk.secs, List.mem_map, List.mem_range] at hs
    obtain ⟨i, hi, rfl⟩ := hs
    exact Dk.sec_length hD (by omega)

set_option maxRecDepth 100000 in
set_option maxHeartbeats 4000000 in
theorem Open_calls {db : Nat} {D : Dk} {F : HProp} {w : World} (hD : D.Ok) (H : Holds (diskA db D * F) w) (first pages : Int)
    (h1 : -9223372036854775808 ≤ first ∧ first ≤ 9223372036854775807) (h2 : -9223372036854775808 ≤ pages ∧ pages ≤ 9223372036854775807) :
    Calls Tryz.prog 6 #[.pointer (some ⟨db, 0, none⟩), .int .i64 first, .int .i64 pages] w (OpenTo D first pages db F w) := by
  have hmm := @run_makeMap Tryz.prog
  have hck := check_calls hD H first pages 1 h1 h2 (by decide)
  obtain ⟨x0, hx0⟩ : ∃ x0, x0 = Pg.check D first pages 1 := ⟨_, rfl⟩
  rw [← hx0] at hck
  have HCK := Lib.hid hck
  clear hck
  by_cases z0 : x0 = 0
  · subst z0
    have hg : ¬ (first < 2 ∨ pages < 1 ∨ 4096 < pages ∨ (D.n : Int) < first ∨ (D.n : Int) - first < 8 * pages) := by
      intro h
      unfold Pg.check at hx0
      rw [if_pos (by omega)] at hx0
      cases hx0
    have hdead : D.dead = false := by
      unfold Pg.check at hx0
      rw [if_neg (by omega)] at hx0
      cases hd : D.dead with
      | false => rfl
      | true => rw [hd] at hx0; cases hx0
    have hread : D.read 0 2 = ((D.secs 0 2).flatten, 0) := by
      unfold Dk.read
      rw [hdead, if_neg (by decide), if_neg (by omega)]
      rfl
    have hrd := A_Read hD H 0 2 (by decide) (by decide) (by decide) (by decide)
    rw [hread] at hrd
    have hcut : ∀ (k : Nat), k < 2 → ∀ w : World, (Instr.slice 9 (strV (D.secs 0 2).flatten) (some (.int .i64 ((k : Int) * 64))) (some (.int .i64 (((k : Int) + 1) * 64))) none).run Tryz.prog w = .ok (strV (D.sec k)) w := by
      intro k hk w
      have hl := secs_length hD 2 (by omega)
      have := run_text_cut (D.secs 0 2).flatten (k * 64) (k * 64 + 64) (by omega) (by omega) w
      rw [Nat.add_sub_cancel_left, Nat.mul_comm k 64, secs_sub hD (by omega) k hk] at this
      rw [← this]
      congr 4
      · omega
      · omega
    obtain ⟨tb, htb⟩ : ∃ tb : ByteArray, strV (D.secs 0 2).flatten = .string tb := ⟨_, rfl⟩
    rw [htb] at hrd hcut
    have hopen : Pg.open_ D first pages = (if (openAt D first pages 2).gen = 0 then (none, 190) else (some (openAt D first pages 2), 0)) := by
      unfold Pg.open_
      rw [← hx0, if_neg (by decide)]
      rfl
    have hcells : pgCells (openAt D first pages 0) db w.heap.size (w.heap.size + 1) = #[.pointer (some ⟨db, 0, none⟩), .int .i64 first, .int .i64 pages, .int .i64 0, .int .i64 0, .int .i64 0, .map (some w.heap.size), .map (some (w.heap.size + 1)), .bool false] := by
      unfold pgCells openAt
      simp only []
      rw [show ((first.toNat : Nat) : Int) = first from by omega, show ((pages.toNat : Nat) : Int) = pages from by omega]
      rfl
    have hp0 := fun (w : World) (h : Holds (diskA db D * F) w) => pg_made h (openAt D first pages 0) db rfl rfl
    have HRD := Lib.hid hrd
    have HCUT := Lib.hid hcut
    have HOPEN := Lib.hid hopen
    have HP0 := Lib.hid hp0
    clear hx0 hrd hcut hopen hread hp0 htb hcells
    go_enter Tryz.func6, Tryz.ntmps6
    go_wp2_with fail
    refine HCK.out.mono ?_
    rintro e w1 ⟨rfl, rfl⟩
    go_wp2_with fail
    refine HRD.out.mono ?_
    rintro e w2 ⟨rfl, H2, K2⟩
    have hp := HP0.out w2 H2
    have hcells : pgCells (openAt D first pages 0) db w2.heap.size (w2.heap.size + 1) = #[.pointer (some ⟨db, 0, none⟩), .int .i64 first, .int .i64 pages, .int .i64 0, .int .i64 0, .int .i64 0, .map (some w2.heap.size), .map (some (w2.heap.size + 1)), .bool false] := by
      unfold pgCells openAt
      simp only []
      rw [show ((first.toNat : Nat) : Int) = first from by omega, show ((pages.toNat : Nat) : Int) = pages from by omega]
      rfl
    rw [hcells] at hp
    have K3 := ((K2.alloc (.map #[] 0)).alloc (.map #[] 0)).alloc (.cells #[.pointer (some ⟨db, 0, none⟩), .int .i64 first, .int .i64 pages, .int .i64 0, .int .i64 0, .int .i64 0, .map (some w2.heap.size), .map (some (w2.heap.size + 1)), .bool false] 70)
    have HP := Lib.hid hp
    clear hp hcells HRD HCK H2 K2 HP0
    go_wp2_with fail
    have H3 := HP.out
    generalize World.alloc _ _ = W at H3 K3 ⊢
    obtain ⟨pb, hpb⟩ : ∃ pb, pb = w2.heap.size + 1 + 1 := ⟨_, rfl⟩
    rw [← hpb] at H3 ⊢
    clear hpb HP hmm
    have hpg : (pages.toNat : Int) = pages ∧ pages.toNat ≤ 4096 := by omega
    go_loopw [38] (fun i wr => ∃ (k : Nat) (q : Pg), k ≤ 2 ∧ i = .int .i64 k ∧ q = openAt D first pages k ∧ Holds (pgA pb db q * (diskA db D * F)) wr ∧ Keeps w wr) (fun i _ => 2 - (intOf i).toNat)
    case atStart => exact ⟨0, _, by omega, rfl, rfl, H3, K3⟩
    case round =>
      clear H3 K3 H
      obtain ⟨k, q, hk, rfl, hq, HR, hKr⟩ := hrel
      have hqp : q.pages = pages.toNat := by rw [hq]; exact openAt_pages D first pages k
      have Hq := Lib.hid hq
      clear hq
      by_cases hlt : k < 2
      · have hcut := HCUT.out k hlt
        have hpa := parse_calls HR (by rw [hqp]; exact hpg.2) (D.sec k) (Dk.sec_length hD (by omega)) k hlt
        rw [hqp] at hpa
        obtain ⟨h, hh⟩ : ∃ h, h = Pg.parse pages.toNat (D.sec k) k := ⟨_, rfl⟩
        rw [← hh] at hpa
        have hnext : openAt D first pages (k + 1) = q.better h := by rw [Hq.out, hh]; rfl
        have HN := Lib.hid hnext
        obtain ⟨sk, hsk⟩ : ∃ sk : ByteArray, strV (D.sec k) = .string sk := ⟨_, rfl⟩
        rw [hsk] at hcut hpa
        obtain ⟨g, r, f⟩ := h
        simp only [] at hpa
        have HPA := Lib.hid hpa
        clear hpa hh hnext hsk
        by_cases hgt : q.gen < g
        · have hbt : q.better (g, r, f) = { q with gen := g, root := r, frm := f } := by unfold Pg.better; rw [if_pos hgt]
          have HBT := Lib.hid hbt
          clear hbt
          go_wp2_with fail
          refine HPA.out.mono ?_
          rintro e w4 ⟨rfl, H4, K4⟩
          have K5 := hKr.trans K4
          obtain ⟨lb, tb5, H5⟩ := pgA_open.1 H4
          have c5 := H5.cell 5 (v := .int .i64 q.gen) rfl
          have c3 := H5.cell 3 (v := .int .i64 q.root) rfl
          have c4 := H5.cell 4 (v := .int .i64 q.frm) rfl
          have f5 := H5.unfz 5
          have f3 := H5.unfz 3
          have f4 := H5.unfz 4
          have H6 := ((H5.setCell (off := 5) (.int .i64 g)).setCell (off := 3) (.int .i64 r)).setCell (off := 4) (.int .i64 f)
          have K6 := ((K5.setCell ⟨pb, 5, none⟩ (.int .i64 g)).setCell ⟨pb, 3, none⟩ (.int .i64 r)).setCell ⟨pb, 4, none⟩ (.int .i64 f)
          have H7 : Holds (pgA pb db { q with gen := g, root := r, frm := f } * (diskA db D * F)) _ := pgA_open.2 ⟨lb, tb5, H6⟩
          clear H4 H5 H6 K4 K5 HPA HR hKr hcut
          go_wp2_with fail
          go_roundw
          case rel => exact ⟨k + 1, _, by omega, by go_num, by rw [HN.out, HBT.out], H7, K6⟩
          case measure => simp [intOf]; omega
        · have hbt : q.better (g, r, f) = q := by unfold Pg.better; rw [if_neg hgt]
          have HBT := Lib.hid hbt
          have hd : decide (q.gen < g) = false := by simpa using hgt
          clear hbt
          go_wp2_with fail
          refine HPA.out.mono ?_
          rintro e w4 ⟨rfl, H4, K4⟩
          have K5 := hKr.trans K4
          obtain ⟨lb, tb5, H5⟩ := pgA_open.1 H4
          have c5 := H5.cell 5 (v := .int .i64 q.gen) rfl
          clear H5 K4 HPA HR hKr hcut
          go_wp2_with fail
          go_roundw
          case rel => exact ⟨k + 1, q, by omega, by go_num, by rw [HN.out, HBT.out], H4, K5⟩
          case measure => simp [intOf]; omega
      · obtain rfl : k = 2 := by omega
        obtain ⟨lb, tb5, H5⟩ := pgA_open.1 HR
        have c5 := H5.cell 5 (v := .int .i64 q.gen) rfl
        clear H5
        by_cases hz : q.gen = 0
        · have hres : Pg.open_ D first pages = (none, 190) := by rw [HOPEN.out, if_pos (by rw [← Hq.out]; exact hz)]
          have HRES := Lib.hid hres
          have hb : (((q.gen : Nat) : Int) == 0) = true := by simpa using hz
          clear hres
          go_wp2_with fail
          go_ret2
          unfold OpenTo
          rw [HRES.out]
          exact .mk HR.right hKr
        · have hres : Pg.open_ D first pages = (some q, 0) := by rw [HOPEN.out, if_neg (by rw [← Hq.out]; exact hz), ← Hq.out]
          have HRES := Lib.hid hres
          have hb : (((q.gen : Nat) : Int) == 0) = false := by simpa using hz
          clear hres hz
          go_wp2_with fail
          go_ret2
          unfold OpenTo
          rw [HRES.out]
          exact ⟨pb, .mk HR hKr⟩
  · have hres : Pg.open_ D first pages = (none, x0) := by
      unfold Pg.open_
      rw [← hx0, if_pos z0]
    have hb : (x0 != 0) = true := by simpa using z0
    have Hres := Lib.hid hres
    clear hres z0 hx0
    go_enter Tryz.func6, Tryz.ntmps6
    go_wp2_with fail
    refine HCK.out.mono ?_
    rintro e w1 ⟨rfl, rfl⟩
    go_wp2_with fail
    go_ret2
    unfold OpenTo
    rw [Hres.out]
    exact .mk H (.refl _)
end Go.Proofs.YtmeepegllkhlcaaGreat
