/-
  The document's disk: it lies as two rows of texts; its calls come to what the plain disk says.
-/
import Derived.Test.YtmeepegllkhlcaaGreatStrs
import Derived.Test.YtmeepegllkhlcaaGreatPager5
namespace Go.Proofs.YtmeepegllkhlcaaGreat
open Go Go.RowKit Go.Maps

/-- What is written of each sector; nothing: it is safe. -/
def wrL (D : Dk) : List Bs := D.wr.map fun x => x.getD []
theorem wrL_length {D : Dk} (h : D.Ok) : (wrL D).length = D.n := by unfold wrL; rw [List.length_map, h.wr]; rfl
theorem wrL_at {D : Dk} (h : D.Ok) {i : Nat} (hi : i < D.n) : (wrL D).getD i [] = (D.w? i).getD [] := by
  have hl : i < D.wr.length := by rw [h.wr]; exact hi
  unfold wrL Dk.w?
  simp only [List.getD_eq_getElem?_getD, List.getElem?_map, List.getElem?_eq_getElem hl, Option.map_some, Option.getD_some]
theorem safe_len (D : Dk) : D.safe.length = D.n := rfl

def rdCells (D : Dk) (sv wv kv : Value) : Array Value := #[sv, wv, .int .i64 D.armed, kv, .bool D.dead]
/-- A disk but for what it keeps. -/
def rdB (rb : Nat) (kv : Value) (D : Dk) : HProp := ex fun sv : Value => ex fun wv : Value => pt rb (.cells (rdCells D sv wv kv) 84 (0, 0)) * (rowS sv D.safe * rowS wv (wrL D))
def rdA (rb : Nat) (D : Dk) : HProp := ex fun kv : Value => rdB rb kv D * intsA kv D.kept
theorem rdB_open {rb : Nat} {kv : Value} {D : Dk} {F : HProp} {w : World} : Holds (rdB rb kv D * F) w ↔ ∃ sv wv, Holds (pt rb (.cells (rdCells D sv wv kv) 84 (0, 0)) * (rowS sv D.safe * (rowS wv (wrL D) * F))) w := by
  unfold rdB
  rw [holds_ex_sep]
  constructor
  · rintro ⟨sv, h⟩
    rw [holds_ex_sep] at h
    obtain ⟨wv, h⟩ := h
    rw [sep_assoc, sep_assoc] at h
    exact ⟨sv, wv, h⟩
  · rintro ⟨sv, wv, h⟩
    refine ⟨sv, ?_⟩
    rw [holds_ex_sep]
    refine ⟨wv, ?_⟩
    rw [sep_assoc, sep_assoc]
    exact h
theorem rdA_B {rb : Nat} {D : Dk} {F : HProp} {w : World} : Holds (rdA rb D * F) w ↔ ∃ kv, Holds (rdB rb kv D * (intsA kv D.kept * F)) w := by
  unfold rdA
  rw [holds_ex_sep]
  constructor
  · rintro ⟨kv, h⟩
    rw [sep_assoc] at h
    exact ⟨kv, h⟩
  · rintro ⟨kv, h⟩
    refine ⟨kv, ?_⟩
    rw [sep_assoc]
    exact h
theorem row_at {g : Nat} {j : Nat} {w : World} {l : List Bs} (h : ∀ j, j < l.length → w.cell? ⟨g, j, none⟩ = some (strV (l.getD j []))) (hj : j < l.length) : w.cell? ⟨g, j, none⟩ = some (strV (l.getD j [])) := h j hj
/-- What is read of the two rows. -/
theorem rd_rows {rb : Nat} {D : Dk} (hD : D.Ok) {sv wv kv : Value} {G : HProp} {w : World} (H : Holds (pt rb (.cells (rdCells D sv wv kv) 84 (0, 0)) * (rowS sv D.safe * (rowS wv (wrL D) * G))) w) :
    ∃ sg sc wg wc, sv = .slice (some ⟨sg, 0, none⟩) D.n sc ∧ D.n ≤ sc ∧ wv = .slice (some ⟨wg, 0, none⟩) D.n wc ∧ D.n ≤ wc ∧ (∀ j, j < D.n → w.cell? ⟨sg, j, none⟩ = some (strV (D.safe.getD j []))) ∧ ∀ j, j < D.n → w.cell? ⟨wg, j, none⟩ = some (strV ((D.w? j).getD [])) := by
  obtain ⟨sg, sc, hs, h1, h2⟩ := rowS_cell H.right
  obtain ⟨wg, wc, hw, h3, h4⟩ := rowS_cell H.right.right
  rw [wrL_length hD] at hw h3 h4
  exact ⟨sg, sc, wg, wc, hs, h1, hw, h3, h2, fun j hj => by rw [h4 j hj, wrL_at hD hj]⟩

theorem strV_ne {t : Bs} (h : t.length = 64) : ∃ s : ByteArray, strV t = .string s ∧ s.toList.isEmpty = false ∧ (!s.toList.isEmpty) = true := by
  refine ⟨⟨t.toArray⟩, rfl, ?_⟩
  have : (⟨t.toArray⟩ : ByteArray).toList = t := toList_mk t
  rw [this]
  cases t with
  | nil => simp at h
  | cons a l => simp

theorem RSector_calls {rb : Nat} {kv : Value} {D : Dk} {F : HProp} {w : World} (hD : D.Ok) (H : Holds (rdB rb kv D * F) w) (i : Nat) (hi : i < D.n) :
    Calls Tryz.prog 47 #[.pointer (some ⟨rb, 0, none⟩), .int .i64 (i : Int)] w fun e w' => e = .returned (strV (D.sec i)) ∧ w = w' := by
  have hn : D.n ≤ 4096 := hD.most
  obtain ⟨sv, wv, H⟩ := rdB_open.1 H
  obtain ⟨sg, sc, wg, wc, rfl, hsc, rfl, hwc, hs, hw⟩ := rd_rows hD H
  have c0 := H.cell 0 (v := .slice (some ⟨sg, 0, none⟩) D.n sc) rfl
  have c1 := H.cell 1 (v := .slice (some ⟨wg, 0, none⟩) D.n wc) rfl
  have d0 := hs i hi
  have d1 := hw i hi
  have hii : (i : Int) < (D.n : Int) := by omega
  clear hs hw H
  cases hwi : D.w? i with
  | some t =>
    have h64 : t.length = 64 := by
      have := Dk.sec_length hD hi
      unfold Dk.sec at this
      rw [hwi] at this
      exact this
    have hfin : D.sec i = t := by simp [Dk.sec, hwi]
    rw [hfin]
    rw [hwi, Option.getD_some] at d1
    obtain ⟨s, hs, hb1, hb2⟩ := strV_ne h64
    rw [hs] at d1 ⊢
    clear hfin hwi hs h64 d0
    go_enter Tryz.func47, Tryz.ntmps47
    go_wp2_with fail
    go_ret
    exact ⟨rfl, rfl⟩
  | none =>
    have hfin : D.sec i = D.safe.getD i [] := by simp [Dk.sec, hwi]
    rw [hfin]
    rw [hwi, Option.getD_none] at d1
    have d1' : w.cell? ⟨wg, i, none⟩ = some (.string ⟨#[]⟩) := d1
    obtain ⟨s, hs⟩ : ∃ s : ByteArray, strV (D.safe.getD i []) = .string s := ⟨_, rfl⟩
    rw [hs] at d0 ⊢
    clear hfin hwi hs d1
    go_enter Tryz.func47, Tryz.ntmps47
    go_wp2_with fail
    go_ret
    exact ⟨rfl, rfl⟩
/-! ### step, Revive -/
theorem Rstep_calls {rb : Nat} {kv : Value} {D : Dk} {F : HProp} {w : World} (hD : D.Ok) (H : Holds (rdB rb kv D * F) w) :
    Calls Tryz.prog 93 #[.pointer (some ⟨rb, 0, none⟩)] w (Ret (.bool D.gone) (rdB rb kv D.stepD * F) w) := by
  have h0 := hD.armed0
  have h1 := hD.armedmax
  have H0 := H
  obtain ⟨sv, wv, H⟩ := rdB_open.1 H
  have c2 := H.cell 2 (v := .int .i64 D.armed) rfl
  have f2 := H.unfz 2
  by_cases hz : D.armed = 0
  · have e1 : Ret (.bool D.gone) (rdB rb kv D.stepD * F) w (.returned (.bool false)) w := by
      have : D.gone = false := by simp [Dk.gone, hz]
      rw [this]
      have : D.stepD = D := by simp [Dk.stepD, hz]
      rw [this]
      exact .mk H0 (.refl _)
    rw [hz] at c2
    clear hz h0 h1
    go_enter Tryz.func93, Tryz.ntmps93
    go_wp2_with fail
    go_ret
    exact e1
  · have e1 : Ret (.bool D.gone) (rdB rb kv D.stepD * F) w (.returned (.bool (D.armed - 1 == 0))) (w.setCell ⟨rb, 2, none⟩ (.int .i64 (D.armed - 1))) := by
      have : D.gone = (D.armed - 1 == 0) := by
        unfold Dk.gone
        rw [Bool.eq_iff_iff]; simp; omega
      rw [this]
      refine .mk (rdB_open.2 ⟨sv, wv, ?_⟩) ((Keeps.refl _).setCell _ _)
      have := H.setCell (off := 2) (.int .i64 (D.armed - 1))
      have e2 : D.stepD = { D with armed := D.armed - 1 } := by simp [Dk.stepD, hz]
      rw [e2]
      exact this
    have hpos : 0 < D.armed := by omega
    clear hz
    go_enter Tryz.func93, Tryz.ntmps93
    go_wp2_with fail
    go_ret
    exact e1

theorem RRevive_calls {rb : Nat} {kv : Value} {D : Dk} {F : HProp} {w : World} (H : Holds (rdB rb kv D * F) w) :
    Calls Tryz.prog 34 #[.pointer (some ⟨rb, 0, none⟩)] w (Ret (.tuple #[]) (rdB rb kv D.revive * F) w) := by
  obtain ⟨sv, wv, H⟩ := rdB_open.1 H
  have c2 := H.cell 2 (v := .int .i64 D.armed) rfl
  have f2 := H.unfz 2
  have c4 := H.cell 4 (v := .bool D.dead) rfl
  have f4 := H.unfz 4
  have hfin : Ret (.tuple #[]) (rdB rb kv D.revive * F) w (.returned (.tuple #[])) ((w.setCell ⟨rb, 4, none⟩ (.bool false)).setCell ⟨rb, 2, none⟩ (.int .i64 0)) :=
    .mk (rdB_open.2 ⟨sv, wv, (H.setCell (off := 4) (.bool false)).setCell (off := 2) (.int .i64 0)⟩) (((Keeps.refl _).setCell _ _).setCell _ _)
  go_enter Tryz.func34, Tryz.ntmps34
  go_wp2_with fail
  go_end0
  exact hfin

/-! ### join -/
theorem take_flat (l : List Bs) (k : Nat) (h : k < l.length) : (l.take (k + 1)).flatten = (l.take k).flatten ++ l.getD k [] := by
  rw [List.take_add_one, List.getElem?_eq_getElem h, List.flatten_append, List.getD_eq_getElem?_getD, List.getElem?_eq_getElem h]
  simp
theorem flat_take_le (l : List Bs) : ∀ k, (l.take k).flatten.length ≤ l.flatten.length := fun k => by
  have := List.take_append_drop k l
  have h2 : l.flatten.length = (l.take k).flatten.length + (l.drop k).flatten.length := by
    rw [← List.length_append, ← List.flatten_append, this]
  omega

theorem Rjoin_calls {F : HProp} {w : World} {v : Value} {l : List Bs} (H : Holds F w) (hr : ReadsS F v l) (hl : l.flatten.length ≤ 1000000) (hn : l.length ≤ 4096) :
    Calls Tryz.prog 60 #[v] w fun e w' => e = .returned (strV l.flatten) ∧ Below w.heap.size w w' := by
  obtain ⟨a, c, rfl, hlc, _⟩ := hr w H
  have HR := Lib.hid hr
  have hb0 : Below w.heap.size w (w.alloc (.cells #[] 5)) := (Below.refl _ w).alloc (Nat.le_refl _) _
  have how0 := ownB_made (Nat.le_refl w.heap.size)
  clear hr
  go_enter Tryz.func60, Tryz.ntmps60
  go_wp2_with fail
  go_loopw [3, 4] (fun bv i wr => ∃ (k : Nat) (cur : Bs), k ≤ l.length ∧ i = .int .i64 k ∧ cur = (l.take k).flatten ∧ ownB w.heap.size bv cur wr ∧ Below w.heap.size w wr) (fun _ i _ => l.length - (intOf i).toNat)
  case atStart => exact ⟨0, [], Nat.zero_le _, rfl, rfl, how0, hb0⟩
  case round =>
    clear how0 hb0
    obtain ⟨k, cur, hk, rfl, hcur, hown, hb⟩ := hrel
    obtain ⟨g, gc, rfl⟩ := ownB_val hown
    have hcl : cur.length ≤ 1000000 := by rw [hcur]; exact Nat.le_trans (flat_take_le l k) hl
    have Hcur := Lib.hid hcur
    clear hcur
    by_cases hlt : k < l.length
    · obtain ⟨a2, c2, hv, _, hcell⟩ := HR.out wr (Holds_below H (Nat.le_refl _) hb)
      simp only [Value.slice.injEq] at hv
      obtain ⟨rfl, _, rfl⟩ := hv
      obtain ⟨ad, rfl, hcell2⟩ := hcell (by omega)
      have hck := hcell2 k hlt
      have hnext := take_flat l k hlt
      have hle2 := flat_take_le l (k + 1)
      obtain ⟨t, ht⟩ : ∃ t, t = l.getD k [] := ⟨_, rfl⟩
      rw [← ht] at hck hnext
      rw [← Hcur.out] at hnext
      have hsum : cur.length + t.length ≤ 1000000 := by
        rw [hnext, List.length_append] at hle2
        omega
      obtain ⟨s, hs⟩ : ∃ s : ByteArray, strV t = .string s := ⟨_, rfl⟩
      rw [hs] at hck
      have Hnext := Lib.hid hnext
      have Hs := Lib.hid hs
      clear hcell hcell2 ht hnext hle2 hs
      go_wp2_with (at_builtin; refine append_text w.heap.size rfl (.tmp 12) (.tmp 16) rfl _ cur t s Hs.out rfl rfl hown hb.size (by omega) ?_; intro v1 w1 hown1 hb1)
      have hb2 := hb.trans hb1
      go_roundw
      case rel => exact ⟨k + 1, cur ++ t, by omega, by go_num, Hnext.out.symm, hown1, hb2⟩
      case measure => simp [intOf]; omega
    · obtain rfl : k = l.length := by omega
      have hstr := ownB_string hown
      have hfin := Hcur.out
      rw [List.take_length] at hfin
      have Hfin : Hid (strV l.flatten = strV cur) := Lib.hid (by rw [hfin])
      unfold strV at hstr
      clear hfin
      go_wp2_with fail
      go_ret
      exact ⟨by rw [Hfin.out]; rfl, hb⟩

/-! ### Image -/
theorem Dk.image_secs {D : Dk} (h : D.Ok) : D.image = (List.range D.n).map D.sec := by
  apply List.ext_getElem?
  intro i
  rcases Nat.lt_or_ge i D.n with hi | hi
  · have h1 := Dk.image_at h hi
    have hl : i < D.image.length := by unfold Dk.image; rw [Dk.left_length]; exact hi
    rw [List.getD_eq_getElem?_getD, List.getElem?_eq_getElem hl] at h1
    rw [List.getElem?_eq_getElem hl, List.getElem?_map, List.getElem?_range hi]
    exact congrArg some h1
  · rw [List.getElem?_eq_none (by unfold Dk.image; rw [Dk.left_length]; exact hi), List.getElem?_eq_none (by simpa using hi)]
theorem secs_flat {D : Dk} (h : D.Ok) (k : Nat) (hk : k ≤ D.n) : ((List.range k).map D.sec).flatten.length = 64 * k := by
  rw [Dk.flatten_length_of _ (fun s hs => by
    obtain ⟨i, hi, rfl⟩ := List.mem_map.1 hs
    have := List.mem_range.1 hi
    exact Dk.sec_length h (by omega))]
  simp

theorem RImage_calls {rb : Nat} {kv : Value} {D : Dk} {F : HProp} {w : World} (hD : D.Ok) (H : Holds (rdB rb kv D * F) w) :
    Calls Tryz.prog 16 #[.pointer (some ⟨rb, 0, none⟩)] w (Ret (strV D.image.flatten) (rdB rb kv D * F) w) := by
  have hn : D.n ≤ 4096 := hD.most
  have H0 := rowS_made H
  have K0 := (Keeps.refl w).alloc (.cells #[] 9)
  clear H
  go_enter Tryz.func16, Tryz.ntmps16
  go_wp2_with fail
  go_loopw [3, 4] (fun lv i wr => ∃ (k : Nat) (l : List Bs), k ≤ D.n ∧ i = .int .i64 k ∧ l = (List.range k).map D.sec ∧ Holds (rowS lv l * (rdB rb kv D * F)) wr ∧ Keeps w wr) (fun _ i _ => D.n - (intOf i).toNat)
  case atStart => exact ⟨0, [], Nat.zero_le _, rfl, rfl, H0, K0⟩
  case round =>
    clear H0 K0
    obtain ⟨k, l, hk, rfl, hll, HR, hKr⟩ := hrel
    have hlk : l.length = k := by rw [hll]; simp
    have Hll := Lib.hid hll
    have Hlk := Lib.hid hlk
    clear hll hlk
    obtain ⟨g, cap, hv, hcap, _⟩ := rowS_cell HR
    subst hv
    have HR2 := HR
    rw [sep_left_comm] at HR2
    obtain ⟨sv, wv, HX⟩ := rdB_open.1 HR2
    obtain ⟨sg, sc, wg, wc, rfl, hsc, rfl, hwc, _, _⟩ := rd_rows hD HX
    have c0 := HX.cell 0 (v := .slice (some ⟨sg, 0, none⟩) D.n sc) rfl
    by_cases hlt : k < D.n
    · have hsec := RSector_calls hD HR2 k hlt
      obtain ⟨s, hs⟩ : ∃ s : ByteArray, strV (D.sec k) = .string s := ⟨_, rfl⟩
      rw [hs] at hsec
      have HSEC := Lib.hid hsec
      have Hs := Lib.hid hs
      have HL2 : Hid (l ++ [D.sec k] = (List.range (k + 1)).map D.sec) := Lib.hid (by rw [List.range_succ, List.map_append, ← Hll.out]; rfl)
      have hlk2 : l.length ≤ 4000000 := by have := Hlk.out; omega
      clear hsec hs HR2 HX
      go_wp2_with fail
      refine HSEC.out.mono ?_
      rintro e w1 ⟨rfl, rfl⟩
      clear c0
      go_wp2_with (at_builtin; refine append_str rfl (.tmp 15) (.tmp 19) rfl _ l (D.sec k) (.string s) Hs.out.symm rfl rfl HR hlk2 ?_; intro v1 w2 H2 K3)
      have K4 := hKr.trans K3
      go_roundw
      case rel => exact ⟨k + 1, l ++ [D.sec k], by omega, by go_num, HL2.out, H2, K4⟩
      case measure => simp [intOf]; omega
    · obtain rfl : k = D.n := by omega
      have hfl : l.flatten.length ≤ 1000000 := by rw [Hll.out, secs_flat hD _ (Nat.le_refl _)]; omega
      have hl4 : l.length ≤ 4096 := by have := Hlk.out; omega
      have hj := Rjoin_calls HR (reads_rowS _) hfl hl4
      have hfin : l.flatten = D.image.flatten := by rw [Hll.out, Dk.image_secs hD]
      rw [hfin] at hj
      have HJ := Lib.hid hj
      clear hj hfin HR2 HX hfl hl4
      go_wp2_with fail
      refine HJ.out.mono ?_
      rintro e w1 ⟨rfl, hb⟩
      clear c0
      go_wp2_with fail
      go_ret
      exact .mk ((Holds_below HR (Nat.le_refl _) hb).right) (hKr.trans (Keeps.below hb))

end Go.Proofs.YtmeepegllkhlcaaGreat
