/-
  The document's disk: Read, Write, Sync, Arm, New.
-/
import Derived.Test.YtmeepegllkhlcaaGreatR17c
import Derived.Test.YtmeepegllkhlcaaGreatOps
import Derived.Deep.AppendSrc
namespace Go.Proofs.YtmeepegllkhlcaaGreat
open Go Go.RowKit Go.Maps

set_option maxHeartbeats 400000 in
theorem RRead_calls {rb : Nat} {D : Dk} {F : HProp} {w : World} (hD : D.Ok) (H : Holds (rdA rb D * F) w) (a c : Int) (ha : i64ok a) (hc : i64ok c) :
    Calls Tryz.prog 98 #[.pointer (some ⟨rb, 0, none⟩), .int .i64 a, .int .i64 c] w (Ret (.tuple #[strV (D.read a c).1, .int .i64 (D.read a c).2]) (rdA rb D * F) w) := by
  have hn : D.n ≤ 4096 := hD.most
  unfold i64ok at ha hc
  have H0 := H
  obtain ⟨kv, H⟩ := rdA_B.1 H
  obtain ⟨sv, wv, H⟩ := rdB_open.1 H
  obtain ⟨sg, sc, wg, wc, rfl, hsc, rfl, hwc, _, _⟩ := rd_rows hD H
  have c4 := H.cell 4 (v := .bool D.dead) rfl
  have c0 := H.cell 0 (v := .slice (some ⟨sg, 0, none⟩) D.n sc) rfl
  clear H
  cases hdead : D.dead with
  | true =>
    rw [hdead] at c4
    have hfin : Ret (.tuple #[strV (D.read a c).1, .int .i64 (D.read a c).2]) (rdA rb D * F) w (.returned (.tuple #[.string ⟨#[]⟩, .int .i64 2])) w := by
      simp only [Dk.read, hdead, if_true]
      exact .mk H0 (.refl _)
    clear hdead
    go_enter Tryz.func98, Tryz.ntmps98
    go_wp2_with fail
    go_ret2
    exact hfin
  | false =>
    rw [hdead] at c4
    by_cases hbad : a < 0 ∨ c < 0 ∨ (D.n : Int) < a ∨ (D.n : Int) - a < c
    · have hfin : Ret (.tuple #[strV (D.read a c).1, .int .i64 (D.read a c).2]) (rdA rb D * F) w (.returned (.tuple #[.string ⟨#[]⟩, .int .i64 171])) w := by
        simp only [Dk.read, hdead, hbad, if_true, Bool.false_eq_true, if_false]
        exact .mk H0 (.refl _)
      clear hdead
      by_cases h1 : a < 0
      · clear hbad
        go_enter Tryz.func98, Tryz.ntmps98
        go_wp2_with fail
        go_ret2
        exact hfin
      · by_cases h2 : c < 0
        · clear hbad
          go_enter Tryz.func98, Tryz.ntmps98
          go_wp2_with fail
          go_ret2
          exact hfin
        · by_cases h3 : (D.n : Int) < a
          · clear hbad
            go_enter Tryz.func98, Tryz.ntmps98
            go_wp2_with fail
            go_ret2
            exact hfin
          · have h4 : (D.n : Int) - a < c := by omega
            clear hbad
            go_enter Tryz.func98, Tryz.ntmps98
            go_wp2_with fail
            go_ret2
            exact hfin
    · have h1 : 0 ≤ a := by omega
      have h2 : 0 ≤ c := by omega
      have h3 : a ≤ (D.n : Int) := by omega
      have h4 : c ≤ (D.n : Int) - a := by omega
      obtain ⟨a, rfl⟩ := Int.eq_ofNat_of_zero_le h1
      obtain ⟨c, rfl⟩ := Int.eq_ofNat_of_zero_le h2
      have hres : D.read (a : Int) (c : Int) = ((D.secs a c).flatten, 0) := by
        simp only [Dk.read, hdead, hbad, Bool.false_eq_true, if_false, Int.toNat_natCast]
      rw [hres]
      have hlen : 64 * c ≤ 140737488355328 := by omega
      have hd1 : decide (D.n < a) = false := by simp; omega
      have hd2 : decide ((a : Int) < 0) = false := by simp
      have hd3 : decide ((c : Int) < 0) = false := by simp
      have hd4 : decide ((D.n : Int) - (a : Int) < (c : Int)) = false := by simp; omega
      have hb0 : Below w.heap.size w (w.alloc (.cells #[] 5)) := (Below.refl _ w).alloc (Nat.le_refl _) _
      have how0 := ownB_made (Nat.le_refl w.heap.size)
      clear hres hbad hdead ha hc
      go_enter Tryz.func98, Tryz.ntmps98
      go_wp2_with fail
      clear hd1 hd2 hd3 hd4 c0 c4
      go_loopw [8, 9] (fun bv i wr => ∃ (k : Nat) (cur : Bs), k ≤ c ∧ i = .int .i64 k ∧ cur = (D.secs a k).flatten ∧ ownB w.heap.size bv cur wr ∧ Below w.heap.size w wr) (fun _ i _ => c - (intOf i).toNat)
      case atStart => exact ⟨0, [], Nat.zero_le _, rfl, rfl, how0, hb0⟩
      case round =>
        clear how0 hb0
        obtain ⟨k, cur, hk, rfl, hcur, hown, hb⟩ := hrel
        obtain ⟨g, gc, rfl⟩ := ownB_val hown
        have hcl : cur.length = 64 * k := by rw [hcur]; exact Dk.secs_length hD a k (by omega)
        have Hcur := Lib.hid hcur
        have Hcl := Lib.hid hcl
        have HR : Holds (rdA rb D * F) wr := Holds_below H0 (Nat.le_refl _) hb
        clear hcur hcl
        by_cases hlt : k < c
        · have hl2 := Dk.sec_length hD (i := a + k) (by omega)
          have hsc2 := Dk.secs_succ D a k
          obtain ⟨s, hs⟩ : ∃ s : ByteArray, strV (D.sec (a + k)) = .string s := ⟨_, rfl⟩
          have hsec := RA_Sector hD HR (a + k) (by omega)
          rw [hs, show ((a + k : Nat) : Int) = (a : Int) + (k : Int) from by omega] at hsec
          have Hs := Lib.hid hs
          have HSEC := Lib.hid hsec
          have Hnext : Hid (cur ++ D.sec (a + k) = (D.secs a (k + 1)).flatten) := Lib.hid (by rw [hsc2, Hcur.out])
          have hsum : cur.length + (D.sec (a + k)).length ≤ 100000000 := by have := Hcl.out; omega
          clear hs hsec hl2 hsc2 HR
          go_wp2_with fail
          refine HSEC.out.mono ?_
          rintro e w1 ⟨rfl, rfl⟩
          go_wp2_with (at_builtin; refine append_text w.heap.size rfl (.tmp 46) (.tmp 51) rfl _ cur (D.sec (a + k)) s Hs.out rfl rfl hown hb.size hsum ?_; intro v1 w1 hown1 hb1)
          have hb2 := hb.trans hb1
          go_roundw
          case rel => exact ⟨k + 1, cur ++ D.sec (a + k), by omega, by go_num, Hnext.out, hown1, hb2⟩
          case measure => simp [intOf]; omega
        · obtain rfl : k = c := by omega
          have hstr := ownB_string hown
          have Hfin : Hid (strV (D.secs a k).flatten = strV cur) := Lib.hid (by rw [Hcur.out])
          unfold strV at hstr
          go_wp2_with fail
          go_ret2
          rw [Hfin.out]
          exact .mk HR (Keeps.below hb)

/-! ### Arm -/
/-- 'append([]int{}, v...)' -/
theorem append_ints {W : World} {ops : Array Oper} {rest : List Oper} {o : Oper} {a : Act} {Q : Exit → Act → World → Prop} {F : HProp} (hgd : o.guard = none) (s x : Operand)
    (ho : o.op = .call { callee := .builtin .append, args := #[s, x], argTypes := #[38, 38] }) (g : Nat) (hg : g = W.heap.size) (ka : Option Addr) (kc : Nat) (xs : List Int) (hs : a.eval s = .slice (some ⟨g, 0, none⟩) 0 0) (hx : a.eval x = .slice ka xs.length kc)
    (hr : RInts W (.slice ka xs.length kc) xs) (hb : xs.length * 8 ≤ 140737488355328) (H : Holds F W)
    (hK : ∀ a1 c1 w1, Holds (intsA (.slice a1 xs.length c1) xs * F) w1 → Keeps W w1 → wpList Tryz.prog ops Q rest (a.put o.dst (.slice a1 xs.length c1)) w1) : wpList Tryz.prog ops Q (o :: rest) a (W.alloc (.cells #[] 3)) := by
  obtain ⟨i0, hi, hz0, hz1, hz2⟩ := info_parts Tryz_infoInt
  subst hg
  obtain ⟨a2, c2, hv, h1, h2, h3⟩ := hr
  simp only [Value.slice.injEq] at hv
  obtain ⟨rfl, _, rfl⟩ := hv
  have H1 := H.alloc_only (.cells #[] 3)
  have K1 := (Keeps.refl W).alloc (.cells #[] 3)
  have hb0 : Below W.heap.size W (W.alloc (.cells #[] 3)) := (Below.refl _ W).alloc (Nat.le_refl _) _
  by_cases hx0 : xs = []
  · subst hx0
    have hsrc : Src Tryz.prog i0.size 38 (.slice ka 0 kc) 0 [] (W.alloc (.cells #[] 3)) := by
      cases ka with
      | none => exact Src.ofNil _ Tryz.underlying38 kc
      | some ad => exact Src.ofSlice _ Tryz.underlying38 ad 0 kc [] (by simp) (fun j u h => by simp at h) (fun u h => by cases h)
    have hrun := run_append_room_src (P := Tryz.prog) (W.alloc (.cells #[] 3)) 38 38 o.type 3 i0 Tryz.underlying38 hi W.heap.size 0 0 0 (.slice ka 0 kc) 0 [] hsrc (Nat.le_refl _) (fun j h => by simp at h) (fun j h => by simp at h)
    refine Lib.wpList_append_run _ hgd s x _ _ ho _ _ hs hx _ _ hrun ?_
    refine hK (some ⟨W.heap.size, 0, none⟩) 0 _ ?_ K1
    obtain ⟨y, hy, hF⟩ := H1
    exact ⟨y, hy, fun _ => none, y, fun _ => .inl rfl, by funext i; simp [union], .inl ⟨_, _, ⟨rfl, rfl⟩, rfl⟩, hF⟩
  · have hpos : 0 < xs.length := List.length_pos_iff.2 hx0
    obtain ⟨ad, rfl, hc⟩ := h3 hpos
    have hnew : ∀ j u, (xs.map (Value.int .i64))[j]? = some u → (W.alloc (.cells #[] 3)).cell? (ad.add j) = some u := by
      intro j u hj
      have hjl : j < xs.length := by
        have := (List.getElem?_eq_some_iff.1 hj).1
        simpa using this
      have h4 := hc j hjl
      rw [List.getElem?_map, List.getElem?_eq_getElem hjl] at hj
      rw [List.getD_eq_getElem?_getD, List.getElem?_eq_getElem hjl] at h4
      have h5 := hb0.cell (cell_lt h4).1
      rw [h5, h4]
      exact hj
    refine wpList_append_grows (W.alloc (.cells #[] 3)) hgd s x 38 ho 3 i0 (.int .i64 0) 1 8 Tryz.underlying38 hi hz0 hz1 hz2 rfl (by decide) (some ⟨W.heap.size, 0, none⟩) 0 0 [] hs (fun h => by cases h) rfl (fun q hq j u hj => by simp at hj) ad xs.length kc (xs.map (Value.int .i64)) hx (by simp) hnew (fun u hu => by
      obtain ⟨z, _, rfl⟩ := List.mem_map.1 hu
      rfl) (by omega) (by unfold maxLen; omega) (by omega) ?_
    intro v1 w1 ho1 hg1
    rw [Nat.zero_add, List.nil_append] at ho1
    have hb1 : Below W.heap.size W w1 := hb0.grown hg1 (by simp) (fun r hr => by cases hr)
    have hown := holds_own_ints H hb1 ho1 (by simp)
    obtain ⟨a', c', hv, _⟩ := intsA_cells hown
    subst hv
    exact hK a' c' w1 hown (Keeps.below hb1)

theorem RArm_calls {rb : Nat} {D : Dk} {F : HProp} {w : World} (H : Holds (rdA rb D * F) w) (m : Int) {ka : Value} {xs : List Int} (hr : Reads F ka xs) (hb : xs.length * 8 ≤ 140737488355328) :
    Calls Tryz.prog 30 #[.pointer (some ⟨rb, 0, none⟩), .int .i64 m, ka] w (Ret (.int .i64 (D.arm m xs).2) (rdA rb (D.arm m xs).1 * F) w) := by
  have H0 := H
  obtain ⟨a, c, rfl, _⟩ := hr w H.right
  have HRD := Lib.hid hr
  clear hr
  obtain ⟨kv, H⟩ := rdA_B.1 H
  obtain ⟨sv, wv, H⟩ := rdB_open.1 H
  have c4 := H.cell 4 (v := .bool D.dead) rfl
  cases hdead : D.dead with
  | true =>
    rw [hdead] at c4
    have hfin : Ret (.int .i64 (D.arm m xs).2) (rdA rb (D.arm m xs).1 * F) w (.returned (.int .i64 2)) w := by
      simp only [Dk.arm, hdead, if_true]; exact .mk H0 (.refl _)
    clear hdead
    go_enter Tryz.func30, Tryz.ntmps30
    go_wp2_with fail
    go_ret
    exact hfin
  | false =>
    rw [hdead] at c4
    by_cases hm : m < 0
    · have hfin : Ret (.int .i64 (D.arm m xs).2) (rdA rb (D.arm m xs).1 * F) w (.returned (.int .i64 1)) w := by
        simp only [Dk.arm, hdead, hm, if_true, Bool.false_eq_true, if_false]; exact .mk H0 (.refl _)
      clear hdead
      go_enter Tryz.func30, Tryz.ntmps30
      go_wp2_with fail
      go_ret
      exact hfin
    · have hres : D.arm m xs = ({ D with armed := m, kept := xs }, 0) := by
        simp only [Dk.arm, hdead, hm, Bool.false_eq_true, if_false]
      rw [hres]
      clear hres hdead
      have c2 := H.cell 2 (v := .int .i64 D.armed) rfl
      have f2 := H.unfz 2
      have c3 := H.cell 3 (v := kv) rfl
      have f3 := H.unfz 3
      have H2 := H.setCell (off := 2) (.int .i64 m)
      have K2 := (Keeps.refl w).setCell ⟨rb, 2, none⟩ (.int .i64 m)
      have hri := HRD.out _ H2.right.right.right.right
      have hm0 : 0 ≤ m := by omega
      have HRI := Lib.hid hri
      clear hri
      go_enter Tryz.func30, Tryz.ntmps30
      go_wp2_with (at_builtin; refine append_ints rfl (.tmp 18) (.tmp 19) rfl w.heap.size (World.size_setCell _ _ _).symm a c xs rfl rfl HRI.out hb H2 ?_; intro a1 c1 w1 H3 K3; have H4 := H3.right; have q3 := H4.cell 3 (v := kv) rfl; have p3 := H4.unfz 3)
      go_ret
      have e1 : ∀ N A B C E G : HProp, N * (A * (B * (C * (E * G)))) = A * (B * (C * (N * (G * E)))) := by intro N A B C E G; ac_rfl
      rw [e1] at H3
      have H5 := H3.setCell (off := 3) (.slice a1 xs.length c1)
      have e2 : ∀ A B C N G E : HProp, A * (B * (C * (N * (G * E)))) = E * (A * (B * (C * (N * G)))) := by intro A B C N G E; ac_rfl
      rw [e2] at H5
      exact .mk (rdA_B.2 ⟨_, rdB_open.2 ⟨sv, wv, H5.right⟩⟩) ((K2.trans K3).setCell _ _)
end Go.Proofs.YtmeepegllkhlcaaGreat
