/-
  The document's disk: which sectors are unsafe, what would be left.
-/
import Derived.Test.YtmeepegllkhlcaaGreatR17
namespace Go.Proofs.YtmeepegllkhlcaaGreat
open Go Go.RowKit Go.Maps

theorem Tryz_infoInt : (Tryz.prog.info? 3).map (fun i => (i.zero, i.size, i.bytes)) = some (some (.int .i64 0), 1, 8) := by kernel_rfl

/-- Ints in a row of the call's own. -/
def ownI (B : Nat) (v : Value) (l : List Int) (w : World) : Prop := ∃ g c, v = .slice (some ⟨g, 0, none⟩) l.length c ∧ B ≤ g ∧ w.ownsRow B 3 1 v l.length (l.map (Value.int .i64))
theorem ownI_made {B : Nat} {w : World} (h : B ≤ w.heap.size) : ownI B (.slice (some ⟨w.heap.size, 0, none⟩) 0 0) [] (w.alloc (.cells #[] 3)) :=
  ⟨_, _, rfl, h, World.ownsRow_made w #[] 0 h (Nat.zero_le _) rfl⟩
theorem ownI_val {B : Nat} {v : Value} {l : List Int} {w : World} (h : ownI B v l w) : ∃ g c, v = .slice (some ⟨g, 0, none⟩) l.length c := by
  obtain ⟨g, c, hv, _⟩ := h
  exact ⟨g, c, hv⟩
/-- 'append(v, x)', v a row of ints of the call's own. -/
theorem append_int {W : World} {ops : Array Oper} {rest : List Oper} {o : Oper} {a : Act} {Q : Exit → Act → World → Prop} (B : Nat) (hgd : o.guard = none) (s x : Operand)
    (ho : o.op = .call { callee := .builtin .append, args := #[s, x], argTypes := #[38, 38] }) (v : Value) (cur : List Int) (y : Int) (hs : a.eval s = v) (hx : a.eval x = .slice (some ⟨W.heap.size, 0, none⟩) 1 1)
    (hown : ownI B v cur W) (hB : B ≤ W.heap.size) (hl : cur.length ≤ 1000000000)
    (hK : ∀ v1 w1, ownI B v1 (cur ++ [y]) w1 → Below B W w1 → wpList Tryz.prog ops Q rest (a.put o.dst v1) w1) : wpList Tryz.prog ops Q (o :: rest) a (W.alloc (.cells #[.int .i64 y] 3)) := by
  obtain ⟨i0, hi, hz0, hz1, hz2⟩ := info_parts Tryz_infoInt
  obtain ⟨g, c, rfl, hg, hrow⟩ := hown
  refine wpList_append_own (W.alloc (.cells #[.int .i64 y] 3)) hgd s x 38 ho B 3 i0 (.int .i64 0) 1 8 Tryz.underlying38 hi hz0 hz1 hz2 rfl (by decide) _ cur.length (cur.map (Value.int .i64)) hs (hrow.alloc _) ⟨W.heap.size, 0, none⟩ 1 1 [.int .i64 y] hx rfl ?_ ?_ ?_ ?_ ?_ ?_
  · intro j u hj
    match j, hj with
    | 0, hj =>
      simp at hj; subst hj
      have hh : (W.alloc (.cells #[.int .i64 y] 3)).heap[W.heap.size]? = some (.cells #[.int .i64 y] 3) := World.alloc_heap_new W _
      have ha : (⟨W.heap.size, 0, none⟩ : Addr).add 0 = ⟨W.heap.size, 0, none⟩ := rfl
      rw [ha]
      unfold World.cell?
      rw [hh]
      rfl
  · intro u hu; simp at hu; subst hu; rfl
  · unfold maxLen; omega
  · omega
  · simp; omega
  · intro v1 w1 h1 hg1 hnil
    have hb : Below B W w1 := ((Below.refl B W).alloc hB _).trans (below_of_grown (hrow.alloc _) hg1 (by simp; omega))
    have h2 : w1.ownsRow B 3 1 v1 (cur ++ [y]).length ((cur ++ [y]).map (Value.int .i64)) := by simpa using h1
    refine hK v1 w1 ?_ hb
    rcases h2.2 with ⟨hv, h0⟩ | ⟨g2, c2, cur2, hv, hb2, _⟩
    · simp at h0
    · exact ⟨g2, c2, hv, hb2, h2⟩

/-! ### Unsafe -/
theorem unsafesI_to {D : Dk} (hD : D.Ok) : D.unsafesI = ((List.range D.n).filter fun i => (D.w? i).isSome).map Int.ofNat := by
  unfold Dk.unsafesI Dk.unsafes
  rw [hD.wr]; rfl
theorem filter_snoc (p : Nat → Bool) (k : Nat) : ((List.range (k + 1)).filter p).map Int.ofNat = ((List.range k).filter p).map Int.ofNat ++ if p k then [(k : Int)] else [] := by
  rw [List.range_succ, List.filter_append, List.map_append]
  congr 1
  simp only [List.filter_cons, List.filter_nil]
  split <;> simp

theorem RUnsafe_calls {rb : Nat} {kv : Value} {D : Dk} {F : HProp} {w : World} (hD : D.Ok) (H : Holds (rdB rb kv D * F) w) :
    Calls Tryz.prog 18 #[.pointer (some ⟨rb, 0, none⟩)] w fun e w' => ∃ v, Ret v (intsA v D.unsafesI * (rdB rb kv D * F)) w e w' := by
  have hn : D.n ≤ 4096 := hD.most
  have hb0 : Below w.heap.size w (w.alloc (.cells #[] 3)) := (Below.refl _ w).alloc (Nat.le_refl _) _
  have how0 := ownI_made (Nat.le_refl w.heap.size)
  go_enter Tryz.func18, Tryz.ntmps18
  go_wp2_with fail
  go_loopw [3, 4] (fun lv i wr => ∃ (k : Nat) (xs : List Int), k ≤ D.n ∧ i = .int .i64 k ∧ xs = ((List.range k).filter fun i => (D.w? i).isSome).map Int.ofNat ∧ ownI w.heap.size lv xs wr ∧ Below w.heap.size w wr) (fun _ i _ => D.n - (intOf i).toNat)
  case atStart => exact ⟨0, [], Nat.zero_le _, rfl, rfl, how0, hb0⟩
  case round =>
    clear how0 hb0
    obtain ⟨k, xs, hk, rfl, hxs, hown, hb⟩ := hrel
    obtain ⟨g, gc, rfl⟩ := ownI_val hown
    have hxl : xs.length ≤ 1000000000 := by
      rw [hxs, List.length_map]
      have := List.length_filter_le (fun i => (D.w? i).isSome) (List.range k)
      rw [List.length_range] at this
      omega
    have HR : Holds (rdB rb kv D * F) wr := Holds_below H (Nat.le_refl _) hb
    obtain ⟨sv, wv, HX⟩ := rdB_open.1 HR
    obtain ⟨sg, sc, wg, wc, rfl, hsc, rfl, hwc, _, hw⟩ := rd_rows hD HX
    have c1 := HX.cell 1 (v := .slice (some ⟨wg, 0, none⟩) D.n wc) rfl
    have Hxs := Lib.hid hxs
    clear hxs HR HX
    by_cases hlt : k < D.n
    · have d1 := hw k hlt
      have hstep := filter_snoc (fun i => (D.w? i).isSome) k
      rw [← Hxs.out] at hstep
      clear hw
      cases hwi : D.w? k with
      | some t =>
        have h64 : t.length = 64 := by
          have := Dk.sec_length hD hlt
          unfold Dk.sec at this
          rw [hwi] at this
          exact this
        rw [hwi, Option.getD_some] at d1
        simp only [hwi, Option.isSome_some, if_true] at hstep
        obtain ⟨s, hs, hb1, hb2⟩ := strV_ne h64
        rw [hs] at d1
        have Hst := Lib.hid hstep
        clear hwi hs h64 hstep
        go_wp2_with (at_builtin; refine append_int w.heap.size rfl (.tmp 23) (.tmp 25) rfl _ xs (k : Int) rfl rfl hown hb.size hxl ?_; intro v1 w1 hown1 hbb1)
        have hb3 := hb.trans hbb1
        go_roundw
        case rel => exact ⟨k + 1, xs ++ [(k : Int)], by omega, by go_num, Hst.out.symm, hown1, hb3⟩
        case measure => simp [intOf]; omega
      | none =>
        rw [hwi, Option.getD_none] at d1
        simp only [hwi, Option.isSome_none, Bool.false_eq_true, if_false, List.append_nil] at hstep
        have d1' : wr.cell? ⟨wg, k, none⟩ = some (.string ⟨#[]⟩) := d1
        have Hst := Lib.hid hstep
        clear hwi d1 hstep
        go_wp2_with fail
        go_roundw
        case rel => exact ⟨k + 1, xs, by omega, by go_num, Hst.out.symm, hown, hb⟩
        case measure => simp [intOf]; omega
    · obtain rfl : k = D.n := by omega
      have hfin : xs = D.unsafesI := by rw [unsafesI_to hD]; exact Hxs.out
      obtain ⟨_, _, _, _, hrow⟩ := hown
      have hres := holds_own_ints H hb hrow (Nat.le_refl _)
      have Hres : Hid (Holds (intsA (.slice (some ⟨g, 0, none⟩) xs.length gc) D.unsafesI * (rdB rb kv D * F)) wr) := Lib.hid (by rw [← hfin]; exact hres)
      clear hfin hres hrow hw
      go_wp2_with fail
      go_ret
      exact ⟨_, .mk Hres.out (Keeps.below hb)⟩
/-! ### left -/
theorem rowS_unfz {g n c : Nat} {l : List Bs} {F : HProp} {w : World} (h : Holds (rowS (.slice (some ⟨g, 0, none⟩) n c) l * F) w) (j : Nat) : w.frozen? ⟨g, j, none⟩ = false := by
  obtain ⟨g', cap, cur, ⟨hv, _⟩, hp⟩ := rowS_open.1 h
  simp only [Value.slice.injEq, Option.some.injEq, Addr.mk.injEq] at hv
  rw [hv.1.1]
  exact hp.unfz j
/-- 'v[j] = s', v a row of texts of the call's own. -/
theorem rowS_set {g n c : Nat} {l : List Bs} {F : HProp} {w : World} (h : Holds (rowS (.slice (some ⟨g, 0, none⟩) n c) l * F) w) (j : Nat) (hj : j < l.length) (s : Bs) :
    Holds (rowS (.slice (some ⟨g, 0, none⟩) n c) (l.set j s) * F) (w.setCell ⟨g, j, none⟩ (strV s)) := by
  obtain ⟨g', cap, cur, ⟨hv, h1, h2, h3, h4⟩, hp⟩ := rowS_open.1 h
  have hg : g = g' := by
    simp only [Value.slice.injEq, Option.some.injEq, Addr.mk.injEq] at hv
    exact hv.1.1
  subst hg
  have hp2 := hp.setCell (off := j) (strV s)
  refine rowS_open.2 ⟨g, cap, cur.setIfInBounds j (strV s), ⟨by rw [List.length_set]; exact hv, by rw [List.length_set]; exact h1, h2, by simp [h3], ?_⟩, hp2⟩
  rw [List.length_set, Array.toList_setIfInBounds, List.take_set, h4, List.map_set]
/-- 'append([]string{}, v...)' -/
theorem append_strs {W : World} {ops : Array Oper} {rest : List Oper} {o : Oper} {a : Act} {Q : Exit → Act → World → Prop} {F : HProp} (hgd : o.guard = none) (s x : Operand)
    (ho : o.op = .call { callee := .builtin .append, args := #[s, x], argTypes := #[79, 79] }) (g c : Nat) (l : List Bs) (n : Nat) (hs : a.eval s = .slice (some ⟨W.heap.size, 0, none⟩) 0 0) (hx : a.eval x = .slice (some ⟨g, 0, none⟩) n c)
    (H : Holds (rowS (.slice (some ⟨g, 0, none⟩) n c) l * F) W) (hn : n = l.length) (hl : l.length ≤ 4000000) (hpos : 0 < l.length)
    (hK : ∀ v1 w1, Holds (rowS v1 l * (rowS (.slice (some ⟨g, 0, none⟩) n c) l * F)) w1 → Keeps W w1 → wpList Tryz.prog ops Q rest (a.put o.dst v1) w1) : wpList Tryz.prog ops Q (o :: rest) a (W.alloc (.cells #[] 9)) := by
  obtain ⟨i0, hi, hz0, hz1, hz2⟩ := info_parts Tryz_infoStr
  subst hn
  have H1 := H.alloc_only (.cells #[] 9)
  have KW := (Keeps.refl W).alloc (.cells #[] 9)
  obtain ⟨g', cap, hv, hc, hcell⟩ := rowS_cell H1
  have hg : g = g' := by
    simp only [Value.slice.injEq, Option.some.injEq, Addr.mk.injEq] at hv
    exact hv.1.1
  subst hg
  have hnew : ∀ j u, (l.map strV)[j]? = some u → (W.alloc (.cells #[] 9)).cell? ((⟨g, 0, none⟩ : Addr).add j) = some u := by
    intro j u hj
    have hjl : j < l.length := by
      have := (List.getElem?_eq_some_iff.1 hj).1
      simpa using this
    have ha : (⟨g, 0, none⟩ : Addr).add j = ⟨g, j, none⟩ := by unfold Addr.add; split <;> simp_all
    rw [ha, hcell j hjl]
    rw [List.getElem?_map, List.getElem?_eq_getElem hjl] at hj
    rw [List.getD_eq_getElem?_getD, List.getElem?_eq_getElem hjl]
    exact hj
  refine wpList_append_grows (W.alloc (.cells #[] 9)) hgd s x 79 ho 9 i0 (.string ⟨#[]⟩) 1 16 Tryz.underlying79 hi hz0 hz1 hz2 rfl (by decide) (some ⟨W.heap.size, 0, none⟩) 0 0 [] hs (fun h => by cases h) rfl (fun q hq j u hj => by simp at hj) ⟨g, 0, none⟩ l.length c (l.map strV) hx (by simp) hnew (fun u hu => by
    obtain ⟨z, _, rfl⟩ := List.mem_map.1 hu
    rfl) (by omega) (by unfold maxLen; omega) (by omega) ?_
  intro v1 w1 ho1 hg1
  rw [Nat.zero_add, List.nil_append] at ho1
  have hge : ∀ g' n c, v1 = .slice (some ⟨g', 0, none⟩) n c → (W.alloc (.cells #[] 9)).heap.size ≤ g' := by
    intro g' n c hv
    rcases ho1.2 with ⟨_, h0⟩ | ⟨g2, cap2, cur2, hv2, hb2, _⟩
    · omega
    · rw [hv2] at hv
      simp only [Value.slice.injEq, Option.some.injEq, Addr.mk.injEq] at hv
      rw [← hv.1.1]; exact hb2
  refine hK v1 w1 (rowS_of_own ho1 hpos (fun g' n c hv2 _ o' ho' => ?_)) (KW.trans (Keeps.grown hg1))
  exact H1.fresh (hge g' n c hv2) ho' (fun j hj => hg1.block j hj (fun e => by cases e))

theorem unsafes_at {D : Dk} (hD : D.Ok) {k : Nat} (hk : k < D.unsafes.length) : ∃ n t, n < D.n ∧ D.unsafesI.getD k 0 = (n : Int) ∧ D.unsafes.getD k 0 = n ∧ D.w? n = some t := by
  have hm : D.unsafes.getD k 0 ∈ D.unsafes := by
    rw [List.getD_eq_getElem?_getD, List.getElem?_eq_getElem hk]
    exact List.getElem_mem _
  obtain ⟨t, ht⟩ := Option.isSome_iff_exists.1 ((Dk.mem_unsafes hD).1 hm)
  refine ⟨D.unsafes.getD k 0, t, Dk.unsafes_lt hD hm, ?_, rfl, ht⟩
  unfold Dk.unsafesI
  simp [List.getD_eq_getElem?_getD, List.getElem?_map, List.getElem?_eq_getElem hk]
theorem unsafesI_length (D : Dk) : D.unsafesI.length = D.unsafes.length := by unfold Dk.unsafesI; simp

set_option maxRecDepth 100000 in
set_option maxHeartbeats 1000000 in
theorem Rleft_calls {rb : Nat} {kv : Value} {D : Dk} {F : HProp} {w : World} (hD : D.Ok) (H : Holds (rdB rb kv D * F) w) {ka : Value} {xs : List Int} (hr : Reads F ka xs) :
    Calls Tryz.prog 78 #[.pointer (some ⟨rb, 0, none⟩), ka] w fun e w' => ∃ v, Ret v (rowS v (D.left (Dk.comes xs)) * (rdB rb kv D * F)) w e w' := by
  have hn : D.n ≤ 4096 := hD.most
  have hn1 : 1 ≤ D.n := hD.pos
  obtain ⟨a, c, rfl, _⟩ := hr w H.right
  have HRD := Lib.hid hr
  obtain ⟨sv, wv, HX⟩ := rdB_open.1 H
  obtain ⟨sg, sc, wg, wc, rfl, hsc, rfl, hwc, _, _⟩ := rd_rows hD HX
  have c0 := (HX.alloc_only (.cells #[] 9)).cell 0 (v := .slice (some ⟨sg, 0, none⟩) D.n sc) rfl
  rw [sep_left_comm] at HX
  have hun : D.unsafesI.length ≤ 4096 := by
    rw [unsafesI_length]
    have h1 : D.unsafes.length ≤ D.wr.length := by
      have := List.length_filter_le (fun i => (D.w? i).isSome) (List.range D.wr.length)
      rwa [List.length_range] at this
    have h2 : D.wr.length = D.n := hD.wr
    omega
  clear hr H
  go_enter Tryz.func78, Tryz.ntmps78
  go_wp2_with (at_builtin; refine append_strs rfl (.tmp 8) (.tmp 12) rfl sg sc D.safe D.n rfl rfl HX rfl (Nat.le_trans hn (by omega)) hn1 ?_; intro v1 w1 H1 K1)
  clear HX c0
  obtain ⟨g, cap, hv, hcap, _⟩ := rowS_cell H1
  rw [safe_len D] at hv
  subst hv
  have H2 : Holds (rdB rb kv D * (rowS (.slice (some ⟨g, 0, none⟩) D.n cap) D.safe * F)) w1 := by
    refine rdB_open.2 ⟨.slice (some ⟨sg, 0, none⟩) D.n sc, .slice (some ⟨wg, 0, none⟩) D.n wc, ?_⟩
    have e1 : ∀ A B C E G : HProp, A * (B * (C * (E * G))) = C * (B * (E * (A * G))) := by intro A B C E G; ac_rfl
    rw [e1] at H1
    exact H1
  have hu := RUnsafe_calls hD H2
  have HU := Lib.hid hu
  clear hu H1 H2
  go_wp2_with fail
  refine HU.out.mono ?_
  rintro e w2 ⟨lv, rfl, H3, K2⟩
  have K3 := K1.trans K2
  obtain ⟨la, lc, hlv, hlcells⟩ := intsA_cells H3
  subst hlv
  clear HU K1 K2 hlcells
  have hun2 : D.unsafesI.length = D.unsafes.length := unsafesI_length D
  have H4 : Holds (rowS (.slice (some ⟨g, 0, none⟩) D.n cap) (D.leftTo (Dk.comes xs) 0) * (intsA (.slice la D.unsafesI.length lc) D.unsafesI * (rdB rb kv D * F))) w2 := by
    have e1 : ∀ A B C E : HProp, A * (B * (C * E)) = C * (A * (B * E)) := by intro A B C E; ac_rfl
    rw [e1] at H3
    exact H3
  have Hun2 := Lib.hid hun2
  clear H3 hun2
  go_wp2_with fail
  go_loopw [7] (fun i wr => ∃ k : Nat, k ≤ D.unsafesI.length ∧ i = .int .i64 k ∧ Holds (rowS (.slice (some ⟨g, 0, none⟩) D.n cap) (D.leftTo (Dk.comes xs) k) * (intsA (.slice la D.unsafesI.length lc) D.unsafesI * (rdB rb kv D * F))) wr ∧ Keeps w wr) (fun i _ => D.unsafesI.length - (intOf i).toNat)
  case atStart => exact ⟨0, Nat.zero_le _, rfl, H4, K3⟩
  case round =>
    clear H4 K3
    obtain ⟨k, hk, rfl, HR, hKr⟩ := hrel
    by_cases hlt : k < D.unsafesI.length
    · obtain ⟨n, t, hnn, hu1, hu2, hwn⟩ := unsafes_at hD (k := k) (by have := Hun2.out; omega)
      obtain ⟨a2, c2, hv, _, _, hkc⟩ := HRD.out wr HR.right.right.right
      simp only [Value.slice.injEq] at hv
      obtain ⟨rfl, _, rfl⟩ := hv
      by_cases hkl : k < xs.length
      · obtain ⟨ad, rfl, hkc2⟩ := hkc (by omega)
        have hkk := hkc2 k hkl
        obtain ⟨x, hx⟩ : ∃ x, x = xs.getD k 0 := ⟨_, rfl⟩
        rw [← hx] at hkk
        have hcm : Dk.comes xs k = decide (0 < x) := by
          unfold Dk.comes
          rw [hx, List.getD_eq_getElem?_getD, List.getElem?_eq_getElem hkl]; rfl
        by_cases hx0 : 0 < x
        · have hcm2 : Dk.comes xs k = true := by rw [hcm]; simpa using hx0
          have hsecn : D.sec n = t := by simp [Dk.sec, hwn]
          have hstep : D.leftTo (Dk.comes xs) (k + 1) = (D.leftTo (Dk.comes xs) k).set n t := by
            show (if Dk.comes xs k = true then _ else _) = _
            rw [if_pos hcm2, hu2, hsecn]
          have H5 : Holds (rdB rb kv D * (rowS (.slice (some ⟨g, 0, none⟩) D.n cap) (D.leftTo (Dk.comes xs) k) * (intsA (.slice la D.unsafesI.length lc) D.unsafesI * F))) wr := by
            have e1 : ∀ A B C E : HProp, A * (B * (C * E)) = C * (A * (B * E)) := by intro A B C E; ac_rfl
            rw [e1] at HR
            exact HR
          obtain ⟨sv2, wv2, HX⟩ := rdB_open.1 H5
          obtain ⟨sg2, sc2, wg2, wc2, rfl, _, rfl, _, _, hw2⟩ := rd_rows hD HX
          have c1 := HX.cell 1 (v := .slice (some ⟨wg2, 0, none⟩) D.n wc2) rfl
          have d1 := hw2 n hnn
          rw [hwn, Option.getD_some] at d1
          obtain ⟨a3, c3, hv3, hcell⟩ := intsA_cells HR.right
          simp only [Value.slice.injEq] at hv3
          obtain ⟨rfl, _, rfl⟩ := hv3
          obtain ⟨ga, rfl, hcell2⟩ := hcell (by omega)
          have hck := hcell2 k hlt
          rw [hu1] at hck
          have hset := rowS_set (HR.drew) n (by rw [Dk.leftTo_length]; exact hnn) t
          rw [← hstep] at hset
          have hcellg : ∃ u, wr.cell? ⟨g, n, none⟩ = some u := by
            obtain ⟨g9, cap9, hv9, _, hc9⟩ := rowS_cell HR
            have : g = g9 := by
              simp only [Value.slice.injEq, Option.some.injEq, Addr.mk.injEq] at hv9
              exact hv9.1.1
            subst this
            exact ⟨_, hc9 n (by rw [Dk.leftTo_length]; exact hnn)⟩
          obtain ⟨u, hcg⟩ := hcellg
          have hfg := rowS_unfz HR n
          have hKs := (hKr.drew).setCell ⟨g, n, none⟩ (strV t)
          obtain ⟨s, hs⟩ : ∃ s : ByteArray, strV t = .string s := ⟨_, rfl⟩
          rw [hs] at d1 hset hKs
          have Hset := Lib.hid hset
          clear hset hstep hcm hcm2 hsecn hu1 hu2 hwn hs hx hkc hkc2 hcell hcell2 HX H5 hw2 HR hKr
          go_wp2_with fail
          refine region_tail 16 (by kernel_rfl) (by kernel_rfl) ?_
          simp only [List.take_succ_cons, List.take_zero, List.drop_succ_cons, List.drop_zero]
          have c1' : wr.drew.cell? ⟨rb, 1, none⟩ = some (.slice (some ⟨wg2, 0, none⟩) D.n wc2) := c1
          have d1' : wr.drew.cell? ⟨wg2, n, none⟩ = some (.string s) := d1
          have hck' : wr.drew.cell? ⟨ga, k, none⟩ = some (.int .i64 (n : Int)) := hck
          have hcg' : wr.drew.cell? ⟨g, n, none⟩ = some u := hcg
          have hfg' : wr.drew.frozen? ⟨g, n, none⟩ = false := hfg
          clear c1 d1 hck hcg hfg
          generalize wr.drew = w3 at c1' d1' hck' hcg' hfg' hKs Hset ⊢
          have i1 : (k : Int) < ((D.unsafesI.length : Nat) : Int) := by omega
          have i2 : (n : Int) < ((D.n : Nat) : Int) := by omega
          have i3 : (0 : Int) ≤ (k : Int) := by omega
          have i4 : (0 : Int) ≤ (n : Int) := by omega
          have i5 : k < D.unsafesI.length ∧ n < D.n := ⟨hlt, hnn⟩
          repeat still_step
          refine wpStill_nil ?_
          go_wp2_with fail
          go_roundw
          case rel => exact ⟨k + 1, by omega, by go_num, Hset.out, hKs⟩
          case measure => simp [intOf]; omega
        · have hcm2 : Dk.comes xs k = false := by rw [hcm]; simpa using hx0
          have hstep : D.leftTo (Dk.comes xs) (k + 1) = D.leftTo (Dk.comes xs) k := by
            show (if Dk.comes xs k = true then _ else _) = _
            rw [if_neg (by rw [hcm2]; decide)]
          have HN : Hid (Holds (rowS (.slice (some ⟨g, 0, none⟩) D.n cap) (D.leftTo (Dk.comes xs) (k + 1)) * (intsA (.slice la D.unsafesI.length lc) D.unsafesI * (rdB rb kv D * F))) wr) := Lib.hid (by rw [hstep]; exact HR)
          have hx1 : x ≤ 0 := by omega
          clear hstep hcm hcm2 hu1 hu2 hwn hx hkc hkc2 hx0
          go_wp2_with fail
          go_roundw
          case rel => exact ⟨k + 1, by omega, by go_num, HN.out, hKr⟩
          case measure => simp [intOf]; omega
      · have hcm2 : Dk.comes xs k = false := by
          unfold Dk.comes
          rw [List.getElem?_eq_none (by omega)]
        have hstep : D.leftTo (Dk.comes xs) (k + 1) = D.leftTo (Dk.comes xs) k := by
          show (if Dk.comes xs k = true then _ else _) = _
          rw [if_neg (by rw [hcm2]; decide)]
        have HN : Hid (Holds (rowS (.slice (some ⟨g, 0, none⟩) D.n cap) (D.leftTo (Dk.comes xs) (k + 1)) * (intsA (.slice la D.unsafesI.length lc) D.unsafesI * (rdB rb kv D * F))) wr) := Lib.hid (by rw [hstep]; exact HR)
        clear hstep hcm2 hu1 hu2 hwn hkc
        go_wp2_with fail
        go_roundw
        case rel => exact ⟨k + 1, by omega, by go_num, HN.out, hKr⟩
        case measure => simp [intOf]; omega
    · obtain rfl : k = D.unsafesI.length := by omega
      have hfin : D.leftTo (Dk.comes xs) D.unsafesI.length = D.left (Dk.comes xs) := by unfold Dk.left; rw [unsafesI_length]
      have HN : Hid (Holds (rowS (.slice (some ⟨g, 0, none⟩) D.n cap) (D.left (Dk.comes xs)) * (rdB rb kv D * F)) wr) := Lib.hid (by
        rw [← hfin]
        rw [sep_left_comm] at HR
        exact HR.right)
      clear hfin HR
      go_wp2_with fail
      go_ret
      exact ⟨_, .mk HN.out hKr⟩

/-! ### After, die -/
theorem RAfter_calls {rb : Nat} {kv : Value} {D : Dk} {F : HProp} {w : World} (hD : D.Ok) (H : Holds (rdB rb kv D * F) w) {ka : Value} {xs : List Int} (hr : Reads F ka xs) :
    Calls Tryz.prog 40 #[.pointer (some ⟨rb, 0, none⟩), ka] w (Ret (strV (D.after xs).flatten) (rdB rb kv D * F) w) := by
  have hn : D.n ≤ 4096 := hD.most
  obtain ⟨a, c, rfl, _⟩ := hr w H.right
  have HL := Lib.hid (Rleft_calls hD H hr)
  have hlen : (D.left (Dk.comes xs)).length = D.n := Dk.left_length D _
  have hfl : (D.left (Dk.comes xs)).flatten.length ≤ 1000000 := by
    rw [Dk.flatten_length_of _ (Dk.left_64 hD _), hlen]; omega
  have hl4 : (D.left (Dk.comes xs)).length ≤ 4096 := by omega
  have Hfl := Lib.hid hfl
  have Hl4 := Lib.hid hl4
  clear hr hlen hfl hl4
  go_enter Tryz.func40, Tryz.ntmps40
  go_wp2_with fail
  refine HL.out.mono ?_
  rintro e w1 ⟨v, rfl, H1, K1⟩
  obtain ⟨g, cap, hv, _⟩ := rowS_cell H1
  subst hv
  have HJ := Lib.hid (Rjoin_calls H1 (reads_rowS _) Hfl.out Hl4.out)
  go_wp2_with fail
  refine HJ.out.mono ?_
  rintro e w2 ⟨rfl, hb⟩
  go_wp2_with fail
  go_ret
  exact .mk ((Holds_below H1 (Nat.le_refl _) hb).right) (K1.trans (Keeps.below hb))
end Go.Proofs.YtmeepegllkhlcaaGreat
