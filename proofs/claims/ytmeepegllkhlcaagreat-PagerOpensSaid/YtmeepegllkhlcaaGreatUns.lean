/-
  The numbers of a disk's unsafe sectors, in rising order: slices.Sorted(maps.Keys(..)) at ints.
-/
import Derived.Test.YtmeepegllkhlcaaGreatDisk
import Derived.Test.YtmeepegllkhlcaaGreatIter
namespace Go.Proofs
open Go.RowKit Go.Maps Go.Sort Go.Shelf
theorem Tryz.sortsA (m : Nat) : AnyZI.SortsIn Tryz.prog Tryz.sortedA_ren Fence.wide m :=
  ⟨fun blk off cap ss W hH hblk hsz => callsIn_wide.2 (AnyM.slices_Sort_int Tryz.sortA blk off cap ss W hH hblk hsz),
   fun p cap W => callsIn_wide.2 (AnyM.slices_Sort_int_none Tryz.sortA p cap W)⟩
end Go.Proofs
namespace Go.Proofs.YtmeepegllkhlcaaGreat
open Go Go.RowKit Go.Maps Go.Sort Go.Shelf
open Go.WideElems (rg Fit)

theorem holds_own_ints {A : HProp} {w w' : World} {base : Nat} {v : Value} {xs : List Int} (h : Holds A w) (hb : Below w.heap.size w w') (ho : w'.ownsRow base 3 1 v xs.length (xs.map (Value.int .i64))) (hbase : w.heap.size ≤ base) :
    Holds (intsA v xs * A) w' := by
  have hA : Holds A w' := h.below hb
  rcases ho.2 with ⟨rfl, h0⟩ | ⟨g, cap, cur, rfl, hg, hh, h1, h2, h3, h4⟩
  · have hx : xs = [] := List.eq_nil_of_length_eq_zero h0
    subst hx
    obtain ⟨x, hx, hA⟩ := hA
    exact ⟨x, hx, fun _ => none, x, fun _ => .inl rfl, by funext i; simp [union], .inl ⟨none, 0, ⟨rfl, rfl⟩, rfl⟩, hA⟩
  · by_cases hx : xs = []
    · subst hx
      obtain ⟨x, hx, hA⟩ := hA
      exact ⟨x, hx, fun _ => none, x, fun _ => .inl rfl, by funext i; simp [union], .inl ⟨_, cap, ⟨rfl, rfl⟩, rfl⟩, hA⟩
    · have hp := h.fresh (k := g) (o := .cells cur 3 (0, 0)) (by omega) hh (fun j hj => hb.block j hj)
      refine hp.imp ?_
      rintro y ⟨a, b, d, rfl, ha, hb⟩
      refine ⟨a, b, d, rfl, .inr ⟨g, cur, cap, ?_⟩, hb⟩
      show (pur _ * pt _ _) a
      rw [pur_sep]
      refine ⟨⟨hx, rfl, h1, by simpa [maxLen] using h2, fun j hj => ?_⟩, ha⟩
      have e1 : (cur.toList.take (xs.length * 1))[j]? = (xs.map (Value.int .i64))[j]? := by rw [h4]
      rw [Nat.mul_one, List.getElem?_take, if_pos hj, List.getElem?_map, List.getElem?_eq_getElem hj] at e1
      rw [Array.getElem?_toList] at e1
      rw [e1]
      simp [List.getElem?_eq_getElem hj]

def Dk.unsafesI (D : Dk) : List Int := D.unsafes.map Int.ofNat
theorem Dk.unsafes_nodup (D : Dk) : D.unsafesI.Nodup := by
  unfold Dk.unsafesI Dk.unsafes
  rw [List.nodup_iff_pairwise_ne, List.pairwise_map]
  refine ((List.pairwise_lt_range).filter _).imp ?_
  intro a b h
  simp only [Int.ofNat_eq_natCast]
  omega
theorem Dk.unsafes_sorted (D : Dk) : D.unsafesI.Pairwise (fun a b => decide (a ≤ b) = true) := by
  unfold Dk.unsafesI Dk.unsafes
  rw [List.pairwise_map]
  refine ((List.pairwise_lt_range).filter _).imp ?_
  intro a b h
  simp; omega
theorem Dk.mem_unsafesI {D : Dk} (x : Int) : x ∈ D.unsafesI ↔ (wrM D (.int .i64 x)).isSome = true := by
  simp only [Dk.unsafesI, Dk.unsafes, Int.ofNat_eq_natCast, List.mem_map, List.mem_filter, List.mem_range, wrM, liftI]
  constructor
  · rintro ⟨i, ⟨hi, h⟩, rfl⟩
    simp [h]
  · intro h
    by_cases h0 : 0 ≤ x
    · rw [if_pos h0] at h
      refine ⟨x.toNat, ⟨?_, by simpa using h⟩, by omega⟩
      rcases Nat.lt_or_ge x.toNat D.wr.length with h1 | h1
      · exact h1
      · simp [Dk.w?, List.getD_eq_getElem?_getD, List.getElem?_eq_none h1] at h
    · simp [h0] at h

set_option maxHeartbeats 1000000 in
theorem Unsafe_calls {db : Nat} {kv : Value} {D : Dk} {F : HProp} {w : World} (hD : D.Ok) (H : Holds (diskB db kv D * F) w) :
    Calls Tryz.prog 17 #[.pointer (some ⟨db, 0, none⟩)] w fun e w' => ∃ v, Ret v (intsA v D.unsafesI * (diskB db kv D * F)) w e w' := by
  have H0 := H
  have hcn : D.cnt ≤ 4096 := Nat.le_trans D.cnt_le (by rw [hD.wr]; exact hD.most)
  obtain ⟨mb, H⟩ := diskB_open.1 H
  have c1 := H.cell 1 (v := .map (some mb)) rfl
  have Hm := H
  rw [sep_left_comm] at Hm
  obtain ⟨es, clock, hmb, hobj⟩ := mapA_heap Hm
  have hown := hobj.owns hmb
  have hsize : Maps.size (datumOf Tryz.prog 3 es) = D.cnt := by
    have : Maps.size (datumOf Tryz.prog 3 es) = es.size := by simp [Maps.size, datumOf, length_sorted]
    rw [this, hobj.size]
  have hbl := hown.lt
  obtain ⟨D0, hD0⟩ : ∃ D0, D0 = datumOf Tryz.prog 3 es := ⟨_, rfl⟩
  have hres : ∀ ss : List Int, ss.Perm (intKeys D0) → (ss.mergeSort fun x y => decide (x ≤ y)) = D.unsafesI := by
    intro ss hp
    have hpm : D.unsafesI.Perm (intKeys D0) := by
      obtain ⟨l, hl, hpw, _⟩ := hown.entries kInt
      rw [hD0, hl]
      refine perm_intKeys hpw (fun p hp => ?_) (Dk.unsafes_nodup D) (fun x => ?_)
      · have hl' : l = (es.toList.map (rg Tryz.prog 3 heldR)).foldr DataW.insert [] := by
          unfold datumOf at hl
          injection hl with hl
          exact hl.symm
        rw [hl', mem_sorted] at hp
        obtain ⟨v, hv⟩ := fit_keys hobj.fit p hp
        obtain ⟨x, _, hx, _⟩ := Maps.keyOf_int_inv Tryz.underlying3 hv
        exact ⟨x, hx⟩
      · rw [Dk.mem_unsafesI]
        have := hobj.has (.int .i64 x)
        rw [← this, hl]
    have e1 := mergeSort_of_perm_i (hp.trans hpm.symm)
    rw [e1]
    exact List.mergeSort_of_pairwise D.unsafes_sorted
  rw [← hD0] at hown hsize
  clear hD0
  have hrf : Holds (diskB db kv D * F) w := H0
  refine (callsIn_wide (n := 6)).1 ?_
  have hseq : SeqGives Fence.wide 2 Tryz.prog 96 #[.pointer (some ⟨w.heap.size, 0, none⟩)] encZ (fun ss => ss.Perm (intKeys D0)) (Maps.size D0) (w.alloc (.cells #[.map (some mb)] 90)) :=
    AnyZI.keys_gives (ρ := Tryz.keysA_ren) { Tryz.keysA with } Fence.wide _ trivial rfl (by omega) w.heap.size mb _ D0 _ (by simp) (by simp) (by
      obtain ⟨es, clock, hb, Ft, hs, hD⟩ := hown
      exact ⟨es, clock, (Below.heap_alloc _ _ mb hbl).trans hb, Ft, hs, hD⟩)
  have cK : ∀ mb W, CallsIn Fence.wide 5 Tryz.prog 62 #[.map mb] W fun e w' => e = .returned (.func (.func 96) #[] #[.pointer (some ⟨W.heap.size, 0, none⟩)]) ∧ w' = W.alloc (.cells #[.map mb] 90) := fun mb W => AnyZI.keys_in Tryz.keysA Fence.wide 5 trivial rfl mb W
  have cS := AnyZI.sorted_in Tryz.sortedA Fence.wide 5 trivial trivial trivial trivial rfl (by omega) (Tryz.sortsA _) (enters_of Tryz.func95 (by kernel_rfl) rfl) 96 #[.pointer (some ⟨w.heap.size, 0, none⟩)] trivial (enters_of Tryz.func96 (by kernel_rfl) rfl) _ _ (by rw [hsize]; unfold maxLen; omega) (by rw [hsize]; omega) _ hseq
  change CallsIn _ _ Tryz.prog 61 _ _ _ at cS
  have hfK : Fence.wide.fn 62 := trivial
  have hfS : Fence.wide.fn 61 := trivial
  clear hsize hseq hmb hobj hown hcn
  refine callsIn_of_wp Tryz.func17 rfl trivial ?_ rfl
  simp only [Tryz.ntmps17, List.size_toArray, List.length_cons, List.length_nil, Nat.reduceAdd, Nat.reduceSub, Array.replicate_succ, Array.replicate_zero, List.push_toArray, List.append_toArray, List.nil_append, List.cons_append]
  gi_wp2_with (first
    | (gi_at_call 62; refine (cK _ _).mono ?_; rintro e w' ⟨rfl, rfl⟩)
    | (gi_at_call 61; refine cS.mono ?_; rintro e w' ⟨v, ss, rfl, hS, hrow, hnil, hb⟩))
  go_ret
  have hb2 : Below w.heap.size w _ := ((Below.refl _ w).alloc (Nat.le_refl _) (.cells #[.map (some mb)] 90)).trans (hb.mono (by simp))
  have hrow2 := ownsRow_base_a hrow (base' := w.heap.size) (by simp)
  refine ⟨v, .mk ?_ (Keeps.below hb2)⟩
  rw [← hres ss hS]
  have hl : (ss.mergeSort fun x y => decide (x ≤ y)).length = ss.length := List.length_mergeSort ss
  refine holds_own_ints hrf hb2 ?_ (Nat.le_refl _)
  rw [hl]
  exact hrow2
end Go.Proofs.YtmeepegllkhlcaaGreat
