/-
  What a disk leaves: the bytes of its safe sectors, some of the unsafe ones laid over them.
-/
import Derived.Test.YtmeepegllkhlcaaGreatUns
import Derived.Lib.ConvBytes
import Derived.Laws.IdiomCopy
import Derived.Lib.AppendStr
namespace Go.Proofs.YtmeepegllkhlcaaGreat
open Go Go.RowKit Go.Maps

/-! ### a row of bytes that a conversion made -/
def rowA (g : Nat) (l : List UInt8) : HProp := ex fun cs : Array Value => ex fun fz : Nat × Nat => pur (l.length ≤ fz.1 ∧ ∀ j, j < l.length → cs[j]? = some (.int .u8 (l.getD j 0).toNat)) * pt g (.cells cs 5 fz)
theorem rowA_open {g : Nat} {l : List UInt8} {F : HProp} {w : World} : Holds (rowA g l * F) w ↔ ∃ cs fz, (l.length ≤ Prod.fst fz ∧ ∀ j, j < l.length → cs[j]? = some (.int .u8 (l.getD j 0).toNat)) ∧ Holds (pt g (.cells cs 5 fz) * F) w := by
  unfold rowA
  rw [holds_ex_sep]
  constructor
  · rintro ⟨cs, h⟩
    rw [holds_ex_sep] at h
    obtain ⟨fz, h⟩ := h
    rw [sep_assoc, holds_pur_sep] at h
    exact ⟨cs, fz, h.1, h.2⟩
  · rintro ⟨cs, fz, h1, h2⟩
    refine ⟨cs, ?_⟩
    rw [holds_ex_sep]
    refine ⟨fz, ?_⟩
    rw [sep_assoc, holds_pur_sep]
    exact ⟨h1, h2⟩
theorem rowA_lt {g : Nat} {l : List UInt8} {F : HProp} {w : World} (h : Holds (rowA g l * F) w) : g < w.heap.size := by
  obtain ⟨cs, fz, _, h⟩ := rowA_open.1 h
  exact h.lt
theorem rowA_cell {g : Nat} {l : List UInt8} {F : HProp} {w : World} (h : Holds (rowA g l * F) w) (j : Nat) (hj : j < l.length) : w.cell? ⟨g, j, none⟩ = some (.int .u8 (l.getD j 0).toNat) ∧ w.frozen? ⟨g, j, none⟩ = false := by
  obtain ⟨cs, fz, ⟨h1, h2⟩, h⟩ := rowA_open.1 h
  refine ⟨h.cell j (h2 j hj), ?_⟩
  simp [World.frozen?, h.here]
  intro h3; omega
/-- '[]byte(s)' -/
theorem rowA_made {F : HProp} {w : World} (h : Holds F w) (l : List UInt8) : Holds (rowA w.heap.size l * F) (Lib.bytesWorld w 5 ⟨l.toArray⟩) := by
  refine rowA_open.2 ⟨_, _, ⟨?_, fun j hj => ?_⟩, h.fresh (Nat.le_refl _) (Lib.bytesWorld_at_new w 5 ⟨l.toArray⟩) (fun j hj => Lib.bytesWorld_at_old w _ _ j hj)⟩
  · simp [Lib.bytesCells]
  · simp [Lib.bytesCells, Array.getElem?_append, hj, List.getD_eq_getElem?_getD]
theorem keeps_bytesWorld (w : World) (e : TypeId) (s : ByteArray) : Keeps w (Lib.bytesWorld w e s) := ⟨rfl, rfl, rfl, by rw [Lib.bytesWorld_size]; omega⟩
/-- 'string(b)' -/
theorem run_row_string {g c : Nat} {l : List UInt8} {F : HProp} {w : World} (h : Holds (rowA g l * F) w) : (convert 60 9 (.slice (some ⟨g, 0, none⟩) l.length c)).run Tryz.prog w = .ok (strV l) w := by
  have := run_convert_bytes_arg w 60 5 Tryz.underlying60 Tryz.underlying5 g 0 l.length c (l.map fun b => (b.toNat : Int)) (by simp) (fun i hi => by
    rw [Nat.zero_add, (rowA_cell h i hi).1]
    simp [List.getD_eq_getElem?_getD, List.getElem?_eq_getElem hi]) 9 Tryz.underlying9
  rw [this]
  have e1 : (l.map fun b => (b.toNat : Int)).map (fun n => UInt8.ofNat n.toNat) = l := by
    rw [List.map_map]
    conv => rhs; rw [← List.map_id l]
    apply List.map_congr_left
    intro b _
    simp
  have e2 : strOfNums (l.map fun b => (b.toNat : Int)) = ⟨l.toArray⟩ := by
    unfold strOfNums; rw [e1]
  rw [e2]; rfl
/-- 'copy(b[o:], s)', s a string. -/
theorem run_copy_str {g o n c : Nat} {l : List UInt8} {F : HProp} {w : World} (h : Holds (rowA g l * F) w) (s : List UInt8) (hn : s.length ≤ n) (hf : o + s.length ≤ l.length) (ty : TypeId) :
    (Builtin.copy_ #[60, 9] ty #[.slice (some ⟨g, o, none⟩) n c, strV s]).run Tryz.prog w = .ok (.int .i64 (s.length : Int)) (w.setCells g o (Lib.strCells ⟨s.toArray⟩)) := by
  have hsz : (⟨s.toArray⟩ : ByteArray).size = s.length := by simp [ByteArray.size]
  have hst := run_storeCells_cells (P := Tryz.prog) g o (Lib.strCells ⟨s.toArray⟩) 0 w
    (fun j hj => by rw [Lib.strCells_length, hsz] at hj; rw [Nat.add_zero, (rowA_cell h (o + j) (by omega)).1]; rfl)
    (fun j hj => by rw [Lib.strCells_length, hsz] at hj; rw [Nat.add_zero]; exact (rowA_cell h (o + j) (by omega)).2) (Lib.strCells_oneCell _)
  have hinf : (sizeOf 5).run Tryz.prog w = .ok 1 w := by kernel_rfl
  have hmin : Nat.min (⟨s.toArray⟩ : ByteArray).size n = (⟨s.toArray⟩ : ByteArray).size := by rw [hsz]; exact Nat.min_eq_left hn
  have hfc := Lib.run_firstCells_string (P := Tryz.prog) w 1 ⟨s.toArray⟩
  have hmin' : s.length.min n = s.length := Nat.min_eq_left hn
  rw [hsz] at hfc
  unfold strV
  simp only [Nat.add_zero] at hst
  simp [Builtin.copy_, hst, goInt, hsz, Result.andThen, run_underlying Tryz.underlying60, Builtin.lenOf, hmin', hinf, hfc]
theorem heap_setCells (w : World) (g : Nat) : ∀ (vs : List Value) (o : Nat) (w : World) (i : Nat), i ≠ g → (w.setCells g o vs).heap[i]? = w.heap[i]?
  | [], _, _, _, _ => rfl
  | v :: r, o, w, i, hi => by
    rw [World.setCells, heap_setCells w g r (o + 1) _ i hi]
    exact Below.heap_setCell _ _ _ _ hi
theorem heap_setCells_here (g : Nat) (T : TypeId) (fz : Nat × Nat) : ∀ (vs : List Value) (o : Nat) (w : World) (cs : Array Value), w.heap[g]? = some (.cells cs T fz) → ∃ cs', (w.setCells g o vs).heap[g]? = some (.cells cs' T fz)
  | [], _, _, cs, h => ⟨cs, h⟩
  | v :: r, o, w, cs, h => by
    rw [World.setCells]
    refine heap_setCells_here g T fz r (o + 1) _ (cs.setIfInBounds o v) ?_
    simp [World.setCell, Array.getElem?_modify, h]
theorem rowA_copied {g o : Nat} {l : List UInt8} {F : HProp} {w : World} (h : Holds (rowA g l * F) w) (s : List UInt8) (hf : o + s.length ≤ l.length) :
    Holds (rowA g (l.take o ++ (s ++ l.drop (o + s.length))) * F) (w.setCells g o (Lib.strCells ⟨s.toArray⟩)) := by
  have h0 := h
  obtain ⟨cs, fz, ⟨h1, h2⟩, h⟩ := rowA_open.1 h
  obtain ⟨cs', hcs'⟩ := heap_setCells_here g 5 fz (Lib.strCells ⟨s.toArray⟩) o w cs h.here
  have hsz : (Lib.strCells ⟨s.toArray⟩).length = s.length := by simp [Lib.strCells]
  have hlen : (l.take o ++ (s ++ l.drop (o + s.length))).length = l.length := by simp; omega
  refine rowA_open.2 ⟨cs', fz, ⟨by rw [hlen]; exact h1, fun j hj => ?_⟩, h.upd hcs' (fun j _ hne => heap_setCells w g _ o w j hne)⟩
  rw [hlen] at hj
  have hcell : (w.setCells g o (Lib.strCells ⟨s.toArray⟩)).cell? ⟨g, j, none⟩ = cs'[j]? := by simp [World.cell?, hcs']
  rw [← hcell]
  by_cases hin : o ≤ j ∧ j < o + s.length
  · obtain ⟨k, rfl⟩ : ∃ k, j = o + k := ⟨j - o, by omega⟩
    have := World.cell?_setCells_in g (Lib.strCells ⟨s.toArray⟩) o w (fun i hi => by rw [hsz] at hi; rw [(rowA_cell h0 (o + i) (by omega)).1]; rfl) k (by rw [hsz]; omega)
    rw [this]
    have hk : k < s.length := by omega
    have e1 : (l.take o ++ (s ++ l.drop (o + s.length))).getD (o + k) 0 = s.getD k 0 := by
      simp only [List.getD_eq_getElem?_getD]
      rw [List.getElem?_append_right (by simp; omega), List.getElem?_append_left (by simp; omega)]
      congr 2; simp; omega
    rw [e1]
    simp [Lib.strCells, List.getD_eq_getElem?_getD, List.getElem?_eq_getElem hk]
  · rw [World.cell?_setCells_out g _ o w ⟨g, j, none⟩ (fun _ _ => by rw [hsz]; show j < o ∨ o + s.length ≤ j; omega), (rowA_cell h0 j hj).1]
    congr 4
    simp only [List.getD_eq_getElem?_getD]
    by_cases hlt : j < o
    · rw [List.getElem?_append_left (by simp; omega), List.getElem?_take, if_pos hlt]
    · rw [List.getElem?_append_right (by simp; omega), List.getElem?_append_right (by simp; omega), List.getElem?_drop]
      congr 2; simp; omega
theorem keeps_setCells (g : Nat) : ∀ (vs : List Value) (o : Nat) (w : World), Keeps w (w.setCells g o vs)
  | [], _, w => .refl w
  | v :: r, o, w => by rw [World.setCells]; exact ((Keeps.refl w).setCell _ _).trans (keeps_setCells g r (o + 1) _)

theorem run_bytes_from {g off n c m : Nat} (hm : m ≤ n) (hc : m < c) (w : World) : (Instr.slice 60 (.slice (some ⟨g, off, none⟩) n c) (some (.int .i64 (m : Int))) none none).run Tryz.prog w = .ok (.slice (some ⟨g, off + m, none⟩) (n - m) (c - m)) w := by
  have hi : (sizeOf 5).run Tryz.prog w = .ok 1 w := by kernel_rfl
  have hel : Tryz.prog.elem 60 = 5 := by simp [Program.elem, Tryz.underlying60]
  have hu : Tryz.prog.underlying 60 = some (.slice (Tryz.prog.elem 60)) := by rw [hel]; exact Tryz.underlying60
  rw [run_slice_l w 60 (some ⟨g, off, none⟩) n c hu .i64 (m : Int) (Int.natCast_nonneg _) (by omega), hel, hi]
  have hne : c ≠ m := by omega
  have hne' : ¬ c - m = 0 := by omega
  simp [sliced, Result.andThen, Addr.add, hne, hne']
theorem wpList_copy_run {P : Program} {w w' : World} {ops : Array Oper} {rest : List Oper} {o : Oper} {a : Act} {Q : Exit → Act → World → Prop} (hg : o.guard = none) (d s : Operand) (dT sT : TypeId)
    (ho : o.op = .call { callee := .builtin .copy, args := #[d, s], argTypes := #[dT, sT] }) (vd vs r : Value) (hd : a.eval d = vd) (hs : a.eval s = vs) (hrun : (Builtin.copy_ #[dT, sT] o.type #[vd, vs]).run P w = .ok r w')
    (h : wpList P ops Q rest (a.put o.dst r) w') : wpList P ops Q (o :: rest) a w := by
  refine wpList_plain hg fun K hK => ?_
  unfold Oper.wp
  simp [execOp, ho, resolve, invoke, builtin, hd, hs, hrun, Result.andThen]
  exact hK _ _ h

/-! ### left -/
theorem intsA_cells {v : Value} {xs : List Int} {F : HProp} {w : World} (h : Holds (intsA v xs * F) w) : ∃ (a : Option Addr) (c : Nat), v = .slice a xs.length c ∧ (0 < xs.length → ∃ g, a = some ⟨g, 0, none⟩ ∧ ∀ j, j < xs.length → w.cell? ⟨g, j, none⟩ = some (.int .i64 (xs.getD j 0))) := by
  obtain ⟨x, hx, a, b, d, rfl, h1, hF⟩ := h
  rcases h1 with ⟨ad, c, h1⟩ | ⟨g, cs, c, h1⟩
  · obtain ⟨⟨rfl, rfl⟩, _⟩ := h1
    exact ⟨ad, c, rfl, fun hp => by simp at hp⟩
  · have h2 : (pur _ * pt g (.cells cs 3 (0, 0))) a := h1
    rw [pur_sep] at h2
    obtain ⟨⟨hne, rfl, hc, hcm, hcell⟩, hp⟩ := h2
    have hat : w.heap[g]? = some (.cells cs 3 (0, 0)) := by
      refine hx g _ ?_
      rw [show a = _ from hp]
      simp [union]
    exact ⟨_, c, rfl, fun _ => ⟨g, rfl, fun j hj => by simp [World.cell?, hat, hcell j hj]⟩⟩

set_option maxRecDepth 100000 in
set_option maxHeartbeats 1000000 in
/-- 'd.left(f)', f a function value that tells c j at j, and turns nothing. -/
theorem left_calls {db : Nat} {kv : Value} {D : Dk} {F : HProp} {w : World} (hD : D.Ok) (H : Holds (diskB db kv D * F) w) (K : FuncId) (caps : Array Value) (c : Nat → Bool)
    (hK : ∀ args w, (callFunc K args).run Tryz.prog w = .ok (.enter K args) w)
    (hc : ∀ (j : Nat) (w' : World), j ≤ 4096 → Holds F w' → Calls Tryz.prog K (#[.int .i64 (j : Int)] ++ caps) w' fun e w'' => e = .returned (.bool (c j)) ∧ w' = w'') :
    Calls Tryz.prog 58 #[.pointer (some ⟨db, 0, none⟩), .func (.func K) #[] caps] w (Ret (strV (D.left c).flatten) (diskB db kv D * F) w) := by
  have hn : D.n ≤ 4096 := hD.most
  have H0 := H
  obtain ⟨mb, H⟩ := diskB_open.1 H
  have c0 := H.cell 0 (v := .string ⟨D.safe.flatten.toArray⟩) rfl
  have hconv := Lib.run_convert_string_bytes (P := Tryz.prog) w 9 60 5 ⟨D.safe.flatten.toArray⟩ Tryz.underlying9 Tryz.underlying60 Tryz.underlying5
  have hR := rowA_made H0 D.safe.flatten
  have hKp := keeps_bytesWorld w 5 ⟨D.safe.flatten.toArray⟩
  obtain ⟨cp, hcp⟩ : ∃ cp, cp = grownCap w (⟨D.safe.flatten.toArray⟩ : ByteArray).size 0 5 := ⟨_, rfl⟩
  have hcple := grownCap_ge w (⟨D.safe.flatten.toArray⟩ : ByteArray).size 0 5
  rw [← hcp] at hcple
  obtain ⟨W, hW⟩ : ∃ W, W = Lib.bytesWorld w 5 ⟨D.safe.flatten.toArray⟩ := ⟨_, rfl⟩
  rw [← hcp, ← hW] at hconv
  rw [← hW] at hR hKp
  clear hW hcp
  obtain ⟨g, hg⟩ : ∃ g, g = w.heap.size := ⟨_, rfl⟩
  rw [← hg] at hconv hR
  have hsz : (⟨D.safe.flatten.toArray⟩ : ByteArray).size = 64 * D.n := by rw [size_flat, Dk.image_length hD]
  rw [hsz] at hconv hcple
  clear hsz hg
  go_enter Tryz.func58, Tryz.ntmps58
  go_wp2_with fail
  have hR2 : Holds (diskB db kv D * (rowA g D.safe.flatten * F)) W := by rw [sep_left_comm]; exact hR
  refine (Unsafe_calls hD hR2).mono ?_
  rintro e W1 ⟨v, rfl, H1, K1⟩
  obtain ⟨a, cp2, rfl, _⟩ := intsA_cells H1
  have K2 := hKp.trans K1
  obtain ⟨xs, hxs⟩ : ∃ xs, xs = D.unsafesI := ⟨_, rfl⟩
  rw [← hxs] at H1 ⊢
  have hxl : xs.length ≤ 4096 := by
    rw [hxs]; unfold Dk.unsafesI; rw [List.length_map]
    unfold Dk.unsafes
    have := List.length_filter_le (fun i => (D.w? i).isSome) (List.range D.wr.length)
    rw [List.length_range] at this
    have h1 := hD.wr
    have h2 := hD.most
    omega
  have HX := Lib.hid hxs
  clear hR hR2 hKp K1 hxs hconv c0
  go_wp2_with fail
  go_loopw [16] (fun i wr => ∃ k : Nat, k ≤ xs.length ∧ i = .int .i64 k ∧ Holds (intsA (.slice a xs.length cp2) xs * (diskB db kv D * (rowA g (D.leftTo c k).flatten * F))) wr ∧ Keeps w wr) (fun i _ => xs.length - (intOf i).toNat)
  case atStart => exact ⟨0, Nat.zero_le _, rfl, H1, K2⟩
  case round =>
    clear H1 K2
    obtain ⟨k, hk, rfl, HR, hKr⟩ := hrel
    by_cases hlt : k < xs.length
    · obtain ⟨a', c', hsl, hcells⟩ := intsA_cells HR
      obtain ⟨ga, hga, hcell⟩ := hcells (by omega)
      cases hsl
      subst hga
      have hck := hcell k hlt
      obtain ⟨x, hx⟩ : ∃ x, x = xs.getD k 0 := ⟨_, rfl⟩
      rw [← hx] at hck
      have HF : Holds F wr := HR.right.right.right
      have hcall := hc k wr (by omega) HF
      have HX2 := Lib.hid hx
      clear hx hcell hcells
      cases hcv : c k with
      | false =>
        rw [hcv] at hcall
        have hcv' := Lib.hid hcv
        clear hcv
        go_wp2_with fail
        refine hcall.mono ?_
        rintro e w1 ⟨rfl, rfl⟩
        go_wp2_with fail
        go_roundw
        case rel => exact ⟨k + 1, by omega, by go_num, by unfold Dk.leftTo; rw [hcv'.out]; exact HR, hKr⟩
        case measure => simp [intOf]; omega
      | true =>
        rw [hcv] at hcall
        have hcv' := Lib.hid hcv
        clear hcv
        obtain ⟨n, hn1, hxn, hwn⟩ : ∃ n : Nat, n < D.n ∧ x = (n : Int) ∧ D.unsafes.getD k 0 = n ∧ ∃ t, D.w? n = some t := by
          have h1 : x = ((D.unsafes.getD k 0 : Nat) : Int) := by
            rw [HX2.out, HX.out]
            unfold Dk.unsafesI
            have hk2 : k < D.unsafes.length := by
              have := hlt
              rw [HX.out] at this
              simpa [Dk.unsafesI] using this
            simp [List.getD_eq_getElem?_getD, List.getElem?_map, List.getElem?_eq_getElem hk2]
          have hk2 : k < D.unsafes.length := by
            have := hlt
            rw [HX.out] at this
            simpa [Dk.unsafesI] using this
          have hm : D.unsafes.getD k 0 ∈ D.unsafes := by
            rw [List.getD_eq_getElem?_getD, List.getElem?_eq_getElem hk2]
            exact List.getElem_mem _
          exact ⟨D.unsafes.getD k 0, Dk.unsafes_lt hD hm, h1, rfl, Option.isSome_iff_exists.1 ((Dk.mem_unsafes hD).1 hm)⟩
        obtain ⟨hun, t, htn⟩ := hwn
        subst hxn
        have hsecn : D.sec n = t := by simp [Dk.sec, htn]
        have ht64 : t.length = 64 := by rw [← hsecn]; exact Dk.sec_length hD hn1
        have HD := HR.right
        obtain ⟨mb2, HD⟩ := diskB_open.1 HD
        have d1 := HD.cell 1 (v := .map (some mb2)) rfl
        have Hm := HD
        rw [sep_left_comm] at Hm
        have hlook := mapA_look Hm.drew kInt Tryz.underlying90 (zeroStr wr.drew) (key := .int .i64 n) (keyInt (by omega) (by omega))
        rw [wrM_at, htn] at hlook
        simp only [Option.map_some, Option.getD_some] at hlook
        clear Hm HD
        have HRow : Holds (rowA g (D.leftTo c k).flatten * (intsA (.slice (some ⟨ga, 0, none⟩) xs.length cp2) xs * (diskB db kv D * F))) wr := by
          have e1 : rowA g (D.leftTo c k).flatten * (intsA (.slice (some ⟨ga, 0, none⟩) xs.length cp2) xs * (diskB db kv D * F)) = intsA (.slice (some ⟨ga, 0, none⟩) xs.length cp2) xs * (diskB db kv D * (rowA g (D.leftTo c k).flatten * F)) := by ac_rfl
          rw [e1]; exact HR
        have hll : (D.leftTo c k).flatten.length = 64 * D.n := by
          have hk2 : k ≤ D.unsafes.length := by
            have := hlt
            rw [HX.out] at this
            simp [Dk.unsafesI] at this
            omega
          rw [Dk.flatten_length_of _ (Dk.leftTo_64 hD c k hk2), Dk.leftTo_length]
        have hcopy := fun ty => run_copy_str (o := n * 64) (n := 64 * D.n - n * 64) (c := cp - n * 64) HRow.drew t (by omega) (by omega) ty
        have hnew := rowA_copied (o := n * 64) HRow.drew t (by omega)
        have hkn := (hKr.drew).trans (keeps_setCells g (Lib.strCells ⟨t.toArray⟩) (n * 64) wr.drew)
        obtain ⟨W2, hW2⟩ : ∃ W2, W2 = wr.drew.setCells g (n * 64) (Lib.strCells ⟨t.toArray⟩) := ⟨_, rfl⟩
        rw [← hW2] at hcopy hnew hkn
        have Hll := Lib.hid hll
        have Hun := Lib.hid hun
        have Hsec := Lib.hid hsecn
        have Ht64 := Lib.hid ht64
        clear hW2 hll hun hsecn ht64 htn HRow HR
        go_wp2_with fail
        refine hcall.mono ?_
        rintro e w1 ⟨rfl, rfl⟩
        go_wp2_with fail
        refine region_tail 10 (by kernel_rfl) (by kernel_rfl) ?_
        simp only [List.take_succ_cons, List.take_zero, List.drop_succ_cons, List.drop_zero]
        have hsl := run_bytes_from (g := g) (off := 0) (n := 64 * D.n) (c := cp) (m := n * 64) (by omega) (by omega) wr.drew
        have d2 : wr.drew.cell? ⟨db, 1, none⟩ = some (.map (some mb2)) := d1
        generalize wr.drew = w2 at hlook hcopy hsl d2 ⊢
        have hwr1 : IntKind.i64.wrap ((n : Int) * 64) = (n : Int) * 64 := IntWalk.i64_in _ (by omega)
        have hcast : ((n * 64 : Nat) : Int) = (n : Int) * 64 := by omega
        rw [hcast, Nat.zero_add] at hsl
        clear hcast d1 hck
        repeat still_step
        refine wpStill_nil ?_
        clear hwr1 hsl hlook
        refine wpList_copy_run rfl _ _ _ _ rfl _ _ _ rfl rfl (hcopy _) ?_
        clear hcopy
        go_wp2_with fail
        go_roundw
        case rel =>
          refine ⟨k + 1, by omega, by go_num, ?_, hkn⟩
          unfold Dk.leftTo
          rw [if_pos hcv'.out, Hun.out, Hsec.out]
          have hk2 : k ≤ D.unsafes.length := by
            have := hlt
            rw [HX.out] at this
            simp [Dk.unsafesI] at this
            omega
          rw [Dk.flatten_set _ (Dk.leftTo_64 hD c k hk2) n (by rw [Dk.leftTo_length]; exact hn1) t Ht64.out, Nat.mul_comm 64 n]
          have e1 : ∀ A B C E : HProp, A * (B * (C * E)) = C * (A * (B * E)) := by intro A B C E; ac_rfl
          rw [e1]; exact hnew
        case measure => simp [intOf]; omega
    · obtain rfl : k = xs.length := by omega
      have hfin : (D.leftTo c xs.length) = D.left c := by
        unfold Dk.left; rw [HX.out]; simp [Dk.unsafesI]
      have hstr : (convert 60 9 (.slice (some ⟨g, 0, none⟩) (64 * D.n) cp)).run Tryz.prog wr = .ok (strV (D.leftTo c xs.length).flatten) wr := by
        have hl : (D.leftTo c xs.length).flatten.length = 64 * D.n := by
          rw [hfin, Dk.flatten_length_of _ (Dk.left_64 hD c), Dk.left_length]
        have HR2 := HR.right
        rw [sep_left_comm] at HR2
        have := run_row_string (c := cp) HR2
        rw [hl] at this
        exact this
      rw [hfin] at hstr HR
      have HE : Holds (diskB db kv D * F) wr := by
        have := HR.right
        rw [sep_left_comm] at this
        exact this.right
      clear hfin HR
      go_wp2_with fail
      go_ret
      exact .mk HE hKr
end Go.Proofs.YtmeepegllkhlcaaGreat
