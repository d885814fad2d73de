/-
  PagerOpens: the walk.
-/
import Derived.Test.YtmeepegllkhlcaaGreatDisks
import Derived.Test.YtmeepegllkhlcaaGreatRow
import Derived.Test.YtmeepegllkhlcaaGreatFit
import Derived.Test.YtmeepegllkhlcaaGreatOps
import Derived.Outline
import Derived.Test.YtmeepegllkhlcaaGreatLax
namespace Go.Proofs.YtmeepegllkhlcaaGreat
open Go Go.RowKit Go.Maps

theorem open_none_ne {D : Dk} {a b x : Int} (h : Pg.open_ D a b = (none, x)) : x ≠ 0 := by
  unfold Pg.open_ at h
  split at h
  · rename_i hc
    injection h with _ h
    rw [← h]; exact hc
  · simp only [] at h
    split at h
    · injection h with _ h
      rw [← h]; decide
    · injection h with h _
      cases h
theorem open_some_zero {D : Dk} {a b x : Int} {p : Pg} (h : Pg.open_ D a b = (some p, x)) : x = 0 := by
  unfold Pg.open_ at h
  split at h
  · injection h with h _
    cases h
  · simp only [] at h
    split at h
    · injection h with h _
      cases h
    · injection h with _ h
      exact h.symm
theorem format_none_ne {D D' : Dk} {a b c x : Int} (h : Pg.format D a b c = (D', none, x)) : x ≠ 0 := by
  unfold Pg.format at h
  split at h
  · rename_i hc
    injection h with _ h
    injection h with _ h
    rw [← h]; exact hc
  · split at h
    · injection h with _ h
      injection h with _ h
      rw [← h]; decide
    · split at h
      · injection h with _ h
        injection h with _ h
        rw [← h]; decide
      · split at h
        · injection h with _ h
          injection h with _ h
          rw [← h]; decide
        · injection h with _ h
          injection h with h _
          cases h
theorem format_some {D D' : Dk} {a b c x : Int} {p : Pg} (h : Pg.format D a b c = (D', some p, x)) : x = 0 ∧ p = Pg.fresh a b c ∧ Pg.check D a b c = 0 := by
  unfold Pg.format at h
  split at h
  · injection h with _ h
    injection h with h _
    cases h
  · rename_i hc
    split at h
    · injection h with _ h
      injection h with h _
      cases h
    · split at h
      · injection h with _ h
        injection h with h _
        cases h
      · split at h
        · injection h with _ h
          injection h with h _
          cases h
        · injection h with _ h
          injection h with h h2
          injection h with h
          exact ⟨h2.symm, h.symm, by simpa using hc⟩
theorem fresh_free (a b c : Int) : (Pg.fresh a b c).free = b.toNat := by
  unfold Pg.free Pg.fresh Pg.used
  simp only [List.contains_nil, Bool.or_false, Bool.not_false]
  rw [List.filter_eq_self.2 (fun _ _ => rfl), List.length_range]

/-- What the law holds: the two disks, its argument. -/
def OA (db rb bw : Nat) (D : Dk) (wc : Array Value) (F : HProp) : HProp := diskA db D * (rdA rb D * (pt bw (.cells wc 24 (0, 0)) * F))

theorem format_ok {D : Dk} (h : D.Ok) (a b c : Int) : (Pg.format D a b c).1.Ok := by
  unfold Pg.format
  split
  · exact h
  · split
    · exact h.write _ _
    · split
      · exact (h.write _ _).write _ _
      · split
        · exact ((h.write _ _).write _ _).sync
        · exact ((h.write _ _).write _ _).sync

theorem fixed_q {A : HProp} {w w' : World} (h : Holds A w' ∧ Keeps w w') : Calls Tryz.prog 8 #[] w' (fun e w'' => e = .returned (.bool true) ∧ Holds A w'' ∧ Keeps w w'') :=
  (fixed_calls h.1).mono fun e w'' h2 => ⟨h2.1, h2.2.1, h.2.trans h2.2.2⟩
theorem root_q {A F : HProp} {w w' : World} {pb db : Nat} {p : Pg} (h : Holds A w' ∧ Keeps w w') (h2 : Holds (pgA pb db p * F) w') {x : Int} (hx : p.root = x) :
    Calls Tryz.prog 9 #[.pointer (some ⟨pb, 0, none⟩)] w' (fun e w'' => e = .returned (.int .i64 x) ∧ Holds A w'' ∧ Keeps w w'') :=
  (Root_calls h2).mono fun e w'' h3 => ⟨by rw [← hx]; exact h3.1, h3.2 ▸ h.1, h3.2 ▸ h.2⟩
theorem from_q {A F : HProp} {w w' : World} {pb db : Nat} {p : Pg} (h : Holds A w' ∧ Keeps w w') (h2 : Holds (pgA pb db p * F) w') :
    Calls Tryz.prog 10 #[.pointer (some ⟨pb, 0, none⟩)] w' (fun e w'' => e = .returned (.int .i64 p.frm) ∧ Holds A w'' ∧ Keeps w w'') :=
  (From_calls h2).mono fun e w'' h3 => ⟨h3.1, h3.2 ▸ h.1, h3.2 ▸ h.2⟩
theorem gen_q {A F : HProp} {w w' : World} {pb db : Nat} {p : Pg} (h : Holds A w' ∧ Keeps w w') (h2 : Holds (pgA pb db p * F) w') {x : Int} (hx : (p.gen : Int) = x) :
    Calls Tryz.prog 11 #[.pointer (some ⟨pb, 0, none⟩)] w' (fun e w'' => e = .returned (.int .i64 x) ∧ Holds A w'' ∧ Keeps w w'') :=
  (Gen_calls h2).mono fun e w'' h3 => ⟨by rw [← hx]; exact h3.1, h3.2 ▸ h.1, h3.2 ▸ h.2⟩
theorem rot3 (A B X Y : HProp) : A * (B * (X * Y)) = X * (A * (B * Y)) := by
  rw [sep_left_comm B X Y, sep_left_comm A X]
theorem rot4 (A B C X Y : HProp) : A * (B * (C * (X * Y))) = X * (A * (B * (C * Y))) := by
  rw [rot3 B C X Y, sep_left_comm A X]
theorem free_q {A B F : HProp} {w w' : World} {pb db n : Nat} {p : Pg} (hp : p.Ok n) {x : Int} (hx : (p.free : Int) = x) (h : Holds (A * (B * (pgA pb db p * F))) w' ∧ Keeps w w') :
    Calls Tryz.prog 14 #[.pointer (some ⟨pb, 0, none⟩)] w' (fun e w'' => e = .returned (.int .i64 x) ∧ Holds (A * (B * (pgA pb db p * F))) w'' ∧ Keeps w w'') := by
  obtain ⟨h1, h2⟩ := h
  rw [rot3] at h1 ⊢
  exact (Free_calls hp h1).mono fun e w'' h3 => ⟨by rw [← hx]; exact h3.1, h3.2.1, h2.trans h3.2.2⟩
theorem image_q {F : HProp} {w w' : World} {db : Nat} {D : Dk} (hD : D.Ok) {S : ByteArray} (hS : strV D.image.flatten = .string S) (h : Holds (diskA db D * F) w' ∧ Keeps w w') :
    Calls Tryz.prog 15 #[.pointer (some ⟨db, 0, none⟩)] w' (fun e w'' => e = .returned (.string S) ∧ Holds (diskA db D * F) w'' ∧ Keeps w w'') := by
  obtain ⟨kv, h1⟩ := diskA_B.1 h.1
  exact (Image_calls hD h1).mono fun e w'' h3 => ⟨by rw [← hS]; exact h3.1, diskA_B.2 ⟨kv, h3.2.1⟩, h.2.trans h3.2.2⟩
theorem rimage_q {A F : HProp} {w w' : World} {rb : Nat} {D : Dk} (hD : D.Ok) {S : ByteArray} (hS : strV D.image.flatten = .string S) (h : Holds (A * (rdA rb D * F)) w' ∧ Keeps w w') :
    Calls Tryz.prog 16 #[.pointer (some ⟨rb, 0, none⟩)] w' (fun e w'' => e = .returned (.string S) ∧ Holds (A * (rdA rb D * F)) w'' ∧ Keeps w w'') := by
  obtain ⟨h1, h2⟩ := h
  rw [sep_left_comm] at h1 ⊢
  obtain ⟨kv, h1⟩ := rdA_B.1 h1
  exact (RImage_calls hD h1).mono fun e w'' h3 => ⟨by rw [← hS]; exact h3.1, rdA_B.2 ⟨kv, h3.2.1⟩, h2.trans h3.2.2⟩
theorem uns_q {F : HProp} {w w' : World} {db : Nat} {D : Dk} (hD : D.Ok) (h : Holds (diskA db D * F) w' ∧ Keeps w w') :
    Calls Tryz.prog 17 #[.pointer (some ⟨db, 0, none⟩)] w' (fun e w'' => ∃ u, e = .returned u ∧ (∃ a c, u = .slice a D.unsafesI.length c) ∧ Holds (diskA db D * F) w'' ∧ Keeps w w'') := by
  obtain ⟨kv, h1⟩ := diskA_B.1 h.1
  refine (Unsafe_calls hD h1).mono fun e w'' h3 => ?_
  obtain ⟨v, he, h4, k⟩ := h3
  obtain ⟨a, c, hv, _⟩ := intsA_cells h4
  exact ⟨v, he, ⟨a, c, hv⟩, diskA_B.2 ⟨kv, h4.right⟩, h.2.trans k⟩
theorem runsf_q {A F : HProp} {w w' : World} {rb : Nat} {D : Dk} (hD : D.Ok) (h : Holds (A * (rdA rb D * F)) w' ∧ Keeps w w') :
    Calls Tryz.prog 18 #[.pointer (some ⟨rb, 0, none⟩)] w' (fun e w'' => ∃ u, e = .returned u ∧ (∃ a c, u = .slice a D.unsafesI.length c) ∧ Holds (A * (rdA rb D * F)) w'' ∧ Keeps w w'') := by
  obtain ⟨h1, h2⟩ := h
  rw [sep_left_comm] at h1 ⊢
  obtain ⟨kv, h1⟩ := rdA_B.1 h1
  refine (RUnsafe_calls hD h1).mono fun e w'' h3 => ?_
  obtain ⟨v, he, h4, k⟩ := h3
  obtain ⟨a, c, hv, _⟩ := intsA_cells h4
  exact ⟨v, he, ⟨a, c, hv⟩, rdA_B.2 ⟨kv, h4.right⟩, h2.trans k⟩

/-- The same, with the two pagers. -/
def OP (db rb bw pb qb : Nat) (p : Pg) (D : Dk) (wc : Array Value) (F : HProp) : HProp := diskA db D * (rdA rb D * (pgA pb db p * (rpA qb rb p * (pt bw (.cells wc 24 (0, 0)) * F))))
theorem OP_rp {db rb bw pb qb : Nat} {p : Pg} {D : Dk} {wc : Array Value} {F : HProp} {w : World} (h : Holds (OP db rb bw pb qb p D wc F) w) :
    w.cell? ⟨qb, 3, none⟩ = some (.int .i64 p.root) ∧ w.cell? ⟨qb, 4, none⟩ = some (.int .i64 p.frm) ∧ w.cell? ⟨qb, 5, none⟩ = some (.int .i64 p.gen) := by
  obtain ⟨uv, h⟩ := rpA_open.1 h.right.right.right
  exact ⟨h.cell 3 rfl, h.cell 4 rfl, h.cell 5 rfl⟩
theorem OP_pg {db rb bw pb qb : Nat} {p : Pg} {D : Dk} {wc : Array Value} {F : HProp} {w : World} (h : Holds (OP db rb bw pb qb p D wc F) w) : Holds (pgA pb db p * (rpA qb rb p * (pt bw (.cells wc 24 (0, 0)) * F))) w := h.right.right
theorem OP_mk {db rb bw pb qb : Nat} {p : Pg} {D : Dk} {wc : Array Value} {F : HProp} {w : World} (h : Holds (rpA qb rb p * (rdA rb D * (pgA pb db p * (diskA db D * (pt bw (.cells wc 24 (0, 0)) * F))))) w) : Holds (OP db rb bw pb qb p D wc F) w := by
  unfold OP
  rw [sep_left_comm (pgA pb db p) (rpA qb rb p), sep_left_comm (rdA rb D) (rpA qb rb p), sep_left_comm (diskA db D) (rpA qb rb p), sep_left_comm (diskA db D) (rdA rb D), sep_left_comm (diskA db D) (pgA pb db p)]
  exact h
theorem OP_OA {db rb bw pb qb : Nat} {p : Pg} {D : Dk} {wc : Array Value} {F : HProp} {w : World} (h : Holds (OP db rb bw pb qb p D wc F) w) : Holds (OA db rb bw D wc F) w := by
  unfold OP at h
  rw [sep_left_comm (pgA pb db p) (rpA qb rb p), sep_left_comm (rdA rb D) (rpA qb rb p), sep_left_comm (diskA db D) (rpA qb rb p)] at h
  have h2 := h.right
  rw [rot3] at h2
  exact h2.right

theorem wpSegs_nil {P : Program} {ops : Array Oper} {C : World → Prop} {Q : Act → Prop} {a : Act} (h : Q a) : wpSegs P ops C Q [] a := h
theorem wpSegs_quiet {P : Program} {ops : Array Oper} {C : World → Prop} {Q : Act → Prop} {r : List (Bool × List Oper)} {l : List Oper} {a : Act} (h : wpQuiet P ops C (wpSegs P ops C Q r) l a) : wpSegs P ops C Q ((false, l) :: r) a := h
theorem wpSegs_lax {P : Program} {ops : Array Oper} {C : World → Prop} {Q : Act → Prop} {r : List (Bool × List Oper)} {o : Oper} {l : List Oper} {a : Act} (V : Value → Prop) (hw : Region.wanted o (yielded ops a.tmps) = true) (h1 : laxAt P o a C V) (h2 : ∀ u, V u → wpSegs P ops C Q r (a.put o.dst u)) : wpSegs P ops C Q ((true, o :: l) :: r) a := by
  show laxOp P ops C o _ a
  unfold laxOp
  rw [if_pos hw]
  exact ⟨V, h1, h2⟩
/-- The comparison's order. -/
def ord10 : List (Bool × Nat) := (List.range 53).map (fun i => (false, i)) ++ [(false, 55), (true, 53), (false, 54), (true, 56), (false, 57), (false, 58), (false, 59), (false, 60)]

set_option maxRecDepth 100000 in
set_option maxHeartbeats 8000000 in
theorem PagerOpens_calls {F : HProp} {w : World} (H : Holds F w) (img : Bs) (f pg fr : Int) (sv : Value) (hi : img.length ≤ 9223372036854775807) (hf : i64ok f) (hpg : i64ok pg) (hfr : i64ok fr) :
    Calls Tryz.prog 3 #[.agg #[strV img, .int .i64 f, .int .i64 pg, .int .i64 fr, sv]] w (Ret (.bool true) F w) := by
  obtain ⟨im, him⟩ : ∃ im : ByteArray, strV img = .string im := ⟨_, rfl⟩
  have Hb := H.alloc (.cells #[.string im, .int .i64 f, .int .i64 pg, .int .i64 fr, sv] 24)
  have Kb := (Keeps.refl w).alloc (.cells #[.string im, .int .i64 f, .int .i64 pg, .int .i64 fr, sv] 24)
  have hdk := disks_calls Hb img hi
  rw [him] at hdk
  obtain ⟨wc, hwcd⟩ : ∃ wc : Array Value, wc = #[.string im, .int .i64 f, .int .i64 pg, .int .i64 fr, sv] := ⟨_, rfl⟩
  have HWCD := Lib.hid hwcd
  obtain ⟨D, hD⟩ : ∃ D, D = Dk.new (fitI img) := ⟨_, rfl⟩
  have hok : D.Ok := by rw [hD]; exact Dk.ok_new (fitI_ok img)
  rw [← hD] at hdk
  have HDK := Lib.hid hdk
  obtain ⟨bw, hbw⟩ : ∃ bw, bw = w.heap.size := ⟨_, rfl⟩
  rw [him]
  clear him hwcd hD hdk Hb H
  go_enter Tryz.func3, Tryz.ntmps3
  go_wp2_with fail
  refine HDK.out.mono ?_
  rintro e w1 ⟨db, rb, rfl, H1, K1⟩
  rw [← HWCD.out, ← hbw] at H1
  rw [← hbw]
  have K2 := Kb.trans K1
  have HX : Holds (OA db rb bw D wc F) w1 := H1
  clear H1 K1 Kb HDK hbw
  have hc : ∀ (E : Dk) (G : HProp) (w' : World), Holds (OA db rb bw E wc G) w' → w'.cell? ⟨bw, 1, none⟩ = some (.int .i64 f) ∧ w'.cell? ⟨bw, 2, none⟩ = some (.int .i64 pg) ∧ w'.cell? ⟨bw, 3, none⟩ = some (.int .i64 fr) := by
    intro E G w' h
    have h2 := h.right.right
    rw [HWCD.out] at h2
    exact ⟨h2.cell 1 rfl, h2.cell 2 rfl, h2.cell 3 rfl⟩
  have HC := Lib.hid hc
  obtain ⟨x1, x2, x3⟩ := hc D F w1 HX
  clear hc
  go_wp2_with fail
  have hop := Open_calls hok HX f pg hf hpg
  obtain ⟨o1, ho1⟩ : ∃ o, o = (Pg.open_ D f pg).1 := ⟨_, rfl⟩
  obtain ⟨o2, ho2⟩ : ∃ o, o = (Pg.open_ D f pg).2 := ⟨_, rfl⟩
  have hopen : Pg.open_ D f pg = (o1, o2) := by rw [ho1, ho2]
  clear ho1 ho2
  cases o1 with
  | none =>
    have ne := open_none_ne hopen
    refine hop.mono ?_
    intro e w2 ho
    unfold OpenTo at ho
    rw [hopen] at ho
    obtain ⟨rfl, H2, K3⟩ := ho
    have K4 := K2.trans K3
    have H2' : Holds (OA db rb bw D wc F) w2 := H2
    obtain ⟨y1, y2, y3⟩ := HC.out D F w2 H2'
    have hro : Holds (rdA rb D * (diskA db D * (pt bw (.cells wc 24 (0, 0)) * F))) w2 := by
      rw [sep_left_comm]; exact H2
    have hrop := ROpen_calls hok hro f pg hf hpg
    clear hop H2 K3 K2 HX x1 x2 x3
    go_wp2_with fail
    refine hrop.mono ?_
    intro e w3 ho
    unfold ROpenTo at ho
    rw [hopen] at ho
    obtain ⟨rfl, H3, K5⟩ := ho
    have K6 := K4.trans K5
    rw [sep_left_comm] at H3
    have H4 : Holds (OA db rb bw D wc F) w3 := H3
    have b1 : (o2 != 0) = true := by rw [bne_iff_ne]; exact ne
    have K7 := K6.drew
    clear hrop H3 K5 K4 H2' y1 y2 y3 hro hopen ne
    go_wp2_with fail
    refine wp_region_keeps (fun w' => Holds (OA db rb bw D wc F) w' ∧ Keeps w w') (by kernel_rfl) (by kernel_rfl) ⟨H4.drew, K7⟩ ?_
    repeat (first
      | go_big_quiet_skip
      | (go_big_quiet_want; go_big_quiet_op; go_big_quiet_on)
      | (go_big_quiet_want
         apply Exists.intro
         refine ⟨fun w' hw' => ?_, ?_⟩
         · (skip
            unfold Oper.quietAt
            go_simp
            first
              | rfl
              | exact fixed_q hw')
         (try simp only [Act.put, List.setIfInBounds_toArray, List.set_cons_zero, List.set_cons_succ])
         go_big_quiet_on))
    refine wpQuiet_nil ?_
    rintro w4 ⟨H5, K8⟩
    have hfo := Format_calls hok H5 f pg fr hf hpg hfr
    obtain ⟨z1, z2, z3⟩ := HC.out D F w4 H5
    have hok2 := format_ok hok f pg fr
    rcases hfm : Pg.format D f pg fr with ⟨D', o, x⟩
    rw [hfm] at hok2
    obtain ⟨S, hS⟩ : ∃ S : ByteArray, strV D'.image.flatten = .string S := ⟨_, rfl⟩
    have HS := Lib.hid hS
    clear hS
    go_wp2_with fail
    refine hfo.mono ?_
    intro e w5 ho
    unfold FmtTo at ho
    rw [hfm] at ho
    cases o with
    | none =>
      have nex := format_none_ne hfm
      obtain ⟨rfl, H6, K9⟩ := ho
      have K10 := K8.trans K9
      have H6' : Holds (rdA rb D * (diskA db D' * (pt bw (.cells wc 24 (0, 0)) * F))) w5 := by
        rw [sep_left_comm]; exact H6
      have hrf := RFormat_calls hok H6' f pg fr hf hpg hfr
      obtain ⟨u1, u2, u3⟩ : w5.cell? ⟨bw, 1, none⟩ = some (.int .i64 f) ∧ w5.cell? ⟨bw, 2, none⟩ = some (.int .i64 pg) ∧ w5.cell? ⟨bw, 3, none⟩ = some (.int .i64 fr) := by
        have h2 := H6'.right.right
        rw [HWCD.out] at h2
        exact ⟨h2.cell 1 rfl, h2.cell 2 rfl, h2.cell 3 rfl⟩
      clear z1 z2 z3 H5 K8 K9 H6 H6' hfo
      go_wp2_with fail
      refine hrf.mono ?_
      intro e w6 ho
      unfold RFmtTo at ho
      rw [hfm] at ho
      obtain ⟨rfl, H7, K11⟩ := ho
      have K12 := K10.trans K11
      rw [sep_left_comm] at H7
      have H8 : Holds (OA db rb bw D' wc F) w6 := H7
      have bx : (x != 0) = true := by rw [bne_iff_ne]; exact nex
      clear u1 u2 u3 K10 K11 H7 hrf hfm nex
      go_wp2_with fail
      refine wp_region_segs (fun w' => Holds (OA db rb bw D' wc F) w' ∧ Keeps w w') (fun l => [(false, l.take 53 ++ (l.drop 55).take 1), (true, (l.drop 53).take 1), (false, (l.drop 54).take 1), (true, (l.drop 56).take 1), (false, l.drop 57)]) ord10 (by kernel_rfl) (by kernel_rfl) (by kernel_rfl) (by kernel_rfl) (by kernel_rfl) ⟨H8.drew, K12.drew⟩ ?_
      simp only [List.take_succ_cons, List.take_zero, List.drop_succ_cons, List.drop_zero, List.cons_append, List.nil_append]
      refine wpSegs_quiet ?_
      repeat (first
        | go_big_quiet_skip
        | (go_big_quiet_want; go_big_quiet_op; go_big_quiet_on)
        | (go_big_quiet_want
           apply Exists.intro
           refine ⟨fun w' hw' => ?_, ?_⟩
           · (skip
              unfold Oper.quietAt
              go_simp
              first
                | rfl
                | exact image_q hok2 HS.out hw'
                | exact rimage_q hok2 HS.out hw')
           (try simp only [Act.put, List.setIfInBounds_toArray, List.set_cons_zero, List.set_cons_succ])
           go_big_quiet_on))

      refine wpQuiet_nil ?_
      refine wpSegs_lax (fun u => ∃ a c, u = .slice a D'.unsafesI.length c) rfl (fun w' hw' => ?_) ?_
      · go_simp
        simp only [laxUpon]
        exact uns_q hok2 hw'
      rintro _ ⟨a1, c1, rfl⟩
      try simp only [Act.put, List.setIfInBounds_toArray, List.set_cons_zero, List.set_cons_succ]
      refine wpSegs_quiet ?_
      repeat (first
        | go_big_quiet_skip
        | (go_big_quiet_want; go_big_quiet_op; go_big_quiet_on)
        | (go_big_quiet_want
           apply Exists.intro
           refine ⟨fun w' hw' => ?_, ?_⟩
           · (skip
              unfold Oper.quietAt
              go_simp
              first
                | rfl
                | exact image_q hok2 HS.out hw'
                | exact rimage_q hok2 HS.out hw')
           (try simp only [Act.put, List.setIfInBounds_toArray, List.set_cons_zero, List.set_cons_succ])
           go_big_quiet_on))

      refine wpQuiet_nil ?_
      refine wpSegs_lax (fun u => ∃ a c, u = .slice a D'.unsafesI.length c) rfl (fun w' hw' => ?_) ?_
      · go_simp
        simp only [laxUpon]
        exact runsf_q hok2 hw'
      rintro _ ⟨a2, c2, rfl⟩
      try simp only [Act.put, List.setIfInBounds_toArray, List.set_cons_zero, List.set_cons_succ]
      refine wpSegs_quiet ?_
      repeat (first
        | go_big_quiet_skip
        | (go_big_quiet_want; go_big_quiet_op; go_big_quiet_on)
        | (go_big_quiet_want
           apply Exists.intro
           refine ⟨fun w' hw' => ?_, ?_⟩
           · (skip
              unfold Oper.quietAt
              go_simp
              first
                | rfl
                | exact image_q hok2 HS.out hw'
                | exact rimage_q hok2 HS.out hw')
           (try simp only [Act.put, List.setIfInBounds_toArray, List.set_cons_zero, List.set_cons_succ])
           go_big_quiet_on))

      refine wpQuiet_nil ?_
      refine wpSegs_nil ?_
      rintro w9 ⟨H9, K9⟩
      go_wp2_with fail
      go_ret
      exact .mk H9.right.right.right K9

    | some p2 =>
      obtain ⟨rfl, hp2, hck⟩ := format_some hfm
      obtain ⟨pb2, rfl, H6, K9⟩ := ho
      have K10 := K8.trans K9
      have H6' : Holds (rdA rb D * (pgA pb2 db p2 * (diskA db D' * (pt bw (.cells wc 24 (0, 0)) * F)))) w5 := by
        rw [sep_left_comm, sep_left_comm (rdA rb D)]; exact H6
      have hrf := RFormat_calls hok H6' f pg fr hf hpg hfr
      obtain ⟨u1, u2, u3⟩ : w5.cell? ⟨bw, 1, none⟩ = some (.int .i64 f) ∧ w5.cell? ⟨bw, 2, none⟩ = some (.int .i64 pg) ∧ w5.cell? ⟨bw, 3, none⟩ = some (.int .i64 fr) := by
        have h2 := H6'.right.right.right
        rw [HWCD.out] at h2
        exact ⟨h2.cell 1 rfl, h2.cell 2 rfl, h2.cell 3 rfl⟩
      have hp2ok := Pg.fresh_ok hok hck
      have hfree := fresh_free f pg fr
      have hpg1 := (Pg.check_zero hck).1
      have hfree2 : (p2.free : Int) = pg := by rw [hp2, hfree]; omega
      have hroot2 : p2.root = -1 := by rw [hp2]; rfl
      have hgen2 : (p2.gen : Int) = 2 := by rw [hp2]; rfl
      rw [← hp2] at hp2ok
      clear z1 z2 z3 H5 K8 K9 H6 H6' hfo hp2 hfree hpg1 hck
      go_wp2_with fail
      refine hrf.mono ?_
      intro e w6 ho
      unfold RFmtTo at ho
      rw [hfm] at ho
      obtain ⟨qb2, rfl, H7, K11⟩ := ho
      have K12 := K10.trans K11
      have H8 : Holds (OP db rb bw pb2 qb2 p2 D' wc F) w6 := OP_mk H7
      have HCB : ∀ w', Holds (OP db rb bw pb2 qb2 p2 D' wc F) w' → w'.cell? ⟨bw, 2, none⟩ = some (.int .i64 pg) := fun w' h => (HC.out D' F w' (OP_OA h)).2.1
      have HCB2 := Lib.hid HCB
      clear u1 u2 u3 K10 K11 H7 hrf hfm HCB
      go_wp2_with fail
      refine wp_region_segs (fun w' => Holds (OP db rb bw pb2 qb2 p2 D' wc F) w' ∧ Keeps w w') (fun l => [(false, l.take 53 ++ (l.drop 55).take 1), (true, (l.drop 53).take 1), (false, (l.drop 54).take 1), (true, (l.drop 56).take 1), (false, l.drop 57)]) ord10 (by kernel_rfl) (by kernel_rfl) (by kernel_rfl) (by kernel_rfl) (by kernel_rfl) ⟨H8.drew, K12.drew⟩ ?_
      simp only [List.take_succ_cons, List.take_zero, List.drop_succ_cons, List.drop_zero, List.cons_append, List.nil_append]
      refine wpSegs_quiet ?_
      repeat (first
        | go_big_quiet_skip
        | (go_big_quiet_want; go_big_quiet_op; go_big_quiet_on)
        | (go_big_quiet_want
           apply Exists.intro
           refine ⟨fun w' hw' => ?_, ?_⟩
           · (obtain ⟨s1, s2, s3⟩ := OP_rp hw'.1; have s4 := HCB2.out w' hw'.1
              unfold Oper.quietAt
              go_simp
              first
                | rfl
                | exact root_q hw' (OP_pg hw'.1) hroot2
                | exact from_q hw' (OP_pg hw'.1)
                | exact gen_q hw' (OP_pg hw'.1) hgen2
                | exact free_q hp2ok hfree2 hw'
                | exact image_q hok2 HS.out hw'
                | exact rimage_q hok2 HS.out hw')
           (try simp only [Act.put, List.setIfInBounds_toArray, List.set_cons_zero, List.set_cons_succ])
           go_big_quiet_on))

      refine wpQuiet_nil ?_
      refine wpSegs_lax (fun u => ∃ a c, u = .slice a D'.unsafesI.length c) rfl (fun w' hw' => ?_) ?_
      · go_simp
        simp only [laxUpon]
        exact uns_q hok2 hw'
      rintro _ ⟨a1, c1, rfl⟩
      try simp only [Act.put, List.setIfInBounds_toArray, List.set_cons_zero, List.set_cons_succ]
      refine wpSegs_quiet ?_
      repeat (first
        | go_big_quiet_skip
        | (go_big_quiet_want; go_big_quiet_op; go_big_quiet_on)
        | (go_big_quiet_want
           apply Exists.intro
           refine ⟨fun w' hw' => ?_, ?_⟩
           · (obtain ⟨s1, s2, s3⟩ := OP_rp hw'.1; have s4 := HCB2.out w' hw'.1
              unfold Oper.quietAt
              go_simp
              first
                | rfl
                | exact root_q hw' (OP_pg hw'.1) hroot2
                | exact from_q hw' (OP_pg hw'.1)
                | exact gen_q hw' (OP_pg hw'.1) hgen2
                | exact free_q hp2ok hfree2 hw'
                | exact image_q hok2 HS.out hw'
                | exact rimage_q hok2 HS.out hw')
           (try simp only [Act.put, List.setIfInBounds_toArray, List.set_cons_zero, List.set_cons_succ])
           go_big_quiet_on))

      refine wpQuiet_nil ?_
      refine wpSegs_lax (fun u => ∃ a c, u = .slice a D'.unsafesI.length c) rfl (fun w' hw' => ?_) ?_
      · go_simp
        simp only [laxUpon]
        exact runsf_q hok2 hw'
      rintro _ ⟨a2, c2, rfl⟩
      try simp only [Act.put, List.setIfInBounds_toArray, List.set_cons_zero, List.set_cons_succ]
      refine wpSegs_quiet ?_
      repeat (first
        | go_big_quiet_skip
        | (go_big_quiet_want; go_big_quiet_op; go_big_quiet_on)
        | (go_big_quiet_want
           apply Exists.intro
           refine ⟨fun w' hw' => ?_, ?_⟩
           · (obtain ⟨s1, s2, s3⟩ := OP_rp hw'.1; have s4 := HCB2.out w' hw'.1
              unfold Oper.quietAt
              go_simp
              first
                | rfl
                | exact root_q hw' (OP_pg hw'.1) hroot2
                | exact from_q hw' (OP_pg hw'.1)
                | exact gen_q hw' (OP_pg hw'.1) hgen2
                | exact free_q hp2ok hfree2 hw'
                | exact image_q hok2 HS.out hw'
                | exact rimage_q hok2 HS.out hw')
           (try simp only [Act.put, List.setIfInBounds_toArray, List.set_cons_zero, List.set_cons_succ])
           go_big_quiet_on))

      refine wpQuiet_nil ?_
      refine wpSegs_nil ?_
      rintro w9 ⟨H9, K9⟩
      go_wp2_with fail
      go_ret
      exact .mk (OP_OA H9).right.right.right K9

  | some p =>
    have e0 := open_some_zero hopen
    subst e0
    refine hop.mono ?_
    intro e w2 ho
    unfold OpenTo at ho
    rw [hopen] at ho
    obtain ⟨pb, rfl, H2, K3⟩ := ho
    have K4 := K2.trans K3
    have hro : Holds (rdA rb D * (pgA pb db p * (diskA db D * (pt bw (.cells wc 24 (0, 0)) * F)))) w2 := by
      rw [sep_left_comm, sep_left_comm (rdA rb D)]; exact H2
    obtain ⟨y1, y2, y3⟩ : w2.cell? ⟨bw, 1, none⟩ = some (.int .i64 f) ∧ w2.cell? ⟨bw, 2, none⟩ = some (.int .i64 pg) ∧ w2.cell? ⟨bw, 3, none⟩ = some (.int .i64 fr) := by
      have h2 := hro.right.right.right
      rw [HWCD.out] at h2
      exact ⟨h2.cell 1 rfl, h2.cell 2 rfl, h2.cell 3 rfl⟩
    have hrop := ROpen_calls hok hro f pg hf hpg
    clear hop H2 K3 K2 HX x1 x2 x3
    go_wp2_with fail
    refine hrop.mono ?_
    intro e w3 ho
    unfold ROpenTo at ho
    rw [hopen] at ho
    obtain ⟨qb, rfl, H3, K5⟩ := ho
    have K6 := K4.trans K5
    have H4 : Holds (OP db rb bw pb qb p D wc F) w3 := OP_mk H3
    have K7 := K6.drew
    clear hrop H3 K5 K4 y1 y2 y3 hro hopen
    go_wp2_with fail
    refine wp_region_keeps (fun w' => Holds (OP db rb bw pb qb p D wc F) w' ∧ Keeps w w') (by kernel_rfl) (by kernel_rfl) ⟨H4.drew, K7⟩ ?_
    repeat (first
      | go_big_quiet_skip
      | (go_big_quiet_want; go_big_quiet_op; go_big_quiet_on)
      | (go_big_quiet_want
         apply Exists.intro
         refine ⟨fun w' hw' => ?_, ?_⟩
         · (obtain ⟨s1, s2, s3⟩ := OP_rp hw'.1
            unfold Oper.quietAt
            go_simp
            first
              | rfl
              | exact fixed_q hw'
              | exact root_q hw' (OP_pg hw'.1) rfl
              | exact from_q hw' (OP_pg hw'.1)
              | exact gen_q hw' (OP_pg hw'.1) rfl)
         (try simp only [Act.put, List.setIfInBounds_toArray, List.set_cons_zero, List.set_cons_succ])
         go_big_quiet_on))
    refine wpQuiet_nil ?_
    rintro w4 ⟨H5, K8⟩
    replace H5 := OP_OA H5
    have hfo := Format_calls hok H5 f pg fr hf hpg hfr
    obtain ⟨z1, z2, z3⟩ := HC.out D F w4 H5
    have hok2 := format_ok hok f pg fr
    rcases hfm : Pg.format D f pg fr with ⟨D', o, x⟩
    rw [hfm] at hok2
    obtain ⟨S, hS⟩ : ∃ S : ByteArray, strV D'.image.flatten = .string S := ⟨_, rfl⟩
    have HS := Lib.hid hS
    clear hS
    go_wp2_with fail
    refine hfo.mono ?_
    intro e w5 ho
    unfold FmtTo at ho
    rw [hfm] at ho
    cases o with
    | none =>
      have nex := format_none_ne hfm
      obtain ⟨rfl, H6, K9⟩ := ho
      have K10 := K8.trans K9
      have H6' : Holds (rdA rb D * (diskA db D' * (pt bw (.cells wc 24 (0, 0)) * F))) w5 := by
        rw [sep_left_comm]; exact H6
      have hrf := RFormat_calls hok H6' f pg fr hf hpg hfr
      obtain ⟨u1, u2, u3⟩ : w5.cell? ⟨bw, 1, none⟩ = some (.int .i64 f) ∧ w5.cell? ⟨bw, 2, none⟩ = some (.int .i64 pg) ∧ w5.cell? ⟨bw, 3, none⟩ = some (.int .i64 fr) := by
        have h2 := H6'.right.right
        rw [HWCD.out] at h2
        exact ⟨h2.cell 1 rfl, h2.cell 2 rfl, h2.cell 3 rfl⟩
      clear z1 z2 z3 H5 K8 K9 H6 H6' hfo
      go_wp2_with fail
      refine hrf.mono ?_
      intro e w6 ho
      unfold RFmtTo at ho
      rw [hfm] at ho
      obtain ⟨rfl, H7, K11⟩ := ho
      have K12 := K10.trans K11
      rw [sep_left_comm] at H7
      have H8 : Holds (OA db rb bw D' wc F) w6 := H7
      have bx : (x != 0) = true := by rw [bne_iff_ne]; exact nex
      clear u1 u2 u3 K10 K11 H7 hrf hfm nex
      go_wp2_with fail
      refine wp_region_segs (fun w' => Holds (OA db rb bw D' wc F) w' ∧ Keeps w w') (fun l => [(false, l.take 53 ++ (l.drop 55).take 1), (true, (l.drop 53).take 1), (false, (l.drop 54).take 1), (true, (l.drop 56).take 1), (false, l.drop 57)]) ord10 (by kernel_rfl) (by kernel_rfl) (by kernel_rfl) (by kernel_rfl) (by kernel_rfl) ⟨H8.drew, K12.drew⟩ ?_
      simp only [List.take_succ_cons, List.take_zero, List.drop_succ_cons, List.drop_zero, List.cons_append, List.nil_append]
      refine wpSegs_quiet ?_
      repeat (first
        | go_big_quiet_skip
        | (go_big_quiet_want; go_big_quiet_op; go_big_quiet_on)
        | (go_big_quiet_want
           apply Exists.intro
           refine ⟨fun w' hw' => ?_, ?_⟩
           · (skip
              unfold Oper.quietAt
              go_simp
              first
                | rfl
                | exact image_q hok2 HS.out hw'
                | exact rimage_q hok2 HS.out hw')
           (try simp only [Act.put, List.setIfInBounds_toArray, List.set_cons_zero, List.set_cons_succ])
           go_big_quiet_on))

      refine wpQuiet_nil ?_
      refine wpSegs_lax (fun u => ∃ a c, u = .slice a D'.unsafesI.length c) rfl (fun w' hw' => ?_) ?_
      · go_simp
        simp only [laxUpon]
        exact uns_q hok2 hw'
      rintro _ ⟨a1, c1, rfl⟩
      try simp only [Act.put, List.setIfInBounds_toArray, List.set_cons_zero, List.set_cons_succ]
      refine wpSegs_quiet ?_
      repeat (first
        | go_big_quiet_skip
        | (go_big_quiet_want; go_big_quiet_op; go_big_quiet_on)
        | (go_big_quiet_want
           apply Exists.intro
           refine ⟨fun w' hw' => ?_, ?_⟩
           · (skip
              unfold Oper.quietAt
              go_simp
              first
                | rfl
                | exact image_q hok2 HS.out hw'
                | exact rimage_q hok2 HS.out hw')
           (try simp only [Act.put, List.setIfInBounds_toArray, List.set_cons_zero, List.set_cons_succ])
           go_big_quiet_on))

      refine wpQuiet_nil ?_
      refine wpSegs_lax (fun u => ∃ a c, u = .slice a D'.unsafesI.length c) rfl (fun w' hw' => ?_) ?_
      · go_simp
        simp only [laxUpon]
        exact runsf_q hok2 hw'
      rintro _ ⟨a2, c2, rfl⟩
      try simp only [Act.put, List.setIfInBounds_toArray, List.set_cons_zero, List.set_cons_succ]
      refine wpSegs_quiet ?_
      repeat (first
        | go_big_quiet_skip
        | (go_big_quiet_want; go_big_quiet_op; go_big_quiet_on)
        | (go_big_quiet_want
           apply Exists.intro
           refine ⟨fun w' hw' => ?_, ?_⟩
           · (skip
              unfold Oper.quietAt
              go_simp
              first
                | rfl
                | exact image_q hok2 HS.out hw'
                | exact rimage_q hok2 HS.out hw')
           (try simp only [Act.put, List.setIfInBounds_toArray, List.set_cons_zero, List.set_cons_succ])
           go_big_quiet_on))

      refine wpQuiet_nil ?_
      refine wpSegs_nil ?_
      rintro w9 ⟨H9, K9⟩
      go_wp2_with fail
      go_ret
      exact .mk H9.right.right.right K9

    | some p2 =>
      obtain ⟨rfl, hp2, hck⟩ := format_some hfm
      obtain ⟨pb2, rfl, H6, K9⟩ := ho
      have K10 := K8.trans K9
      have H6' : Holds (rdA rb D * (pgA pb2 db p2 * (diskA db D' * (pt bw (.cells wc 24 (0, 0)) * F)))) w5 := by
        rw [sep_left_comm, sep_left_comm (rdA rb D)]; exact H6
      have hrf := RFormat_calls hok H6' f pg fr hf hpg hfr
      obtain ⟨u1, u2, u3⟩ : w5.cell? ⟨bw, 1, none⟩ = some (.int .i64 f) ∧ w5.cell? ⟨bw, 2, none⟩ = some (.int .i64 pg) ∧ w5.cell? ⟨bw, 3, none⟩ = some (.int .i64 fr) := by
        have h2 := H6'.right.right.right
        rw [HWCD.out] at h2
        exact ⟨h2.cell 1 rfl, h2.cell 2 rfl, h2.cell 3 rfl⟩
      have hp2ok := Pg.fresh_ok hok hck
      have hfree := fresh_free f pg fr
      have hpg1 := (Pg.check_zero hck).1
      have hfree2 : (p2.free : Int) = pg := by rw [hp2, hfree]; omega
      have hroot2 : p2.root = -1 := by rw [hp2]; rfl
      have hgen2 : (p2.gen : Int) = 2 := by rw [hp2]; rfl
      rw [← hp2] at hp2ok
      clear z1 z2 z3 H5 K8 K9 H6 H6' hfo hp2 hfree hpg1 hck
      go_wp2_with fail
      refine hrf.mono ?_
      intro e w6 ho
      unfold RFmtTo at ho
      rw [hfm] at ho
      obtain ⟨qb2, rfl, H7, K11⟩ := ho
      have K12 := K10.trans K11
      have H8 : Holds (OP db rb bw pb2 qb2 p2 D' wc F) w6 := OP_mk H7
      have HCB : ∀ w', Holds (OP db rb bw pb2 qb2 p2 D' wc F) w' → w'.cell? ⟨bw, 2, none⟩ = some (.int .i64 pg) := fun w' h => (HC.out D' F w' (OP_OA h)).2.1
      have HCB2 := Lib.hid HCB
      clear u1 u2 u3 K10 K11 H7 hrf hfm HCB
      go_wp2_with fail
      refine wp_region_segs (fun w' => Holds (OP db rb bw pb2 qb2 p2 D' wc F) w' ∧ Keeps w w') (fun l => [(false, l.take 53 ++ (l.drop 55).take 1), (true, (l.drop 53).take 1), (false, (l.drop 54).take 1), (true, (l.drop 56).take 1), (false, l.drop 57)]) ord10 (by kernel_rfl) (by kernel_rfl) (by kernel_rfl) (by kernel_rfl) (by kernel_rfl) ⟨H8.drew, K12.drew⟩ ?_
      simp only [List.take_succ_cons, List.take_zero, List.drop_succ_cons, List.drop_zero, List.cons_append, List.nil_append]
      refine wpSegs_quiet ?_
      repeat (first
        | go_big_quiet_skip
        | (go_big_quiet_want; go_big_quiet_op; go_big_quiet_on)
        | (go_big_quiet_want
           apply Exists.intro
           refine ⟨fun w' hw' => ?_, ?_⟩
           · (obtain ⟨s1, s2, s3⟩ := OP_rp hw'.1; have s4 := HCB2.out w' hw'.1
              unfold Oper.quietAt
              go_simp
              first
                | rfl
                | exact root_q hw' (OP_pg hw'.1) hroot2
                | exact from_q hw' (OP_pg hw'.1)
                | exact gen_q hw' (OP_pg hw'.1) hgen2
                | exact free_q hp2ok hfree2 hw'
                | exact image_q hok2 HS.out hw'
                | exact rimage_q hok2 HS.out hw')
           (try simp only [Act.put, List.setIfInBounds_toArray, List.set_cons_zero, List.set_cons_succ])
           go_big_quiet_on))

      refine wpQuiet_nil ?_
      refine wpSegs_lax (fun u => ∃ a c, u = .slice a D'.unsafesI.length c) rfl (fun w' hw' => ?_) ?_
      · go_simp
        simp only [laxUpon]
        exact uns_q hok2 hw'
      rintro _ ⟨a1, c1, rfl⟩
      try simp only [Act.put, List.setIfInBounds_toArray, List.set_cons_zero, List.set_cons_succ]
      refine wpSegs_quiet ?_
      repeat (first
        | go_big_quiet_skip
        | (go_big_quiet_want; go_big_quiet_op; go_big_quiet_on)
        | (go_big_quiet_want
           apply Exists.intro
           refine ⟨fun w' hw' => ?_, ?_⟩
           · (obtain ⟨s1, s2, s3⟩ := OP_rp hw'.1; have s4 := HCB2.out w' hw'.1
              unfold Oper.quietAt
              go_simp
              first
                | rfl
                | exact root_q hw' (OP_pg hw'.1) hroot2
                | exact from_q hw' (OP_pg hw'.1)
                | exact gen_q hw' (OP_pg hw'.1) hgen2
                | exact free_q hp2ok hfree2 hw'
                | exact image_q hok2 HS.out hw'
                | exact rimage_q hok2 HS.out hw')
           (try simp only [Act.put, List.setIfInBounds_toArray, List.set_cons_zero, List.set_cons_succ])
           go_big_quiet_on))

      refine wpQuiet_nil ?_
      refine wpSegs_lax (fun u => ∃ a c, u = .slice a D'.unsafesI.length c) rfl (fun w' hw' => ?_) ?_
      · go_simp
        simp only [laxUpon]
        exact runsf_q hok2 hw'
      rintro _ ⟨a2, c2, rfl⟩
      try simp only [Act.put, List.setIfInBounds_toArray, List.set_cons_zero, List.set_cons_succ]
      refine wpSegs_quiet ?_
      repeat (first
        | go_big_quiet_skip
        | (go_big_quiet_want; go_big_quiet_op; go_big_quiet_on)
        | (go_big_quiet_want
           apply Exists.intro
           refine ⟨fun w' hw' => ?_, ?_⟩
           · (obtain ⟨s1, s2, s3⟩ := OP_rp hw'.1; have s4 := HCB2.out w' hw'.1
              unfold Oper.quietAt
              go_simp
              first
                | rfl
                | exact root_q hw' (OP_pg hw'.1) hroot2
                | exact from_q hw' (OP_pg hw'.1)
                | exact gen_q hw' (OP_pg hw'.1) hgen2
                | exact free_q hp2ok hfree2 hw'
                | exact image_q hok2 HS.out hw'
                | exact rimage_q hok2 HS.out hw')
           (try simp only [Act.put, List.setIfInBounds_toArray, List.set_cons_zero, List.set_cons_succ])
           go_big_quiet_on))

      refine wpQuiet_nil ?_
      refine wpSegs_nil ?_
      rintro w9 ⟨H9, K9⟩
      go_wp2_with fail
      go_ret
      exact .mk (OP_OA H9).right.right.right K9

end Go.Proofs.YtmeepegllkhlcaaGreat
