/-
  Why a pager keeps what it committed, wherever the power goes: plain data alone.
-/
import Derived.Test.YtmeepegllkhlcaaFit
namespace Go.Proofs.Ytmeepegllkhlcaa

/-! ### heads are read as they were laid -/
theorem beN_append (a b : Bs) : Pg.beN (a ++ b) = Pg.beN a * 256 ^ b.length + Pg.beN b := by
  unfold Pg.beN
  rw [List.foldl_append]
  suffices h : ∀ (l : Bs) (n : Nat), l.foldl (fun n b => n * 256 + b.toNat) n = n * 256 ^ l.length + l.foldl (fun n b => n * 256 + b.toNat) 0 from h b _
  intro l
  induction l with
  | nil => intro n; simp
  | cons c l ih =>
    intro n
    rw [List.foldl_cons, ih, List.foldl_cons, ih (0 * 256 + c.toNat), List.length_cons, Nat.pow_succ, Nat.add_mul, Nat.mul_assoc, Nat.mul_comm 256, Nat.zero_mul, Nat.zero_add]
    omega
theorem beN_beL (n : Nat) : ∀ k, Pg.beN (beL n k) = n % 256 ^ k
  | 0 => by simp [beL, Pg.beN, Nat.mod_one]
  | k + 1 => by
    have h1 : beL n (k + 1) = [UInt8.ofNat (n / 256 ^ k % 256)] ++ beL n k := rfl
    rw [h1, beN_append, beN_beL n k, beL_length]
    have h2 : Pg.beN [UInt8.ofNat (n / 256 ^ k % 256)] = n / 256 ^ k % 256 := by simp [Pg.beN]
    rw [h2, Nat.pow_succ, Nat.mod_mul, Nat.mul_comm]
    omega
theorem head_subs (g r f : Nat) : Pg.sub (headL g r f) 4 12 = beL g 8 ∧ Pg.sub (headL g r f) 12 16 = beL r 4 ∧ Pg.sub (headL g r f) 16 24 = beL f 8 := by
  have hg := beL_length g 8
  have hr := beL_length r 4
  have hf := beL_length f 8
  unfold Pg.sub headL
  refine ⟨?_, ?_, ?_⟩
  · rw [List.append_assoc, List.append_assoc, List.append_assoc]
    rw [show (4 : Nat) = ([82, 90, 72, 49] : Bs).length from rfl, List.drop_left]
    rw [show 12 - ([82, 90, 72, 49] : Bs).length = (beL g 8).length from by rw [hg]; rfl, List.take_left]
  · rw [List.append_assoc, List.append_assoc]
    have h1 : ([82, 90, 72, 49] ++ beL g 8 : Bs).length = 12 := by simp [hg]
    rw [← h1, List.drop_left]
    rw [show 16 - ([82, 90, 72, 49] ++ beL g 8 : Bs).length = (beL r 4).length from by rw [h1, hr], List.take_left]
  · rw [List.append_assoc]
    have h1 : ([82, 90, 72, 49] ++ beL g 8 ++ beL r 4 : Bs).length = 16 := by simp [hg, hr]
    rw [← h1, List.drop_left]
    rw [show 24 - ([82, 90, 72, 49] ++ beL g 8 ++ beL r 4 : Bs).length = (beL f 8).length from by rw [h1, hf], List.take_left]
theorem parse_head {n g r f : Nat} (h1 : 1 ≤ g) (h2 : g ≤ 1152921504606846976) (h3 : r ≤ n) (hn : n ≤ 4096) (h4 : 1 ≤ f) (h5 : f ≤ 1152921504606846976) :
    Pg.parse n (headL g r f) (g % 2) = (g, (r : Int) - 1, f) := by
  obtain ⟨s1, s2, s3⟩ := head_subs g r f
  have e1 : Pg.beN (beL g 8) = g := by rw [beN_beL]; exact Nat.mod_eq_of_lt (Nat.lt_of_le_of_lt h2 (by decide))
  have e2 : Pg.beN (beL r 4) = r := by rw [beN_beL]; exact Nat.mod_eq_of_lt (Nat.lt_of_le_of_lt (Nat.le_trans h3 hn) (by decide))
  have e3 : Pg.beN (beL f 8) = f := by rw [beN_beL]; exact Nat.mod_eq_of_lt (Nat.lt_of_le_of_lt h5 (by decide))
  unfold Pg.parse
  rw [s1, s2, s3, e1, e2, e3, if_neg]
  rintro (h | h | h | h | h | h | h)
  · omega
  · omega
  · exact h rfl
  · omega
  · omega
  · omega
  · exact h rfl
theorem parse_le (n g r f a : Nat) (h2 : g ≤ 1152921504606846976) : (Pg.parse n (headL g r f) a).1 ≤ g := by
  obtain ⟨s1, s2, s3⟩ := head_subs g r f
  have e1 : Pg.beN (beL g 8) = g := by rw [beN_beL]; exact Nat.mod_eq_of_lt (Nat.lt_of_le_of_lt h2 (by decide))
  unfold Pg.parse
  split
  · exact Nat.zero_le _
  · rw [s1, e1]; exact Nat.le_refl _

/-! ### what a step leaves of a sector that is not written -/
namespace Dk
structure Keep (D D' : Dk) (i : Nat) : Prop where
  w : D'.w? i = none
  s : D'.safe.getD i [] = D.safe.getD i []
theorem Keep.trans {A B C : Dk} {i : Nat} (h : Keep A B i) (k : Keep B C i) : Keep A C i := ⟨k.w, k.s.trans h.s⟩
theorem Keep.sec {D D' : Dk} {i : Nat} (h : Keep D D' i) (hw : D.w? i = none) : D'.sec i = D.sec i := by
  unfold Dk.sec; rw [h.w, hw, h.s]
theorem w?_becomes (D : Dk) (s : List Bs) (i : Nat) : (D.becomes s).w? i = none := by
  simp only [Dk.w?, Dk.becomes, List.getD_eq_getElem?_getD, List.getElem?_replicate]
  split <;> rfl
theorem w?_die (D : Dk) (kept : List Int) (i : Nat) : (D.die kept).w? i = none := w?_becomes D _ i
theorem safe_die {D : Dk} (h : D.Ok) (kept : List Int) {i : Nat} (hi : i < D.n) : (D.die kept).safe.getD i [] = D.safe.getD i [] ∨ (D.die kept).safe.getD i [] = D.sec i := by
  rcases left_at h (comes kept) hi with h1 | h1
  · exact .inl h1
  · exact .inr h1.1
theorem keep_die {D : Dk} (h : D.Ok) (kept : List Int) {i : Nat} (hi : i < D.n) (hw : D.w? i = none) : Keep D (D.die kept) i := by
  refine ⟨w?_die D kept i, ?_⟩
  rcases left_at h (comes kept) hi with h1 | h1
  · exact h1
  · rw [hw] at h1; exact absurd h1.2 (by simp)
theorem keep_refl {D : Dk} {i : Nat} (hw : D.w? i = none) : Keep D D i := ⟨hw, rfl⟩
theorem keep_step {D : Dk} {i : Nat} (hw : D.w? i = none) : Keep D D.stepD i := ⟨by unfold Dk.w?; rw [stepD_wr]; exact hw, by rw [stepD_safe]⟩
theorem keep_put {D : Dk} (h : D.Ok) {i j : Nat} (hj : j < D.n) (hne : i ≠ j) (s : Bs) (hw : D.w? i = none) : Keep D (D.put j s) i := ⟨by rw [w?_put h hj, if_neg hne]; exact hw, rfl⟩
theorem writeGo_n : ∀ (cs : List Bs) (D : Dk) (a : Nat), (D.writeGo a cs).1.n = D.n
  | [], _, _ => rfl
  | c :: cs, D, a => by
    unfold Dk.writeGo
    split
    · rw [die_n, stepD_n, put_n]
    · rw [writeGo_n cs, stepD_n, put_n]
theorem keep_writeGo : ∀ (cs : List Bs) {D : Dk} (_ : D.Ok) (a : Nat) (_ : ∀ x ∈ cs, x.length = 64) (_ : a + cs.length ≤ D.n) {i : Nat} (_ : i < D.n) (_ : i < a ∨ a + cs.length ≤ i) (_ : D.w? i = none), Keep D (D.writeGo a cs).1 i
  | [], D, _, _, _, _, i, _, _, hw => keep_refl hw
  | c :: cs, D, h, a, h64, ha, i, hi, ho, hw => by
    have hl : (c :: cs).length = cs.length + 1 := rfl
    have hne : i ≠ a := by omega
    have ha' : a < D.n := by omega
    have k1 := keep_put h ha' hne c hw
    have k2 := k1.trans (keep_step k1.w)
    have hE := (h.put a (h64 c (by simp))).stepD
    have hn : ((D.put a c).stepD).n = D.n := by rw [stepD_n, put_n]
    unfold Dk.writeGo
    split
    · exact k2.trans (keep_die hE _ (by rw [hn]; exact hi) k2.w)
    · exact k2.trans (keep_writeGo cs hE (a + 1) (fun x hx => h64 x (by simp [hx])) (by rw [hn]; omega) (by rw [hn]; exact hi) (by omega) k2.w)
theorem writeGo_ends : ∀ (cs : List Bs) (D : Dk) (a : Nat), D.dead = false → ((D.writeGo a cs).2 = 0 ∧ (D.writeGo a cs).1.dead = false) ∨ ((D.writeGo a cs).2 = 2 ∧ (D.writeGo a cs).1.dead = true ∧ ∀ i, (D.writeGo a cs).1.w? i = none)
  | [], D, _, hd => .inl ⟨rfl, hd⟩
  | c :: cs, D, a, hd => by
    unfold Dk.writeGo
    split
    · exact .inr ⟨rfl, rfl, fun i => w?_die _ _ i⟩
    · exact writeGo_ends cs _ (a + 1) (by rw [stepD_dead]; exact hd)
/-- Every sector is as it was, safe or not. -/
theorem sync_ends {D : Dk} (h : D.Ok) (hd : D.dead = false) :
    (D.sync.2 = 0 ∧ D.sync.1.dead = false ∧ D.sync.1.n = D.n ∧ (∀ i, D.sync.1.w? i = none) ∧ ∀ i, i < D.n → D.sync.1.safe.getD i [] = D.sec i) ∨
    (D.sync.2 = 2 ∧ D.sync.1.dead = true ∧ D.sync.1.n = D.n ∧ (∀ i, D.sync.1.w? i = none) ∧ ∀ i, i < D.n → D.w? i = none → D.sync.1.safe.getD i [] = D.safe.getD i []) := by
  unfold Dk.sync
  rw [hd, if_neg (by decide)]
  split
  · refine .inr ⟨rfl, rfl, by rw [die_n, stepD_n], fun i => w?_die _ _ i, fun i hi hw => ?_⟩
    have k := keep_step (D := D) hw
    exact (k.trans (keep_die h.stepD _ (by rw [stepD_n]; exact hi) k.w)).s
  · exact .inl ⟨rfl, by show D.stepD.dead = false; rw [stepD_dead]; exact hd, left_length D _, fun i => w?_becomes _ _ i, fun i hi => image_at h hi⟩
theorem chunks_one (s : Bs) (h : s.length = 64) : chunks s = [s] := by
  unfold chunks
  rw [h]
  show [(s.drop (64 * 0)).take 64] = [s]
  simp [List.take_of_length_le (Nat.le_of_eq h)]
/-- One sector is written. -/
theorem write_one {D : Dk} (h : D.Ok) (hd : D.dead = false) (a : Nat) (ha : a < D.n) (s : Bs) (hs : s.length = 64) :
    D.write (a : Int) s = if D.armed = 1 then (((D.put a s).stepD).die D.kept, 2) else ((D.put a s).stepD, 0) := by
  unfold Dk.write
  rw [hd, if_neg (by decide), if_neg (by omega), if_neg (by omega), Int.toNat_natCast, chunks_one s hs]
  rfl
end Dk
end Go.Proofs.Ytmeepegllkhlcaa
