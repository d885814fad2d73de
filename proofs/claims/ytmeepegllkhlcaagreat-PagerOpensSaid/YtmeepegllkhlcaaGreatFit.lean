/-
  A disk that is not dead and not armed: its writes and syncs go through.
-/
import Derived.Test.YtmeepegllkhlcaaGreatPg
namespace Go.Proofs.YtmeepegllkhlcaaGreat
namespace Dk
structure Fit (D : Dk) : Prop where
  dead : D.dead = false
  armed : D.armed = 0
theorem Fit.stepD {D : Dk} (h : D.Fit) : D.stepD = D := by unfold Dk.stepD; rw [if_pos h.armed]
theorem Fit.put {D : Dk} (h : D.Fit) (i : Nat) (s : Bs) : (D.put i s).Fit := ⟨h.dead, h.armed⟩
/-- Sectors are put one behind another. -/
def puts (D : Dk) (i : Nat) : List Bs → Dk
  | [] => D
  | c :: cs => (D.put i c).puts (i + 1) cs
theorem Fit.puts : ∀ (cs : List Bs) {D : Dk} (_ : D.Fit) (i : Nat), (D.puts i cs).Fit
  | [], _, h, _ => h
  | _ :: cs, _, h, i => Fit.puts cs (h.put i _) (i + 1)
theorem puts_n : ∀ (cs : List Bs) (D : Dk) (i : Nat), (D.puts i cs).n = D.n
  | [], _, _ => rfl
  | c :: cs, D, i => by
    unfold Dk.puts
    rw [puts_n cs]; rfl
theorem Fit.writeGo : ∀ (cs : List Bs) {D : Dk} (_ : D.Fit) (i : Nat), D.writeGo i cs = (D.puts i cs, 0)
  | [], _, _, _ => rfl
  | c :: cs, D, h, i => by
    unfold Dk.writeGo Dk.puts
    rw [if_neg (by rw [h.armed]; decide), (h.put i c).stepD, Fit.writeGo cs (h.put i c)]
theorem Fit.write {D : Dk} (h : D.Fit) (a : Nat) (s : Bs) (m : Nat) (hs : s.length = 64 * m) (ha : a + m ≤ D.n) : D.write (a : Int) s = (D.puts a (chunks s), 0) := by
  unfold Dk.write
  rw [h.dead, if_neg (by decide), if_neg (by omega), if_neg (by omega), Int.toNat_natCast]
  exact h.writeGo _ _
theorem Fit.sync {D : Dk} (h : D.Fit) : D.sync = (D.becomes D.image, 0) := by
  unfold Dk.sync
  rw [h.dead, if_neg (by decide), if_neg (by rw [h.armed]; decide), h.stepD]
theorem Fit.becomes {D : Dk} (h : D.Fit) (s : List Bs) : (D.becomes s).Fit := ⟨h.dead, h.armed⟩
theorem becomes_n (D : Dk) : (D.becomes D.image).n = D.n := left_length D _
theorem fit_new (s : Bs) : (Dk.new s).Fit := ⟨rfl, rfl⟩
theorem new_n (s : Bs) : (Dk.new s).n = s.length / 64 := chunks_length s
end Dk
namespace Pg
theorem check_zero {D : Dk} {a b c : Int} (h : check D a b c = 0) : ¬ (a < 2 ∨ b < 1 ∨ 4096 < b ∨ (D.n : Int) < a ∨ (D.n : Int) - a < 8 * b ∨ c < 1 ∨ 1152921504606846976 < c) ∧ D.dead = false := by
  unfold check at h
  split at h
  · cases h
  · rename_i hn
    refine ⟨hn, ?_⟩
    cases hd : D.dead with
    | false => rfl
    | true => rw [hd] at h; cases h
theorem format_fit {D : Dk} (h : D.Fit) {a b c : Int} (hc : check D a b c = 0) :
    Pg.format D a b c = ((((D.puts 1 (Dk.chunks (zeros 64))).puts 0 (Dk.chunks (headL 2 0 c.toNat))).becomes ((D.puts 1 (Dk.chunks (zeros 64))).puts 0 (Dk.chunks (headL 2 0 c.toNat))).image), some (fresh a b c), 0) := by
  have hg := (check_zero hc).1
  have hn : 10 ≤ D.n := by omega
  have hl : (headL 2 0 c.toNat).length = 64 := by simp [headL, beL_length]
  have w1 := h.write 1 (zeros 64) 1 (by simp [zeros]) (by omega)
  have f1 : (D.puts 1 (Dk.chunks (zeros 64))).Fit := h.puts _ _
  have w2 := f1.write 0 (headL 2 0 c.toNat) 1 hl (by rw [Dk.puts_n]; omega)
  have f2 : ((D.puts 1 (Dk.chunks (zeros 64))).puts 0 (Dk.chunks (headL 2 0 c.toNat))).Fit := f1.puts _ _
  have s3 := f2.sync
  have w1' : D.write 1 (zeros 64) = _ := w1
  have w2' : (D.puts 1 (Dk.chunks (zeros 64))).write 0 (headL 2 0 c.toNat) = _ := w2
  unfold Pg.format
  rw [if_neg (by rw [hc]; decide), w1', if_neg (by simp), w2', if_neg (by simp), s3, if_neg (by simp)]
theorem fresh_ok {D : Dk} (hD : D.Ok) {a b c : Int} (hc : check D a b c = 0) : (fresh a b c).Ok D.n := by
  have hg := (check_zero hc).1
  have := hD.most
  have : D.n ≤ 4096 := hD.most
  exact ⟨by show 2 ≤ a.toNat; omega, by show 1 ≤ b.toNat; omega, by show a.toNat + 8 * b.toNat ≤ D.n; omega, this, by show (-1 : Int) ≤ -1; decide, by show -1 < (b.toNat : Int); omega, by show 1 ≤ c.toNat; omega, by show c.toNat ≤ _; omega, by show 1 ≤ 2; decide, by show 2 ≤ 1152921504606846976; decide, (by intro x hx; cases hx), List.nodup_nil, (by intro x hx; cases hx), List.nodup_nil⟩

/-! ### pages told one by one -/
/-- The pages below i are taken, no other; none is live. -/
structure Tk (p : Pg) (n i : Nat) : Prop where
  pages : p.pages = n
  live : p.live = []
  taken : ∀ x : Int, x ∈ p.taken ↔ 0 ≤ x ∧ x < i
theorem Tk.used {p : Pg} {n i : Nat} (h : p.Tk n i) (x : Nat) : p.used (x : Int) = decide (x < i) := by
  unfold Pg.used
  rw [h.live]
  have := h.taken x
  by_cases hx : x < i
  · have hm : (x : Int) ∈ p.taken := this.2 (by omega)
    simp [hm, hx]
  · have hm : ¬ (x : Int) ∈ p.taken := fun hm => by have := this.1 hm; omega
    simp [hm, hx]
theorem Tk.alloc {p : Pg} {n i : Nat} (h : p.Tk n i) (hi : i < n) : p.alloc.2 = ((i : Int), 0) ∧ p.alloc.1.Tk n (i + 1) := by
  have hf : p.firstFree = some i := by
    unfold firstFree
    rw [List.find?_range_eq_some]
    refine ⟨by rw [h.used]; simp, by rw [h.pages]; simpa using hi, fun j hj => by rw [h.used]; simpa using hj⟩
  unfold Pg.alloc
  rw [hf]
  refine ⟨rfl, h.pages, h.live, fun x => ?_⟩
  show x ∈ ((i : Int) :: p.taken) ↔ _
  rw [List.mem_cons, h.taken]
  omega
theorem Tk.full {p : Pg} {n : Nat} (h : p.Tk n n) : p.alloc = (p, 0, 192) := by
  have hf : p.firstFree = none := by
    unfold firstFree
    rw [List.find?_eq_none]
    intro x hx
    rw [h.used]
    have : x < p.pages := by simpa using hx
    rw [h.pages] at this
    simpa using this
  unfold Pg.alloc
  rw [hf]
theorem Tk.free {p : Pg} {n i : Nat} (h : p.Tk n i) (hi : i ≤ n) : p.free = n - i := by
  unfold Pg.free
  rw [h.pages]
  have h1 : ∀ m, i ≤ m → ((List.range m).filter fun j : Nat => !p.used (j : Int)).length = m - i := by
    intro m
    induction m with
    | zero => intro _; simp
    | succ m ih =>
      intro hm
      rw [List.range_succ, List.filter_append, List.length_append]
      have hu := h.used m
      rcases Nat.lt_or_ge m i with hlt | hge
      · obtain rfl : i = m + 1 := by omega
        have h0 : ((List.range m).filter fun j : Nat => !p.used (j : Int)) = [] := by
          rw [List.filter_eq_nil_iff]
          intro j hj
          have : j < m := by simpa using hj
          rw [h.used]
          simp; omega
        rw [h0]
        simp [hu]
      · rw [ih hge]
        have : decide (m < i) = false := by simp; omega
        simp [hu, this]
        omega
  exact h1 n hi
theorem Tk.drop {p : Pg} {n i : Nat} (h : p.Tk n i) : p.drop.Tk n 0 := ⟨h.pages, h.live, fun x => by show x ∈ ([] : List Int) ↔ _; simp⟩
theorem Ok.drop {p : Pg} {n : Nat} (h : p.Ok n) : p.drop.Ok n := ⟨h.first2, h.pages1, h.fits, h.n4096, h.root0, h.root1, h.frm1, h.frmMax, h.gen1, h.genMax, h.live, h.liveN, (by intro x hx; cases hx), List.nodup_nil⟩
end Pg
end Go.Proofs.YtmeepegllkhlcaaGreat
