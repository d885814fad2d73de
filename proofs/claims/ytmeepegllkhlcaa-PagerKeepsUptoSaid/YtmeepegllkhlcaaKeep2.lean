/-
  What holds of a pager between two calls of the law; each call keeps it; a crash leaves what was committed.
-/
import Derived.Test.YtmeepegllkhlcaaKeep
import Derived.Test.YtmeepegllkhlcaaPager
namespace Go.Proofs.Ytmeepegllkhlcaa
namespace Kp
/-- A root, a From, pages, what they have. -/
structure St where
  root : Int
  frm : Int
  pages : List Int
  bytes : List Bs
/-- What a page has. -/
def pageB (D : Dk) (x : Int) : Bs := (D.secs (2 + 8 * x.toNat) 8).flatten
def init : St := { root := -1, frm := 1, pages := [], bytes := [] }

/-- The heads on a disk say: g, a root (plus one), a From. -/
structure Heads (D : Dk) (n g r f : Nat) : Prop where
  here : D.safe.getD (g % 2) [] = headL g r f
  other : (Pg.parse n (D.safe.getD ((g + 1) % 2) []) ((g + 1) % 2)).1 < g
  g1 : 1 ≤ g
  g2 : g ≤ 1152921504606846976
  r : r ≤ n
  f1 : 1 ≤ f
  f2 : f ≤ 1152921504606846976
  c0 : D.w? 0 = none
  c1 : D.w? 1 = none
/-- A disk of n pages. -/
structure Base (D : Dk) (n : Nat) : Prop where
  ok : D.Ok
  cnt : D.n = 2 + 8 * n
  n1 : 1 ≤ n
  n12 : n ≤ 12
/-- What a disk bears, of a state. -/
structure Bears (D : Dk) (n g : Nat) (s : St) : Prop where
  base : Base D n
  heads : Heads D n g (s.root + 1).toNat s.frm.toNat
  root : -1 ≤ s.root
  frm : 1 ≤ s.frm
  nodup : s.pages.Nodup
  range : ∀ x ∈ s.pages, 0 ≤ x ∧ x < n
  bytes : s.bytes = s.pages.map (pageB D)
  clean : ∀ x ∈ s.pages, ∀ k, k < 8 → D.w? (2 + 8 * x.toNat + k) = none
/-- Between two calls. -/
structure Inv (n : Nat) (p : Pg) (D : Dk) (s : St) : Prop where
  bears : Bears D n p.gen s
  dead : D.dead = false
  pok : p.Ok D.n
  pdead : p.dead = false
  first : p.first = 2
  pages : p.pages = n
  root : p.root = s.root
  frm : (p.frm : Int) = s.frm
  live : ∀ x, x ∈ p.live ↔ x ∈ s.pages
  apart : ∀ x ∈ p.taken, x ∉ p.live
/-- Behind a crash. -/
structure Crashed (n : Nat) (D : Dk) (s : St) : Prop where
  bears : ∃ g, Bears D n g s
  dead : D.dead = true
  clean : ∀ i, D.w? i = none

theorem pageB_keep {D D' : Dk} {x : Int} (h : ∀ k, k < 8 → D'.sec (2 + 8 * x.toNat + k) = D.sec (2 + 8 * x.toNat + k)) : pageB D' x = pageB D x := by
  unfold pageB Dk.secs
  congr 1
  apply List.map_congr_left
  intro k hk
  exact h k (by simpa using hk)
/-- Where the heads and the pages of a state are kept, so is the state. -/
theorem Bears.keep {D D' : Dk} {n g : Nat} {s : St} (h : Bears D n g s) (hok : D'.Ok) (hn : D'.n = D.n) (h0 : Dk.Keep D D' 0) (h1 : Dk.Keep D D' 1)
    (hp : ∀ x ∈ s.pages, ∀ k, k < 8 → Dk.Keep D D' (2 + 8 * x.toNat + k)) : Bears D' n g s := by
  have h2 : ∀ i, i < 2 → D'.safe.getD i [] = D.safe.getD i [] := fun i hi => by
    rcases (by omega : i = 0 ∨ i = 1) with rfl | rfl
    · exact h0.s
    · exact h1.s
  refine ⟨⟨hok, by rw [hn]; exact h.base.cnt, h.base.n1, h.base.n12⟩, ⟨?_, ?_, h.heads.g1, h.heads.g2, h.heads.r, h.heads.f1, h.heads.f2, h0.w, h1.w⟩, h.root, h.frm, h.nodup, h.range, ?_, fun x hx k hk => (hp x hx k hk).w⟩
  · rw [h2 _ (Nat.mod_lt _ (by decide))]; exact h.heads.here
  · rw [h2 _ (Nat.mod_lt _ (by decide))]; exact h.heads.other
  · rw [h.bytes]
    apply List.map_congr_left
    intro x hx
    exact (pageB_keep fun k hk => (hp x hx k hk).sec (h.clean x hx k hk)).symm
theorem sec_lt {n : Nat} {x : Int} {k : Nat} (h : 0 ≤ x ∧ x < n) (hk : k < 8) : 2 + 8 * x.toNat + k < 2 + 8 * n := by omega

/-! ### the calls -/
theorem Inv.alloc {n : Nat} {p : Pg} {D : Dk} {s : St} (h : Inv n p D s) : Inv n p.alloc.1 D s := by
  have hok := h.pok.alloc
  unfold Pg.alloc at *
  split
  · rename_i i hi
    have h1 := (List.find?_range_eq_some.1 hi).1
    unfold Pg.used at h1
    simp only [Bool.not_eq_true', Bool.or_eq_false_iff] at h1
    refine ⟨h.bears, h.dead, ?_, h.pdead, h.first, h.pages, h.root, h.frm, h.live, fun x hx => ?_⟩
    · simpa [hi] using hok
    · rcases List.mem_cons.1 hx with rfl | hx
      · simpa using h1.1
      · exact h.apart x hx
  · exact h
theorem Inv.drop {n : Nat} {p : Pg} {D : Dk} {s : St} (h : Inv n p D s) : Inv n p.drop D s :=
  ⟨h.bears, h.dead, h.pok.drop, h.pdead, h.first, h.pages, h.root, h.frm, h.live, by intro x hx; cases hx⟩
theorem Inv.arm {n : Nat} {p : Pg} {D : Dk} {s : St} (h : Inv n p D s) {m : Int} (kept : List Int) (hm : m ≤ 9223372036854775807) : Inv n p (D.arm m kept).1 s := by
  have hok := h.bears.base.ok.arm kept hm
  have e1 : (D.arm m kept).1.safe = D.safe ∧ (D.arm m kept).1.wr = D.wr ∧ (D.arm m kept).1.dead = D.dead := by
    unfold Dk.arm
    repeat' split
    all_goals exact ⟨rfl, rfl, rfl⟩
  have hn : (D.arm m kept).1.n = D.n := by unfold Dk.n; rw [e1.1]
  have hw : ∀ i, D.w? i = none → Dk.Keep D (D.arm m kept).1 i := fun i hi => ⟨by unfold Dk.w?; rw [e1.2.1]; exact hi, by rw [e1.1]⟩
  refine ⟨h.bears.keep hok hn (hw 0 h.bears.heads.c0) (hw 1 h.bears.heads.c1) (fun x hx k hk => hw _ (h.bears.clean x hx k hk)), by rw [e1.2.2]; exact h.dead, by rw [hn]; exact h.pok, h.pdead, h.first, h.pages, h.root, h.frm, h.live, h.apart⟩
theorem Inv.crash {n : Nat} {p : Pg} {D : Dk} {s : St} (h : Inv n p D s) (kept : List Int) : Crashed n (D.crash kept).1 s := by
  have e : (D.crash kept).1 = D.die kept := by unfold Dk.crash; rw [h.dead]; rfl
  rw [e]
  have hn := h.bears.base.cnt
  have hb := h.bears.base.ok
  refine ⟨⟨p.gen, h.bears.keep (hb.die kept) (Dk.die_n D kept) (Dk.keep_die hb kept (by rw [hn]; omega) h.bears.heads.c0) (Dk.keep_die hb kept (by rw [hn]; omega) h.bears.heads.c1) (fun x hx k hk => Dk.keep_die hb kept (by rw [hn]; exact sec_lt (h.bears.range x hx) hk) (h.bears.clean x hx k hk))⟩, rfl, fun i => Dk.w?_die D kept i⟩
theorem Inv.write {n : Nat} {p : Pg} {D : Dk} {s : St} (h : Inv n p D s) (page : Int) (t : Bs) :
    ((p.write D page t).2.1.dead = false ∧ Inv n (p.write D page t).1 (p.write D page t).2.1 s) ∨ Crashed n (p.write D page t).2.1 s := by
  unfold Pg.write
  rw [h.pdead, if_neg (by decide)]
  split
  · exact .inl ⟨h.dead, h⟩
  · rename_i hlen
    split
    · exact .inl ⟨h.dead, h⟩
    · rename_i htk
      have hmem : page ∈ p.taken := by simpa using htk
      have hr := h.pok.taken page hmem
      have hpg := h.pages
      have hfi := h.first
      have hn := h.bears.base.cnt
      have hlz : (t ++ Pg.zeros (512 - t.length)).length = 512 := by simp [Pg.zeros]; omega
      have hcl : (Dk.chunks (t ++ Pg.zeros (512 - t.length))).length = 8 := by rw [Dk.chunks_length, hlz]
      have hwr : D.write ((p.first : Int) + 8 * page) (t ++ Pg.zeros (512 - t.length)) = D.writeGo (2 + 8 * page.toNat) (Dk.chunks (t ++ Pg.zeros (512 - t.length))) := by
        unfold Dk.write
        rw [h.dead, if_neg (by decide), if_neg (by omega), if_neg (by omega)]
        congr 1
        omega
      rw [hwr]
      have h64 := Dk.chunks_64 (t ++ Pg.zeros (512 - t.length))
      have hb := h.bears.base.ok
      have hok := Dk.Ok.writeGo _ hb (2 + 8 * page.toNat) h64
      have hdn := Dk.writeGo_n (Dk.chunks (t ++ Pg.zeros (512 - t.length))) D (2 + 8 * page.toNat)
      have hkeep : ∀ i, i < D.n → (i < 2 + 8 * page.toNat ∨ 2 + 8 * page.toNat + 8 ≤ i) → D.w? i = none → Dk.Keep D (D.writeGo (2 + 8 * page.toNat) (Dk.chunks (t ++ Pg.zeros (512 - t.length)))).1 i := fun i hi ho hw =>
        Dk.keep_writeGo _ hb _ h64 (by rw [hcl]; omega) hi (by rw [hcl]; exact ho) hw
      have hbears : Bears (D.writeGo (2 + 8 * page.toNat) (Dk.chunks (t ++ Pg.zeros (512 - t.length)))).1 n p.gen s := by
        refine h.bears.keep hok hdn (hkeep 0 (by omega) (by omega) h.bears.heads.c0) (hkeep 1 (by omega) (by omega) h.bears.heads.c1) (fun x hx k hk => ?_)
        have hxr := h.bears.range x hx
        have hne : x ≠ page := fun e => h.apart page hmem ((h.live page).2 (e ▸ hx))
        exact hkeep _ (by rw [hn]; exact sec_lt hxr hk) (by omega) (h.bears.clean x hx k hk)
      rcases Dk.writeGo_ends (Dk.chunks (t ++ Pg.zeros (512 - t.length))) D (2 + 8 * page.toNat) h.dead with ⟨e1, e2⟩ | ⟨e1, e2, e3⟩
      · refine .inl ⟨e2, ?_⟩
        rw [e1, Pg.told_zero]
        exact ⟨hbears, e2, by rw [hdn]; exact h.pok, h.pdead, h.first, h.pages, h.root, h.frm, h.live, h.apart⟩
      · exact .inr ⟨⟨p.gen, hbears⟩, e2, e3⟩

/-! ### Commit -/
theorem foldl_insert_le : ∀ (xs acc : List Int), (xs.foldl (fun l x => l.insert x) acc).length ≤ acc.length + xs.length
  | [], acc => by simp
  | x :: xs, acc => by
    have h := foldl_insert_le xs (acc.insert x)
    have h2 : (acc.insert x).length ≤ acc.length + 1 := by
      by_cases hx : x ∈ acc
      · rw [List.insert_of_mem hx]; omega
      · rw [List.insert_of_not_mem hx]; simp
    simp only [List.foldl_cons, List.length_cons]
    omega
theorem foldl_insert_nodup' : ∀ (xs acc : List Int), (xs.foldl (fun l x => l.insert x) acc).length = acc.length + xs.length → xs.Nodup ∧ ∀ x ∈ xs, x ∉ acc
  | [], acc, _ => ⟨List.nodup_nil, by intro x hx; cases hx⟩
  | x :: xs, acc, h => by
    simp only [List.foldl_cons, List.length_cons] at h
    by_cases hx : x ∈ acc
    · rw [List.insert_of_mem hx] at h
      have := foldl_insert_le xs acc
      omega
    · rw [List.insert_of_not_mem hx] at h
      obtain ⟨h1, h2⟩ := foldl_insert_nodup' xs (x :: acc) (by simp only [List.length_cons]; omega)
      refine ⟨List.nodup_cons.2 ⟨fun hm => h2 x hm (by simp), h1⟩, fun y hy => ?_⟩
      rcases List.mem_cons.1 hy with rfl | hy
      · exact hx
      · exact fun hm => h2 y hy (by simp [hm])
theorem setOf_nodup {may : Int → Bool} {xs l : List Int} (h : Pg.setOf may xs = some l) : xs.Nodup ∧ l.length = xs.length := by
  unfold Pg.setOf at h
  split at h
  · rename_i hc
    cases h
    exact ⟨(foldl_insert_nodup' xs [] (by simpa [Pg.insAll] using hc.2)).1, hc.2⟩
  · cases h

section
variable {n : Nat} {p : Pg} {D D1 Y : Dk} {s : St} {root frm : Int} {xs : List Int}
/-- What a commit makes count. -/
def next (D : Dk) (root frm : Int) (xs : List Int) : St := { root := root, frm := frm, pages := xs, bytes := xs.map (pageB D) }
/-- What a commit has been let in with. -/
structure Let (n : Nat) (p : Pg) (root frm : Int) (xs : List Int) : Prop where
  range : ∀ x ∈ xs, 0 ≤ x ∧ x < n
  nodup : xs.Nodup
  root : -1 ≤ root ∧ root < n
  frm : 1 ≤ frm ∧ frm ≤ 1152921504606846976
  gen : p.gen < 1152921504606846976
/-- A disk that is safe as it was read. -/
structure Synced (D D1 : Dk) : Prop where
  ok : D1.Ok
  n : D1.n = D.n
  w : ∀ i, D1.w? i = none
  s : ∀ i, i < D.n → D1.safe.getD i [] = D.sec i
theorem Synced.old (h : Inv n p D s) (h1 : Synced D D1) (hok : Y.Ok) (hn : Y.n = D.n) (hw : ∀ i, Y.w? i = none) (hs : ∀ i, i < D.n → Y.safe.getD i [] = D1.safe.getD i []) : Bears Y n p.gen s := by
  have hdn := h.bears.base.cnt
  have hk : ∀ i, i < D.n → D.w? i = none → Dk.Keep D Y i := fun i hi hwi => ⟨hw i, by rw [hs i hi, h1.s i hi]; unfold Dk.sec; rw [hwi]; rfl⟩
  exact h.bears.keep hok hn (hk 0 (by omega) h.bears.heads.c0) (hk 1 (by omega) h.bears.heads.c1) (fun x hx k hk' => hk _ (by rw [hdn]; exact sec_lt (h.bears.range x hx) hk') (h.bears.clean x hx k hk'))
theorem Synced.new (h : Inv n p D s) (hl : Let n p root frm xs) (h1 : Synced D D1) (hok : Y.Ok) (hn : Y.n = D.n) (hw : ∀ i, Y.w? i = none) (hs : ∀ i, i < D.n → i ≠ (p.gen + 1) % 2 → Y.safe.getD i [] = D1.safe.getD i [])
    (hh : Y.safe.getD ((p.gen + 1) % 2) [] = headL (p.gen + 1) (root + 1).toNat frm.toNat) : Bears Y n (p.gen + 1) (next D root frm xs) := by
  have hdn := h.bears.base.cnt
  have hg := hl.gen
  have hro := hl.root
  have hfr := hl.frm
  have hn1 := h.bears.base.n1
  have hn12 := h.bears.base.n12
  have hold := h.bears.heads.here
  have hm : (p.gen + 1 + 1) % 2 = p.gen % 2 := by omega
  have hne : p.gen % 2 ≠ (p.gen + 1) % 2 := by omega
  have hclean : D.w? (p.gen % 2) = none := by
    rcases (by omega : p.gen % 2 = 0 ∨ p.gen % 2 = 1) with e | e
    · rw [e]; exact h.bears.heads.c0
    · rw [e]; exact h.bears.heads.c1
  have hlt : p.gen % 2 < D.n := by omega
  refine ⟨⟨hok, by rw [hn]; exact hdn, hn1, hn12⟩, ⟨hh, ?_, by omega, by omega, by show (root + 1).toNat ≤ n; omega, by show 1 ≤ frm.toNat; omega, by show frm.toNat ≤ _; omega, hw 0, hw 1⟩, hro.1, hfr.1, hl.nodup, hl.range, ?_, fun x _ k _ => hw _⟩
  · rw [hm, hs _ hlt hne, h1.s _ hlt]
    have : D.sec (p.gen % 2) = headL p.gen (s.root + 1).toNat s.frm.toNat := by unfold Dk.sec; rw [hclean]; exact hold
    rw [this]
    have := parse_le n p.gen (s.root + 1).toNat s.frm.toNat (p.gen % 2) (by omega)
    omega
  · show xs.map (pageB D) = xs.map (pageB Y)
    apply List.map_congr_left
    intro x hx
    refine (pageB_keep fun k hk => ?_).symm
    have hlt2 := sec_lt (hl.range x hx) hk
    have e1 : Y.sec (2 + 8 * x.toNat + k) = Y.safe.getD (2 + 8 * x.toNat + k) [] := by unfold Dk.sec; rw [hw]; rfl
    rw [e1, hs _ (by omega) (by omega), h1.s _ (by omega)]
/-- Where a new head was being written. -/
theorem Synced.headed (h : Inv n p D s) (hl : Let n p root frm xs) (h1 : Synced D D1) {X : Dk} (hok : X.Ok) (hn : X.n = D.n) (hsafe : X.safe = D1.safe)
    (hw : ∀ i, X.w? i = if i = (p.gen + 1) % 2 then some (headL (p.gen + 1) (root + 1).toNat frm.toNat) else none) (kept : List Int) :
    Crashed n (X.die kept) s ∨ Crashed n (X.die kept) (next D root frm xs) := by
  have hdn := h.bears.base.cnt
  have hh2 : (p.gen + 1) % 2 < X.n := by omega
  have hoth : ∀ i, i < D.n → i ≠ (p.gen + 1) % 2 → (X.die kept).safe.getD i [] = D1.safe.getD i [] := fun i hi hne => by
    rw [(Dk.keep_die hok kept (by rw [hn]; exact hi) (by rw [hw, if_neg hne])).s, hsafe]
  have hsec : X.sec ((p.gen + 1) % 2) = headL (p.gen + 1) (root + 1).toNat frm.toNat := by unfold Dk.sec; rw [hw, if_pos rfl]; rfl
  rcases Dk.safe_die hok kept hh2 with e | e
  · refine .inl ⟨⟨p.gen, Synced.old h h1 (hok.die kept) (by rw [Dk.die_n, hn]) (Dk.w?_die X kept) (fun i hi => ?_)⟩, rfl, Dk.w?_die X kept⟩
    by_cases hi2 : i = (p.gen + 1) % 2
    · rw [hi2, e, hsafe]
    · exact hoth i hi hi2
  · refine .inr ⟨⟨p.gen + 1, Synced.new h hl h1 (hok.die kept) (by rw [Dk.die_n, hn]) (Dk.w?_die X kept) hoth (by rw [e, hsec])⟩, rfl, Dk.w?_die X kept⟩
end

theorem Inv.finish {n : Nat} {p : Pg} {D : Dk} {s : St} (h : Inv n p D s) {root frm : Int} {xs l : List Int} (hl : Let n p root frm xs) (hll : ∀ x, x ∈ l ↔ x ∈ xs) (hln : l.Nodup) :
    ((p.finish D root frm l).2.2 = 0 ∧ (p.finish D root frm l).2.1.dead = false ∧ Inv n (p.finish D root frm l).1 (p.finish D root frm l).2.1 (next D root frm xs)) ∨
    ((p.finish D root frm l).2.2 = 2 ∧ (Crashed n (p.finish D root frm l).2.1 s ∨ Crashed n (p.finish D root frm l).2.1 (next D root frm xs))) := by
  have hdn := h.bears.base.cnt
  have hb := h.bears.base.ok
  have hhl : (headL (p.gen + 1) (root + 1).toNat frm.toNat).length = 64 := by simp [headL, beL_length]
  unfold Pg.finish
  rcases Dk.sync_ends hb h.dead with ⟨e0, ed, en, ew, es⟩ | ⟨e0, ed, en, ew, es⟩
  · rw [e0, if_neg (by decide)]
    have h1 : Synced D D.sync.1 := ⟨hb.sync, en, ew, es⟩
    obtain ⟨D1, hD1⟩ : ∃ D1, D1 = D.sync.1 := ⟨_, rfl⟩
    rw [← hD1] at h1 ed ⊢
    clear hD1 e0 en ew es
    have hw1 := Dk.write_one h1.ok ed ((p.gen + 1) % 2) (by rw [h1.n]; omega) _ hhl
    rw [hw1]
    have hput := h1.ok.put ((p.gen + 1) % 2) hhl
    have hX : ∀ i, (D1.put ((p.gen + 1) % 2) (headL (p.gen + 1) (root + 1).toNat frm.toNat)).w? i = if i = (p.gen + 1) % 2 then some (headL (p.gen + 1) (root + 1).toNat frm.toNat) else none := fun i => by
      rw [Dk.w?_put h1.ok (by rw [h1.n]; omega)]
      split
      · rfl
      · exact h1.w i
    obtain ⟨E, hE⟩ : ∃ E, E = (D1.put ((p.gen + 1) % 2) (headL (p.gen + 1) (root + 1).toNat frm.toNat)).stepD := ⟨_, rfl⟩
    have hEok : E.Ok := by rw [hE]; exact hput.stepD
    have hEn : E.n = D.n := by rw [hE, Dk.stepD_n, Dk.put_n]; exact h1.n
    have hEs : E.safe = D1.safe := by rw [hE, Dk.stepD_safe]; rfl
    have hEw : ∀ i, E.w? i = if i = (p.gen + 1) % 2 then some (headL (p.gen + 1) (root + 1).toNat frm.toNat) else none := fun i => by
      rw [← hX i, hE]; unfold Dk.w?; rw [Dk.stepD_wr]
    have hEd : E.dead = false := by rw [hE, Dk.stepD_dead]; exact ed
    rw [← hE]
    split
    · rename_i harm
      rw [if_pos (by show (2 : Int) ≠ 0; decide)]
      exact .inr ⟨rfl, Synced.headed h hl h1 hEok hEn hEs hEw _⟩
    · rw [if_neg (by show ¬ (0 : Int) ≠ 0; decide)]
      show (((if E.sync.2 ≠ 0 then (p.told E.sync.2, E.sync.1, E.sync.2) else ({ p with gen := p.gen + 1, root := root, frm := frm.toNat, live := l, taken := [] }, E.sync.1, 0)) : Pg × Dk × Int).2.2 = 0 ∧ _) ∨ _
      rcases Dk.sync_ends hEok hEd with ⟨f0, fd, fn, fw, fs⟩ | ⟨f0, fd, fn, fw, fs⟩
      · rw [f0, if_neg (by decide)]
        have hsec : E.sec ((p.gen + 1) % 2) = headL (p.gen + 1) (root + 1).toNat frm.toNat := by unfold Dk.sec; rw [hEw, if_pos rfl]; rfl
        have hnew := Synced.new (Y := E.sync.1) h hl h1 hEok.sync (by rw [fn, hEn]) fw (fun i hi hne => by
          rw [fs i (by rw [hEn]; exact hi)]
          unfold Dk.sec
          rw [hEw, if_neg hne, hEs]; rfl) (by rw [fs _ (by rw [hEn]; omega), hsec])
        have hro := hl.root
        have hfr := hl.frm
        have hg := hl.gen
        refine .inl ⟨rfl, fd, ⟨hnew, fd, ?_, h.pdead, h.first, h.pages, rfl, by show ((frm.toNat : Nat) : Int) = frm; omega, hll, by intro x hx; cases hx⟩⟩
        have hpk := h.pok
        have hpp := h.pages
        rw [fn, hEn]
        exact ⟨hpk.first2, hpk.pages1, hpk.fits, hpk.n4096, hro.1, by show root < (p.pages : Int); rw [hpp]; exact hro.2, by show 1 ≤ frm.toNat; omega, by show frm.toNat ≤ _; omega, by show 1 ≤ p.gen + 1; omega, by show p.gen + 1 ≤ _; omega, (by intro x hx; show 0 ≤ x ∧ x < (p.pages : Int); rw [hpp]; exact hl.range x ((hll x).1 hx)), hln, (by intro x hx; cases hx), List.nodup_nil⟩
      · rw [f0, if_pos (by decide)]
        have hdie : E.sync.1 = E.stepD.die E.kept := by
          unfold Dk.sync at f0 ⊢
          rw [hEd, if_neg (by decide)] at f0 ⊢
          split
          · rfl
          · rename_i hna
            rw [if_neg hna] at f0
            cases f0
        refine .inr ⟨rfl, ?_⟩
        show Crashed n E.sync.1 s ∨ Crashed n E.sync.1 _
        rw [hdie]
        exact Synced.headed h hl h1 hEok.stepD (by rw [Dk.stepD_n, hEn]) (by rw [Dk.stepD_safe, hEs]) (fun i => by rw [← hEw i]; unfold Dk.w?; rw [Dk.stepD_wr]) _
  · rw [e0, if_pos (by decide)]
    refine .inr ⟨rfl, .inl ⟨⟨p.gen, ?_⟩, ed, ew⟩⟩
    have hk : ∀ i, i < D.n → D.w? i = none → Dk.Keep D D.sync.1 i := fun i hi hwi => ⟨ew i, es i hi hwi⟩
    exact h.bears.keep hb.sync en (hk 0 (by omega) h.bears.heads.c0) (hk 1 (by omega) h.bears.heads.c1) (fun x hx k hk' => hk _ (by rw [hdn]; exact sec_lt (h.bears.range x hx) hk') (h.bears.clean x hx k hk'))

theorem Inv.commit {n : Nat} {p : Pg} {D : Dk} {s : St} (h : Inv n p D s) (root frm : Int) (xs : List Int) :
    ((p.commit D root frm xs).2.2 = 0 ∧ (∀ x ∈ xs, p.is x = true) ∧ (p.commit D root frm xs).2.1.dead = false ∧ Inv n (p.commit D root frm xs).1 (p.commit D root frm xs).2.1 (next D root frm xs)) ∨
    ((p.commit D root frm xs).2.2 ≠ 0 ∧ (p.commit D root frm xs).2.2 ≠ 2 ∧ (p.commit D root frm xs).2.1.dead = false ∧ Inv n (p.commit D root frm xs).1 (p.commit D root frm xs).2.1 s) ∨
    ((p.commit D root frm xs).2.2 = 2 ∧ (∀ x ∈ xs, p.is x = true) ∧ (Crashed n (p.commit D root frm xs).2.1 s ∨ Crashed n (p.commit D root frm xs).2.1 (next D root frm xs))) := by
  unfold Pg.commit
  rw [h.pdead, if_neg (by decide)]
  split
  · exact .inr (.inl ⟨by simp, by simp, h.dead, h⟩)
  · rename_i l hso
    obtain ⟨hle, hmay, hln⟩ := Pg.setOf_some hso
    obtain ⟨hxn, _⟩ := setOf_nodup hso
    have hll : ∀ x, x ∈ l ↔ x ∈ xs := fun x => by rw [hle]; exact Pg.mem_insAll xs x
    have his : ∀ x ∈ xs, p.is x = true := fun x hx => by
      have := hmay x ((hll x).2 hx)
      simp only [Bool.and_eq_true] at this
      exact this.1
    have hrng : ∀ x ∈ xs, 0 ≤ x ∧ x < (n : Int) := fun x hx => by
      have := his x hx
      unfold Pg.is at this
      rw [decide_eq_true_eq, h.pages] at this
      exact this
    split
    · exact .inr (.inl ⟨by simp, by simp, h.dead, h⟩)
    · rename_i hr
      split
      · exact .inr (.inl ⟨by simp, by simp, h.dead, h⟩)
      · rename_i hf
        have hn1 := h.bears.base.n1
        have hlet : Let n p root frm xs := by
          refine ⟨hrng, hxn, ?_, by omega, by omega⟩
          by_cases hroot : root = -1
          · omega
          · have : root ∈ l := by
              have := fun hc => hr ⟨hroot, hc⟩
              simpa using this
            have := hrng root ((hll root).1 this)
            omega
        rcases h.finish hlet hll hln with ⟨a, b, c⟩ | ⟨a, b⟩
        · exact .inl ⟨a, his, b, c⟩
        · exact .inr (.inr ⟨a, his, b⟩)
end Kp
end Go.Proofs.Ytmeepegllkhlcaa
