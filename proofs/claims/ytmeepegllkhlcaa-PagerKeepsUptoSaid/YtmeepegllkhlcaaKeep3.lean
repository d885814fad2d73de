/-
  What stands, plain: a state is read back page by page; a disk behind a crash is opened as it was committed.
-/
import Derived.Test.YtmeepegllkhlcaaKeep2
namespace Go.Proofs.Ytmeepegllkhlcaa
namespace Kp
/-- What the law's live tells. -/
def liveP (p : Pg) (D : Dk) (xs : List Int) : Option (List Bs) :=
  if xs.all (fun x => (p.read D x).2 == 0 && (p.read D x).1.length == 512) then some (xs.map fun x => (p.read D x).1) else none
def standsP (p : Pg) (D : Dk) (s : St) : Bool :=
  match liveP p D s.pages with
  | none => false
  | some l => p.root == s.root && (p.frm : Int) == s.frm && l == s.bytes

theorem pageB_length {D : Dk} {n : Nat} (h : Base D n) {x : Int} (hx : 0 ≤ x ∧ x < n) : (pageB D x).length = 512 := by
  unfold pageB
  rw [Dk.flatten_length_of]
  · simp [Dk.secs]
  · intro s hs
    simp only [Dk.secs, List.mem_map, List.mem_range] at hs
    obtain ⟨k, hk, rfl⟩ := hs
    exact Dk.sec_length h.ok (by rw [h.cnt]; exact sec_lt hx hk)
theorem read_page {p : Pg} {D : Dk} {n : Nat} (h : Base D n) (hd : D.dead = false) (h1 : p.first = 2) (h2 : p.pages = n) {x : Int} (hx : 0 ≤ x ∧ x < n) : p.read D x = (pageB D x, 0) := by
  unfold Pg.read
  have his : p.is x = true := by unfold Pg.is; rw [decide_eq_true_eq, h2]; exact hx
  have hn := h.cnt
  rw [his, if_pos rfl, h1]
  unfold Dk.read
  rw [hd, if_neg (by decide), if_neg (by omega)]
  have e1 : (((2 : Nat) : Int) + 8 * x).toNat = 2 + 8 * x.toNat := by omega
  rw [e1]
  rfl
theorem live_all {p : Pg} {D : Dk} {n : Nat} (h : Base D n) (hd : D.dead = false) (h1 : p.first = 2) (h2 : p.pages = n) {xs : List Int} (hx : ∀ x ∈ xs, 0 ≤ x ∧ x < (n : Int)) : liveP p D xs = some (xs.map (pageB D)) := by
  unfold liveP
  rw [if_pos]
  · congr 1
    apply List.map_congr_left
    intro x hm
    rw [read_page h hd h1 h2 (hx x hm)]
  · rw [List.all_eq_true]
    intro x hm
    rw [read_page h hd h1 h2 (hx x hm), pageB_length h (hx x hm)]
    rfl
theorem Inv.stands {n : Nat} {p : Pg} {D : Dk} {s : St} (h : Inv n p D s) : standsP p D s = true := by
  unfold standsP
  rw [live_all h.bears.base h.dead h.first h.pages h.bears.range]
  simp only []
  rw [h.bears.bytes]
  simp [h.root, h.frm]

theorem insAll_self : ∀ (xs acc : List Int), xs.Nodup → (∀ x ∈ xs, x ∉ acc) → (xs.foldl (fun l x => l.insert x) acc).length = acc.length + xs.length
  | [], acc, _, _ => by simp
  | x :: xs, acc, hn, hd => by
    rw [List.foldl_cons, List.insert_of_not_mem (hd x (by simp))]
    have h := List.nodup_cons.1 hn
    rw [insAll_self xs (x :: acc) h.2 (fun y hy => by
      intro hm
      rcases List.mem_cons.1 hm with rfl | hm
      · exact h.1 hy
      · exact hd y (by simp [hy]) hm)]
    simp only [List.length_cons]
    omega
theorem setOf_all {may : Int → Bool} {xs : List Int} (hn : xs.Nodup) (hm : ∀ x ∈ xs, may x = true) : Pg.setOf may xs = some (Pg.insAll xs) := by
  have := insAll_self xs [] hn (by simp)
  have hlen : (Pg.insAll xs).length = xs.length := by simpa [Pg.insAll] using this
  unfold Pg.setOf
  rw [if_pos ⟨List.all_eq_true.2 hm, hlen⟩]

/-- What Open makes of heads. -/
def found (n g r f : Nat) : Pg := { first := 2, pages := n, root := (r : Int) - 1, frm := f, gen := g, live := [], taken := [], dead := false }
theorem open_found {D : Dk} {n g r f : Nat} (hb : Base D n) (hd : D.dead = false) (hh : Heads D n g r f) : Pg.open_ D 2 n = (some (found n g r f), 0) := by
  have hn := hb.cnt
  have hn1 := hb.n1
  have hn12 := hb.n12
  have hck : Pg.check D 2 (n : Int) 1 = 0 := by
    unfold Pg.check
    rw [if_neg (by omega), hd]; rfl
  have hs0 : D.sec 0 = D.safe.getD 0 [] := by unfold Dk.sec; rw [hh.c0]; rfl
  have hs1 : D.sec 1 = D.safe.getD 1 [] := by unfold Dk.sec; rw [hh.c1]; rfl
  have hp := parse_head (n := n) hh.g1 hh.g2 hh.r (by omega) hh.f1 hh.f2
  have hg1 := hh.g1
  have ho := hh.other
  have he := hh.here
  unfold Pg.open_
  rw [hck, if_neg (by decide)]
  simp only []
  rw [hs0, hs1, show ((n : Int)).toNat = n from by omega, show ((2 : Int)).toNat = 2 from rfl]
  rcases (by omega : g % 2 = 0 ∨ g % 2 = 1) with e | e
  · have e2 : (g + 1) % 2 = 1 := by omega
    rw [e] at he hp
    rw [e2] at ho
    rw [he, hp]
    have hb1 : Pg.better { first := 2, pages := n, root := 0, frm := 0, gen := 0, live := [], taken := [], dead := false } (g, (r : Int) - 1, f) = found n g r f := by
      unfold Pg.better
      rw [if_pos (by show 0 < g; omega)]; rfl
    rw [hb1]
    have hb2 : Pg.better (found n g r f) (Pg.parse n (D.safe.getD 1 []) 1) = found n g r f := by
      unfold Pg.better
      rw [if_neg (by show ¬ g < _; omega)]
    rw [hb2, if_neg (by show ¬ g = 0; omega)]
  · have e2 : (g + 1) % 2 = 0 := by omega
    rw [e] at he hp
    rw [e2] at ho
    rw [he, hp]
    have hb2 : ∀ q : Pg, q.first = 2 → q.pages = n → q.live = [] → q.taken = [] → q.dead = false → q.gen < g → Pg.better q (g, (r : Int) - 1, f) = found n g r f := by
      intro q h1 h2 h3 h4 h5 h6
      unfold Pg.better
      rw [if_pos h6]
      obtain ⟨a, b, c, d, e, f', g', h'⟩ := q
      simp only at h1 h2 h3 h4 h5
      subst h1 h2 h3 h4 h5
      rfl
    have hq : ∀ t, t.1 < g → Pg.better (Pg.better { first := 2, pages := n, root := 0, frm := 0, gen := 0, live := [], taken := [], dead := false } t) (g, (r : Int) - 1, f) = found n g r f := by
      intro t ht
      by_cases h0 : 0 < t.1
      · have e3 : Pg.better { first := 2, pages := n, root := 0, frm := 0, gen := 0, live := [], taken := [], dead := false } t = { first := 2, pages := n, root := t.2.1, frm := t.2.2, gen := t.1, live := [], taken := [], dead := false } := by
          unfold Pg.better
          rw [if_pos h0]
        rw [e3]
        exact hb2 _ rfl rfl rfl rfl rfl ht
      · have e3 : Pg.better { first := 2, pages := n, root := 0, frm := 0, gen := 0, live := [], taken := [], dead := false } t = { first := 2, pages := n, root := 0, frm := 0, gen := 0, live := [], taken := [], dead := false } := by
          unfold Pg.better
          rw [if_neg h0]
        rw [e3]
        exact hb2 _ rfl rfl rfl rfl rfl hg1
    rw [hq _ ho, if_neg (by show ¬ g = 0; omega)]

/-- A disk behind a crash, revived: it is opened; what it bears stands; whatever stands goes on. -/
theorem Crashed.reopen {n : Nat} {D : Dk} {t : St} (h : Crashed n D t) :
    ∃ p, Pg.open_ D.revive 2 n = (some p, 0) ∧ p.Ok D.revive.n ∧ p.first = 2 ∧ p.pages = n ∧ standsP p D.revive t = true ∧ Base D.revive n ∧
      ∀ s : St, s.pages.Nodup → (∀ x ∈ s.pages, 0 ≤ x ∧ x < (n : Int)) → standsP p D.revive s = true → (p.setLive s.pages).2 = 0 ∧ Inv n (p.setLive s.pages).1 D.revive s := by
  obtain ⟨⟨g, hb⟩, hdead, hcl⟩ := h
  have hbase : Base D.revive n := ⟨hb.base.ok.revive, hb.base.cnt, hb.base.n1, hb.base.n12⟩
  have hheads : Heads D.revive n g (t.root + 1).toNat t.frm.toNat := ⟨hb.heads.here, hb.heads.other, hb.heads.g1, hb.heads.g2, hb.heads.r, hb.heads.f1, hb.heads.f2, hb.heads.c0, hb.heads.c1⟩
  have hopen := open_found hbase rfl hheads
  have hn := hbase.cnt
  have hn1 := hbase.n1
  have hn12 := hbase.n12
  have hr := hb.heads.r
  have hroot := hb.root
  have hfrm := hb.frm
  have hok : (found n g (t.root + 1).toNat t.frm.toNat).Ok D.revive.n := by
    refine ⟨Nat.le_refl 2, hn1, by show 2 + 8 * n ≤ _; omega, by omega, by show -1 ≤ ((t.root + 1).toNat : Int) - 1; omega, by show ((t.root + 1).toNat : Int) - 1 < (n : Int); omega, hb.heads.f1, hb.heads.f2, hb.heads.g1, hb.heads.g2, ?_, List.nodup_nil, ?_, List.nodup_nil⟩
    · intro x hx; cases hx
    · intro x hx; cases hx
  have hst : standsP (found n g (t.root + 1).toNat t.frm.toNat) D.revive t = true := by
    unfold standsP
    rw [live_all hbase rfl rfl rfl hb.range]
    simp only []
    rw [hb.bytes]
    have e1 : ((t.root + 1).toNat : Int) - 1 = t.root := by omega
    have e2 : ((t.frm.toNat : Nat) : Int) = t.frm := by omega
    have e3 : t.pages.map (pageB D.revive) = t.pages.map (pageB D) := rfl
    rw [e3]
    show (((t.root + 1).toNat : Int) - 1 == t.root && ((t.frm.toNat : Nat) : Int) == t.frm && _) = true
    rw [e1, e2]
    simp
  refine ⟨_, hopen, hok, rfl, rfl, hst, hbase, fun s hnd hrg hss => ?_⟩
  have his : ∀ x ∈ s.pages, (found n g (t.root + 1).toNat t.frm.toNat).is x = true := fun x hx => by
    unfold Pg.is
    rw [decide_eq_true_eq]
    exact hrg x hx
  have hset := setOf_all hnd his
  have hsl : (found n g (t.root + 1).toNat t.frm.toNat).setLive s.pages = ({ found n g (t.root + 1).toNat t.frm.toNat with live := Pg.insAll s.pages }, 0) := by
    unfold Pg.setLive
    rw [hset]
  rw [hsl]
  unfold standsP at hss
  rw [live_all hbase rfl rfl rfl hrg] at hss
  simp only [Bool.and_eq_true, beq_iff_eq] at hss
  obtain ⟨⟨s1, s2⟩, s3⟩ := hss
  have s1' : ((t.root + 1).toNat : Int) - 1 = s.root := s1
  have s2' : ((t.frm.toNat : Nat) : Int) = s.frm := s2
  have hroots : s.root = t.root := by omega
  have hfrms : s.frm = t.frm := by omega
  refine ⟨rfl, ⟨⟨hbase, by rw [hroots, hfrms]; exact hheads, by rw [hroots]; exact hroot, by rw [hfrms]; exact hfrm, hnd, hrg, s3.symm, fun x _ k _ => hcl _⟩, rfl, ?_, rfl, rfl, rfl, s1', s2', fun x => Pg.mem_insAll _ x, by intro x hx; cases hx⟩⟩
  exact ⟨hok.first2, hok.pages1, hok.fits, hok.n4096, hok.root0, hok.root1, hok.frm1, hok.frmMax, hok.gen1, hok.genMax, fun x hx => hrg x ((Pg.mem_insAll _ _).1 hx), Pg.insAll_nodup _, hok.taken, hok.takenN⟩

/-- A pager that has just been laid. -/
theorem inv_fresh {D : Dk} {n : Nat} (hD : D.Ok) (hf : D.Fit) (hn : D.n = 2 + 8 * n) (h1 : 1 ≤ n) (h12 : n ≤ 12) : Inv n (Pg.fresh 2 n 1) (Pg.format D 2 n 1).1 init ∧ (Pg.format D 2 n 1).2 = (some (Pg.fresh 2 n 1), 0) := by
  have hck : Pg.check D 2 (n : Int) 1 = 0 := by
    unfold Pg.check
    rw [if_neg (by omega), hf.dead]; rfl
  have hff := Pg.format_fit hf hck
  have hfo := Pg.fresh_ok hD hck
  rw [hff]
  refine ⟨?_, rfl⟩
  have hl : (headL 2 0 1).length = 64 := by simp [headL, beL_length]
  rw [show ((1 : Int)).toNat = 1 from rfl, Dk.chunks_one (Pg.zeros 64) (by simp [Pg.zeros]), Dk.chunks_one (headL 2 0 1) hl]
  obtain ⟨E, hE⟩ : ∃ E, E = (D.puts 1 [Pg.zeros 64]).puts 0 [headL 2 0 1] := ⟨_, rfl⟩
  have hE1 : E = (D.put 1 (Pg.zeros 64)).put 0 (headL 2 0 1) := hE
  rw [← hE]
  have ho1 : (D.put 1 (Pg.zeros 64)).Ok := hD.put 1 (by simp [Pg.zeros])
  have hEok : E.Ok := by rw [hE1]; exact ho1.put 0 hl
  have hEn : E.n = D.n := by rw [hE1]; rfl
  have w0 : E.w? 0 = some (headL 2 0 1) := by rw [hE1, Dk.w?_put ho1 (by rw [Dk.put_n]; omega), if_pos rfl]
  have w1 : E.w? 1 = some (Pg.zeros 64) := by rw [hE1, Dk.w?_put ho1 (by rw [Dk.put_n]; omega), if_neg (by decide), Dk.w?_put hD (by omega), if_pos rfl]
  have hwn := Dk.w?_becomes E E.image
  have hs0 : (E.becomes E.image).safe.getD 0 [] = headL 2 0 1 := by
    show E.image.getD 0 [] = _
    rw [Dk.image_at hEok (by omega)]
    unfold Dk.sec; rw [w0]; rfl
  have hs1 : (E.becomes E.image).safe.getD 1 [] = Pg.zeros 64 := by
    show E.image.getD 1 [] = _
    rw [Dk.image_at hEok (by omega)]
    unfold Dk.sec; rw [w1]; rfl
  have hbn : (E.becomes E.image).n = D.n := by rw [Dk.becomes_n, hEn]
  have hbok : (E.becomes E.image).Ok := hEok.becomes (Dk.left_length E _) (Dk.left_64 hEok _)
  have hdE : E.dead = false := by rw [hE1]; exact hf.dead
  have hz : Pg.beN (Pg.sub (Pg.zeros 64) 4 12) = 0 := by kernel_rfl
  have hpz : (Pg.parse n (Pg.zeros 64) 1).1 < 2 := by
    unfold Pg.parse
    rw [if_pos (.inl (by rw [hz]; decide))]
    decide
  have hheads : Heads (E.becomes E.image) n 2 0 1 := ⟨hs0, by rw [show (2 + 1) % 2 = 1 from rfl, hs1]; exact hpz, by decide, by decide, Nat.zero_le _, by decide, by decide, hwn 0, hwn 1⟩
  have hbears : Bears (E.becomes E.image) n 2 init := ⟨⟨hbok, by rw [hbn]; exact hn, h1, h12⟩, hheads, by decide, by decide, List.nodup_nil, (by intro x hx; cases hx), rfl, (by intro x hx; cases hx)⟩
  exact ⟨hbears, hdE, by rw [hbn]; exact hfo, rfl, rfl, by show (n : Int).toNat = n; omega, rfl, rfl, fun x => Iff.rfl, by intro x hx; cases hx⟩
end Kp
end Go.Proofs.Ytmeepegllkhlcaa
