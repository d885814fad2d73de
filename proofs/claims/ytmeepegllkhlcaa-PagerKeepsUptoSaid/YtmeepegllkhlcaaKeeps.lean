/-
  PagerKeeps: the walk.
-/
import Derived.Test.YtmeepegllkhlcaaLive
import Derived.Test.YtmeepegllkhlcaaTakes
import Derived.Test.YtmeepegllkhlcaaOps
namespace Go.Proofs.Ytmeepegllkhlcaa
open Go Go.RowKit Go.Maps

/-- What is known of a call of a script, wherever F holds. -/
structure OpP.Good (F : HProp) (o : OpP) : Prop where
  kind : i64ok o.kind
  at_ : i64ok o.at_
  n : i64ok o.n
  s : o.s.length ≤ 140737488355328
  pages : Reads F o.pv o.pages
  kept : Reads F o.kv o.kept
  pagesI : ∀ x ∈ o.pages, i64ok x
  pagesL : o.pages.length ≤ 2000000
  keptL : o.kept.length * 8 ≤ 140737488355328
/-- Texts of the call's own, or none. -/
def strsA (v : Value) (l : List Bs) : HProp := fun h => rowS v l h ∨ (pur (l = [] ∧ v = .slice none 0 0) : HProp) h
theorem reads_strsA {v : Value} {l : List Bs} (F : HProp) : ReadsS (strsA v l * F) v l := by
  intro w hw
  obtain ⟨x, hx, a, b, d, rfl, h1, hF⟩ := hw
  rcases h1 with h1 | h1
  · exact reads_rowS F w ⟨_, hx, a, b, d, rfl, h1, hF⟩
  · obtain ⟨⟨rfl, rfl⟩, _⟩ := h1
    exact ⟨none, 0, rfl, Nat.le_refl _, fun h => by cases h⟩
theorem strsA_of_row {v : Value} {l : List Bs} {F : HProp} {w : World} (h : Holds (rowS v l * F) w) : Holds (strsA v l * F) w := by
  obtain ⟨x, hx, a, b, d, rfl, h1, hF⟩ := h
  exact ⟨_, hx, a, b, d, rfl, .inl h1, hF⟩
theorem strsA_nil : strsA (.slice none 0 0) [] = (1 : HProp) ∨ True := .inr trivial
theorem strsA_none {F : HProp} {w : World} (h : Holds F w) : Holds (strsA (.slice none 0 0) [] * F) w := by
  obtain ⟨x, hx, hF⟩ := h
  refine ⟨x, hx, (fun _ => none), x, fun _ => .inl rfl, by funext i; simp [union], .inr ⟨⟨rfl, rfl⟩, rfl⟩, hF⟩
theorem reads_nil (F : HProp) : Reads F (.slice none 0 0) [] := fun w _ => ⟨none, 0, rfl, Nat.le_refl _, Nat.zero_le _, fun h => by cases h⟩
theorem strsA_val {v : Value} {l : List Bs} {F : HProp} {w : World} (h : Holds (strsA v l * F) w) : ∃ a c, v = .slice a l.length c := by
  obtain ⟨a, c, hv, _⟩ := reads_strsA F w h
  exact ⟨a, c, hv⟩

def stCells (s : Kp.St) (pv bv : Value) : Array Value := #[.int .i64 s.root, .int .i64 s.frm, pv, bv]
def wCells (img : Value) (f pg fr : Int) (sv : Value) : Array Value := #[img, .int .i64 f, .int .i64 pg, .int .i64 fr, sv]

/-- Behind a crash in a commit: what is opened is the last state or the next. -/
theorem Crashed_either {n : Nat} {D : Dk} {s t : Kp.St} (h : Kp.Crashed n D s ∨ Kp.Crashed n D t) :
    D.dead = true ∧ ∃ q, Pg.open_ D.revive 2 n = (some q, 0) ∧ q.Ok D.revive.n ∧ Kp.Base D.revive n ∧
      (∀ u : Kp.St, u.pages.Nodup → (∀ x ∈ u.pages, 0 ≤ x ∧ x < (n : Int)) → Kp.standsP q D.revive u = true → (q.setLive u.pages).2 = 0 ∧ Kp.Inv n (q.setLive u.pages).1 D.revive u) ∧
      (Kp.standsP q D.revive s = true ∨ (Kp.standsP q D.revive s = false ∧ Kp.standsP q D.revive t = true ∧ t.pages.Nodup ∧ ∀ x ∈ t.pages, 0 ≤ x ∧ x < (n : Int))) := by
  rcases h with h | h
  · obtain ⟨q, h1, h2, _, _, h3, h4, h5⟩ := h.reopen
    exact ⟨h.dead, q, h1, h2, h4, h5, .inl h3⟩
  · obtain ⟨q, h1, h2, _, _, h3, h4, h5⟩ := h.reopen
    obtain ⟨g, hb⟩ := h.bears
    refine ⟨h.dead, q, h1, h2, h4, h5, ?_⟩
    cases e : Kp.standsP q D.revive s with
    | true => exact .inl rfl
    | false => exact .inr ⟨rfl, h3, hb.nodup, hb.range⟩

/-- What the law holds between two rounds. -/
def KA (pb db bl bw : Nat) (p : Pg) (D : Dk) (s : Kp.St) (pv bv : Value) (wc : Array Value) (F : HProp) : HProp :=
  pgA pb db p * (diskA db D * (pt bl (.cells (stCells s pv bv) 42 (0, 0)) * (strsA bv s.bytes * (pt bw (.cells wc 32 (0, 0)) * F))))
theorem KA_F {pb db bl bw : Nat} {p : Pg} {D : Dk} {s : Kp.St} {pv bv : Value} {wc : Array Value} {F : HProp} {w : World} (h : Holds (KA pb db bl bw p D s pv bv wc F) w) : Holds F w := h.right.right.right.right.right
theorem KA_last {pb db bl bw : Nat} {p : Pg} {D : Dk} {s : Kp.St} {pv bv : Value} {wc : Array Value} {F : HProp} {w : World} (h : Holds (KA pb db bl bw p D s pv bv wc F) w) : Holds (pt bl (.cells (stCells s pv bv) 42 (0, 0)) * (pgA pb db p * (diskA db D * (strsA bv s.bytes * (pt bw (.cells wc 32 (0, 0)) * F))))) w := by
  unfold KA at h
  rw [show ∀ A B C E : HProp, A * (B * (C * E)) = C * (A * (B * E)) from by intro A B C E; ac_rfl] at h
  exact h
theorem KA_w {pb db bl bw : Nat} {p : Pg} {D : Dk} {s : Kp.St} {pv bv : Value} {wc : Array Value} {F : HProp} {w : World} (h : Holds (KA pb db bl bw p D s pv bv wc F) w) : Holds (pt bw (.cells wc 32 (0, 0)) * (pgA pb db p * (diskA db D * (pt bl (.cells (stCells s pv bv) 42 (0, 0)) * (strsA bv s.bytes * F))))) w := by
  unfold KA at h
  rw [show ∀ A B C E G L : HProp, A * (B * (C * (E * (G * L)))) = G * (A * (B * (C * (E * L)))) from by intro A B C E G L; ac_rfl] at h
  exact h

section
variable {pb db bl bw : Nat} {p : Pg} {D : Dk} {s : Kp.St} {pv bv : Value} {wc : Array Value} {F G : HProp} {w : World} {n : Nat}
theorem KA_intro {A B : HProp} (h : Holds (A * (B * KA pb db bl bw p D s pv bv wc F)) w) : Holds (KA pb db bl bw p D s pv bv wc (B * (A * F))) w := by
  unfold KA at *
  rw [show ∀ A B C E G L M N : HProp, A * (B * (C * (E * (G * (L * (M * N)))))) = C * (E * (G * (L * (M * (B * (A * N)))))) from by intro A B C E G L M N; ac_rfl] at h
  exact h
theorem KA_drop (h : Holds (KA pb db bl bw p D s pv bv wc (G * F)) w) : Holds (KA pb db bl bw p D s pv bv wc F) w := by
  unfold KA at *
  rw [show ∀ A B C E L M N : HProp, A * (B * (C * (E * (L * (M * N))))) = M * (A * (B * (C * (E * (L * N))))) from by intro A B C E L M N; ac_rfl] at h
  exact h.right
theorem KA_Dead (h : Holds (KA pb db bl bw p D s pv bv wc F) w) : Calls Try.prog 17 #[.pointer (some ⟨db, 0, none⟩)] w fun e w' => e = .returned (.bool D.dead) ∧ w = w' := by
  unfold KA at h
  rw [sep_left_comm] at h
  exact A_Dead h
theorem KA_Revive (h : Holds (KA pb db bl bw p D s pv bv wc F) w) : Calls Try.prog 19 #[.pointer (some ⟨db, 0, none⟩)] w (Ret (.tuple #[]) (KA pb db bl bw p D.revive s pv bv wc F) w) := by
  unfold KA at *
  rw [sep_left_comm] at h
  refine (A_Revive h).mono ?_
  rintro e w' ⟨rfl, H1, K1⟩
  rw [sep_left_comm] at H1
  exact .mk H1 K1
theorem KA_stands (hp : p.Ok D.n) (hD : D.Ok) (h : Holds (KA pb db bl bw p D s pv bv wc F) w) (hr : Reads F pv s.pages) (hl : s.pages.length ≤ 2000000) :
    Calls Try.prog 18 #[.pointer (some ⟨pb, 0, none⟩), .agg #[.int .i64 s.root, .int .i64 s.frm, pv, bv]] w (Ret (.bool (Kp.standsP p D s)) (KA pb db bl bw p D s pv bv wc F) w) := by
  unfold KA at *
  refine stands_calls hp hD h (((hr.frame _).frame _).frame _) ?_ hl
  intro w' hw
  rw [sep_left_comm] at hw
  exact reads_strsA _ w' hw
theorem KA_stands_next {v pv2 : Value} {O : HProp} {s2 : Kp.St} (hp : p.Ok D.n) (hD : D.Ok) (h : Holds (KA pb db bl bw p D s pv bv wc (rowS v s2.bytes * (O * G))) w) (hr : Reads G pv2 s2.pages) (hl : s2.pages.length ≤ 2000000) :
    Calls Try.prog 18 #[.pointer (some ⟨pb, 0, none⟩), .agg #[.int .i64 s2.root, .int .i64 s2.frm, pv2, v]] w (Ret (.bool (Kp.standsP p D s2)) (KA pb db bl bw p D s pv bv wc (rowS v s2.bytes * (O * G))) w) := by
  unfold KA at *
  refine stands_calls hp hD h ((((((hr.frame _).frame _).frame _).frame _).frame _)) ?_ hl
  intro w' hw
  rw [show ∀ A B C L M : HProp, A * (B * (C * (L * M))) = L * (A * (B * (C * M))) from by intro A B C L M; ac_rfl] at hw
  exact reads_rowS _ w' hw
theorem KA_Open (hD : D.Ok) (h : Holds (KA pb db bl bw p D s pv bv wc F) w) {q : Pg} {x : Int} (ho : Pg.open_ D 2 n = (some q, x)) (hn : n ≤ 4096) :
    Calls Try.prog 20 #[.pointer (some ⟨db, 0, none⟩), .int .i64 2, .int .i64 (n : Int)] w fun e w' => ∃ qb, Ret (.tuple #[.pointer (some ⟨qb, 0, none⟩), .int .i64 0]) (KA qb db bl bw q D s pv bv wc F) w e w' := by
  unfold KA at *
  have h1 := h.right
  refine (Open_calls hD h1 2 (n : Int) (by decide) (by omega)).mono ?_
  intro e w' hf
  exact open_some ho hf
theorem KA_Live {k : Nat} (hp : p.Ok k) (h : Holds (KA pb db bl bw p D s pv bv wc F) w) (hr : Reads F pv s.pages) (hx : ∀ x ∈ s.pages, i64ok x) :
    Calls Try.prog 21 #[.pointer (some ⟨pb, 0, none⟩), pv] w (Ret (.int .i64 (p.setLive s.pages).2) (KA pb db bl bw (p.setLive s.pages).1 D s pv bv wc F) w) := by
  unfold KA at *
  exact Live_calls hp h ((((hr.frame _).frame _).frame _).frame _) hx
theorem KA_Arm {kv : Value} {xs : List Int} (h : Holds (KA pb db bl bw p D s pv bv wc F) w) (m : Int) (hr : Reads F kv xs) (hb : xs.length * 8 ≤ 140737488355328) :
    Calls Try.prog 15 #[.pointer (some ⟨db, 0, none⟩), .int .i64 m, kv] w (Ret (.int .i64 (D.arm m xs).2) (KA pb db bl bw p (D.arm m xs).1 s pv bv wc F) w) := by
  unfold KA at *
  rw [sep_left_comm] at h
  refine (Arm_calls h m ((((hr.frame _).frame _).frame _).frame _) hb).mono ?_
  rintro e w' ⟨rfl, H1, K1⟩
  rw [sep_left_comm] at H1
  exact .mk H1 K1
theorem KA_Crash {kv : Value} {xs : List Int} (hD : D.Ok) (h : Holds (KA pb db bl bw p D s pv bv wc F) w) (hr : Reads F kv xs) :
    Calls Try.prog 16 #[.pointer (some ⟨db, 0, none⟩), kv] w (Ret (.int .i64 (D.crash xs).2) (KA pb db bl bw p (D.crash xs).1 s pv bv wc F) w) := by
  unfold KA at *
  rw [sep_left_comm] at h
  refine (Crash_calls hD h ((((hr.frame _).frame _).frame _).frame _)).mono ?_
  rintro e w' ⟨rfl, H1, K1⟩
  rw [sep_left_comm] at H1
  exact .mk H1 K1
theorem KA_live {kv : Value} {xs : List Int} (hp : p.Ok D.n) (hD : D.Ok) (h : Holds (KA pb db bl bw p D s pv bv wc F) w) (hr : Reads F kv xs) (hl : xs.length ≤ 2000000) :
    Calls Try.prog 13 #[.pointer (some ⟨pb, 0, none⟩), kv] w (LiveTo p D xs (KA pb db bl bw p D s pv bv wc F) w) := by
  unfold KA at *
  exact live_calls hp hD h (((hr.frame _).frame _).frame _) hl
theorem KA_Commit {kv : Value} {xs : List Int} (hp : p.Ok D.n) (hD : D.Ok) (h : Holds (KA pb db bl bw p D s pv bv wc F) w) (hr : Reads F kv xs) (hx : ∀ x ∈ xs, i64ok x) (root frm : Int) (h1 : i64ok root) (h2 : i64ok frm) :
    Calls Try.prog 14 #[.pointer (some ⟨pb, 0, none⟩), .int .i64 root, .int .i64 frm, kv] w (Ret (.int .i64 (p.commit D root frm xs).2.2) (KA pb db bl bw (p.commit D root frm xs).1 (p.commit D root frm xs).2.1 s pv bv wc F) w) := by
  unfold KA at *
  exact Commit_calls hp hD h (((hr.frame _).frame _).frame _) hx root frm h1 h2
theorem KA_in {A : HProp} (h : Holds (A * KA pb db bl bw p D s pv bv wc F) w) : Holds (KA pb db bl bw p D s pv bv wc (A * F)) w := by
  unfold KA at *
  rw [show ∀ A B C E G L N : HProp, A * (B * (C * (E * (G * (L * N))))) = B * (C * (E * (G * (L * (A * N))))) from by intro A B C E G L N; ac_rfl] at h
  exact h
theorem KA_front {A : HProp} (h : Holds (KA pb db bl bw p D s pv bv wc (A * F)) w) : Holds (A * KA pb db bl bw p D s pv bv wc F) w := by
  unfold KA at *
  rw [show ∀ A B C E G L N : HProp, A * (B * (C * (E * (G * (L * N))))) = B * (C * (E * (G * (L * (A * N))))) from by intro A B C E G L N; ac_rfl]
  exact h
theorem KA_store {bn : Nat} {v pv2 : Value} {l : List Bs} {O : HProp} {a0 a1 a2 a3 : Value} {s2 : Kp.St} (hb : s2.bytes = l)
    (h : Holds (KA pb db bl bw p D s pv bv wc (rowS v l * (O * (pt bn (.cells #[a0, a1, a2, a3] 42 (0, 0)) * F)))) w) :
    Holds (KA pb db bl bw p D s2 pv2 v wc (strsA bv s.bytes * (O * (pt bn (.cells (stCells s2 pv2 v) 42 (0, 0)) * F))))
      ((((((((w.setCell ⟨bn, 0, none⟩ (.int .i64 s2.root)).setCell ⟨bn, 1, none⟩ (.int .i64 s2.frm)).setCell ⟨bn, 2, none⟩ pv2).setCell ⟨bn, 3, none⟩ v).setCell ⟨bl, 0, none⟩ (.int .i64 s2.root)).setCell ⟨bl, 1, none⟩ (.int .i64 s2.frm)).setCell ⟨bl, 2, none⟩ pv2).setCell ⟨bl, 3, none⟩ v) := by
  unfold KA at *
  rw [show ∀ A B C E G L M N Z : HProp, A * (B * (C * (E * (G * (L * (M * (N * Z))))))) = N * (A * (B * (C * (E * (G * (L * (M * Z))))))) from by intro A B C E G L M N Z; ac_rfl] at h
  have h1 := (((h.setCell (off := 0) (.int .i64 s2.root)).setCell (off := 1) (.int .i64 s2.frm)).setCell (off := 2) pv2).setCell (off := 3) v
  rw [show ∀ A B C E G L M N Z : HProp, N * (A * (B * (C * (E * (G * (L * (M * Z))))))) = C * (N * (A * (B * (E * (G * (L * (M * Z))))))) from by intro A B C E G L M N Z; ac_rfl] at h1
  have h2 := (((h1.setCell (off := 0) (.int .i64 s2.root)).setCell (off := 1) (.int .i64 s2.frm)).setCell (off := 2) pv2).setCell (off := 3) v
  rw [show ∀ A B C E G L M N Z : HProp, C * (N * (A * (B * (E * (G * (L * (M * Z))))))) = L * (A * (B * (C * (G * (E * (M * (N * Z))))))) from by intro A B C E G L M N Z; ac_rfl] at h2
  have h3 := strsA_of_row h2
  rw [hb]
  rw [show ∀ A B C E G L M N Z : HProp, L * (A * (B * (C * (G * (E * (M * (N * Z))))))) = A * (B * (C * (L * (G * (E * (M * (N * Z))))))) from by intro A B C E G L M N Z; ac_rfl] at h3
  exact h3
/-- The next state alone is stored. -/
theorem KA_store1 {bn : Nat} {v pv2 : Value} {l : List Bs} {O : HProp} {a0 a1 a2 a3 : Value} {s2 : Kp.St}
    (h : Holds (KA pb db bl bw p D s pv bv wc (rowS v l * (O * (pt bn (.cells #[a0, a1, a2, a3] 42 (0, 0)) * F)))) w) :
    Holds (KA pb db bl bw p D s pv bv wc (rowS v l * (O * (pt bn (.cells (stCells s2 pv2 v) 42 (0, 0)) * F))))
      ((((w.setCell ⟨bn, 0, none⟩ (.int .i64 s2.root)).setCell ⟨bn, 1, none⟩ (.int .i64 s2.frm)).setCell ⟨bn, 2, none⟩ pv2).setCell ⟨bn, 3, none⟩ v) := by
  unfold KA at *
  rw [show ∀ A B C E G L M N Z : HProp, A * (B * (C * (E * (G * (L * (M * (N * Z))))))) = N * (A * (B * (C * (E * (G * (L * (M * Z))))))) from by intro A B C E G L M N Z; ac_rfl] at h ⊢
  exact (((h.setCell (off := 0) (.int .i64 s2.root)).setCell (off := 1) (.int .i64 s2.frm)).setCell (off := 2) pv2).setCell (off := 3) v
/-- The next state becomes the last. -/
theorem KA_setlast {v pv2 : Value} {l : List Bs} {s2 : Kp.St} (hb : s2.bytes = l)
    (h : Holds (KA pb db bl bw p D s pv bv wc (rowS v l * F)) w) :
    Holds (KA pb db bl bw p D s2 pv2 v wc (strsA bv s.bytes * F))
      ((((w.setCell ⟨bl, 0, none⟩ (.int .i64 s2.root)).setCell ⟨bl, 1, none⟩ (.int .i64 s2.frm)).setCell ⟨bl, 2, none⟩ pv2).setCell ⟨bl, 3, none⟩ v) := by
  unfold KA at *
  rw [show ∀ A B C E G L M : HProp, A * (B * (C * (E * (G * (L * M))))) = C * (A * (B * (E * (G * (L * M))))) from by intro A B C E G L M; ac_rfl] at h
  have h2 := (((h.setCell (off := 0) (.int .i64 s2.root)).setCell (off := 1) (.int .i64 s2.frm)).setCell (off := 2) pv2).setCell (off := 3) v
  rw [show ∀ A B C E G L M : HProp, C * (A * (B * (E * (G * (L * M))))) = L * (A * (B * (C * (G * (E * M))))) from by intro A B C E G L M; ac_rfl] at h2
  have h3 := strsA_of_row h2
  rw [hb]
  rw [show ∀ A B C E G L M : HProp, L * (A * (B * (C * (G * (E * M))))) = A * (B * (C * (L * (G * (E * M))))) from by intro A B C E G L M; ac_rfl] at h3
  exact h3
end

set_option maxRecDepth 100000 in
set_option maxHeartbeats 20000000 in
theorem PagerKeeps_calls {F : HProp} {w : World} (H : Holds F w) (img : Bs) (f pg fr : Int) (sv : Value) (os : List OpP) (hpg : i64ok pg) (hos : ReadsOps F sv os) (hgood : ∀ o ∈ os, o.Good F) :
    Calls Try.prog 4 #[.agg #[strV img, .int .i64 f, .int .i64 pg, .int .i64 fr, sv]] w (Ret (.bool true) F w) := by
  obtain ⟨i0, hi, hz0, hz1, hz2⟩ := info_parts Try_infoByte
  obtain ⟨sa, sc, rfl, hslen, hsmax, _⟩ := hos w H
  obtain ⟨im, him⟩ : ∃ im : ByteArray, strV img = .string im := ⟨_, rfl⟩
  rw [him]
  clear him
  have HOS := Lib.hid hos
  have HGOOD := Lib.hid hgood
  clear hos hgood
  obtain ⟨n, hn⟩ : ∃ n : Nat, max 1 (min pg 12) = (n : Int) := ⟨(max 1 (min pg 12)).toNat, by omega⟩
  have n1 : 1 ≤ n ∧ n ≤ 12 := by omega
  obtain ⟨m, hm⟩ : ∃ m, m = 64 * (2 + 8 * n) := ⟨_, rfl⟩
  obtain ⟨S, hS⟩ : ∃ S : ByteArray, strV (Pg.zeros m) = .string S := ⟨_, rfl⟩
  have HS := Lib.hid hS
  have Hm := Lib.hid hm
  have hmi : (64 : Int) * (2 + 8 * (n : Int)) = (m : Int) := by omega
  have hm2 : m ≤ 100000 := by omega
  have hok : Dk.newOk (Pg.zeros m) = true := by
    unfold Dk.newOk
    simp only [decide_eq_true_eq]
    have : (Pg.zeros m).length = m := by simp [Pg.zeros]
    rw [this]
    omega
  have HOK := Lib.hid hok
  clear hS hm hok
  have Hb := H.alloc (.cells #[.string im, .int .i64 f, .int .i64 pg, .int .i64 fr, .slice sa os.length sc] 32)
  have Kb := (Keeps.refl w).alloc (.cells #[.string im, .int .i64 f, .int .i64 pg, .int .i64 fr, .slice sa os.length sc] 32)
  have HSZ : Hid (∀ o : Obj, (w.alloc o).heap.size = w.heap.size + 1) := Lib.hid (fun o => by simp)
  clear H
  go_enter Try.func4, Try.ntmps4
  go_wp2_with (at_make; refine wpList_make_full _ rfl _ _ _ rfl 0 5 i0 (.int .u8 0) 1 Try.underlying36 hi hz0 hz1 .i64 .i64 (m : Int) (m : Int) m rfl rfl rfl rfl (by rw [hz2]; omega) (by unfold maxLen; omega) (Nat.zero_le _) ?_; intro w1 hown1 hg1; rw [madeZeros] at hown1; have hstr := run_own_string hown1 (by simp [Pg.zeros]); rw [HS.out] at hstr; rw [HSZ.out] at hstr; clear hown1)
  have H1 := Hb.grow (fun j hj => hg1.block j hj (by simp))
  have K1 := Kb.trans (Keeps.grown hg1)
  have hnew := New_calls H1 (Pg.zeros m) HOK.out
  rw [HS.out] at hnew
  have HN := Lib.hid hnew
  clear hg1 hnew H1 Hb Kb hn hmi
  refine HN.out.mono ?_
  rintro e w2 ⟨db, rfl, H2, K2⟩
  have K3 := K1.trans K2
  have hD := Dk.ok_new HOK.out
  have hfit := Dk.fit_new (Pg.zeros m)
  have hdn : (Dk.new (Pg.zeros m)).n = 2 + 8 * n := by
    rw [Dk.new_n]
    have : (Pg.zeros m).length = m := by simp [Pg.zeros]
    rw [this, Hm.out]
    omega
  obtain ⟨D0, hDd⟩ : ∃ D, D = Dk.new (Pg.zeros m) := ⟨_, rfl⟩
  rw [← hDd] at H2 hD hfit hdn
  obtain ⟨hinv, hf2⟩ := Kp.inv_fresh hD hfit hdn n1.1 n1.2
  obtain ⟨D, hDD⟩ : ∃ D, D = (Pg.format D0 2 (n : Int) 1).1 := ⟨_, rfl⟩
  rw [← hDD] at hinv
  have HF2 := Lib.hid hf2
  have HDD := Lib.hid hDD
  have HINV := Lib.hid hinv
  clear hDd K1 K2 HN hstr hf2 hdn hfit hDD hinv
  go_wp2_with fail
  refine (Format_calls hD H2 2 (n : Int) 1 (by decide) (by omega) (by decide)).mono ?_
  intro e w3 hf
  obtain ⟨pb, rfl, H3, K4⟩ := fmt_some HF2.out hf
  have K5 := K3.trans K4
  rw [← HDD.out] at H3
  have H4 := H3.alloc (.cells #[.int .i64 (-1), .int .i64 1, .slice none 0 0, .slice none 0 0] 42)
  have K6 := K5.alloc (.cells #[.int .i64 (-1), .int .i64 1, .slice none 0 0, .slice none 0 0] 42)
  clear hf K3 K4 H2 H3 K5 HF2 hD HDD
  go_wp2_with fail
  obtain ⟨bl, hbl⟩ : ∃ bl, bl = w3.heap.size := ⟨_, rfl⟩
  obtain ⟨bw, hbw⟩ : ∃ bw, bw = w.heap.size := ⟨_, rfl⟩
  obtain ⟨wc, hwc⟩ : ∃ wc : Array Value, wc = #[.string im, .int .i64 f, .int .i64 pg, .int .i64 fr, .slice sa os.length sc] := ⟨_, rfl⟩
  have hw4 : wc[4]? = some (.slice sa os.length sc) := by rw [hwc]; rfl
  have HW4 := Lib.hid hw4
  rw [← hbl, ← hbw, ← hwc] at H4
  have H5 : Holds (KA pb db bl bw (Pg.fresh 2 (n : Int) 1) D Kp.init (.slice none 0 0) (.slice none 0 0) wc F) (w3.alloc (.cells #[.int .i64 (-1), .int .i64 1, .slice none 0 0, .slice none 0 0] 42)) := by
    unfold KA
    have h := strsA_none H4
    rw [show ∀ A B C E G : HProp, A * (B * (C * (E * G))) = C * (E * (B * (A * G))) from by intro A B C E G; ac_rfl] at h
    exact h
  rw [← hbl, ← hbw]
  clear hbl hbw hwc H4 hw4 HSZ
  go_loopw [5, 6, 8] (fun e5 p6 i wr => ∃ (k : Nat) (p : Pg) (D : Dk) (s : Kp.St) (pb : Nat) (x : Int) (pv bv : Value), k ≤ os.length ∧ i = .int .i64 k ∧ e5 = .int .i64 x ∧ p6 = .pointer (some ⟨pb, 0, none⟩) ∧ Kp.Inv n p D s ∧ Reads F pv s.pages ∧ s.pages.length ≤ 2000000 ∧ Holds (KA pb db bl bw p D s pv bv wc F) wr ∧ Keeps w wr) (fun _ _ i _ => os.length - (intOf i).toNat)
  case atStart => exact ⟨0, _, D, Kp.init, pb, 0, _, _, Nat.zero_le _, rfl, rfl, rfl, HINV.out, reads_nil F, by decide, H5, K6⟩
  case round =>
    clear H5 K6 HINV
    obtain ⟨k, p, D, s, pb, x5, pv, bv, hk, rfl, rfl, rfl, hinv, hpv, hpl, HR, hKr⟩ := hrel
    have hw5 := (KA_w HR).cell 4 HW4.out
    by_cases hlt : k < os.length
    · obtain ⟨a7, c7, hv7, _, _, hops⟩ := HOS.out wr (KA_F HR)
      simp only [Value.slice.injEq] at hv7
      obtain ⟨rfl, _, rfl⟩ := hv7
      obtain ⟨b, off, rfl, hblt, hcells⟩ := hops (by omega)
      obtain ⟨o, ho⟩ : ∃ o, os[k]? = some o := ⟨os[k], List.getElem?_eq_getElem hlt⟩
      have hco := hcells k o ho
      have c0 : wr.cell? ⟨b, off + k * 6, none⟩ = some (.int .i64 o.kind) := hco 0 (.int .i64 o.kind) rfl
      have c1 := hco 1 (.int .i64 o.at_) rfl
      have c2 := hco 2 (.int .i64 o.n) rfl
      have c3 := hco 3 (strV o.s) rfl
      have c4 := hco 4 o.pv rfl
      have c5 := hco 5 o.kv rfl
      have hgo := HGOOD.out o (List.mem_of_getElem? ho)
      obtain ⟨pa, pc, hpv2, _⟩ := hgo.pages wr (KA_F HR)
      obtain ⟨ka, kc, hkv2, _⟩ := hgo.kept wr (KA_F HR)
      obtain ⟨os1, hos1⟩ : ∃ sb : ByteArray, strV o.s = .string sb := ⟨_, rfl⟩
      obtain ⟨la, lc, hlv, _⟩ := hpv wr (KA_F HR)
      obtain ⟨ba, bc, hbv⟩ := strsA_val (by
        have h := HR
        unfold KA at h
        rw [show ∀ A B C E G : HProp, A * (B * (C * (E * G))) = E * (A * (B * (C * G))) from by intro A B C E G; ac_rfl] at h
        exact h)
      have l0 := (KA_last HR).cell 0 (v := .int .i64 s.root) rfl
      have l1 := (KA_last HR).cell 1 (v := .int .i64 s.frm) rfl
      have l2 := (KA_last HR).cell 2 (v := pv) rfl
      have l3 := (KA_last HR).cell 3 (v := bv) rfl
      have hbll := (KA_last HR).lt
      have hbwl := (KA_w HR).lt
      rw [hpv2] at c4
      rw [hkv2] at c5
      rw [hos1] at c3
      subst hlv hbv
      have hki : (k : Int) < (os.length : Int) := by omega
      have Hho := Lib.hid ho
      have Hgo := Lib.hid hgo
      have Hco := Lib.hid hco
      have Hcells := Lib.hid hcells
      have Hhpv := Lib.hid hpv
      have Hpv2 := Lib.hid hpv2
      have Hkv2 := Lib.hid hkv2
      have Hos1 := Lib.hid hos1
      have HIN := Lib.hid hinv
      clear hops ho hgo hco hcells hpv hpv2 hkv2 hos1 hinv
      have HA := (HR.alloc (.cells #[.int .i64 o.kind, .int .i64 o.at_, .int .i64 o.n, .string os1, .slice pa o.pages.length pc, .slice ka o.kept.length kc] 44)).alloc (.cells #[.int .i64 s.root, .int .i64 s.frm, .slice la s.pages.length lc, .slice ba s.bytes.length bc] 42)
      have KAA := (hKr.alloc (.cells #[.int .i64 o.kind, .int .i64 o.at_, .int .i64 o.n, .string os1, .slice pa o.pages.length pc, .slice ka o.kept.length kc] 44)).alloc (.cells #[.int .i64 s.root, .int .i64 s.frm, .slice la s.pages.length lc, .slice ba s.bytes.length bc] 42)
      have HAA := Lib.hid HA
      clear HA
      have HPV2 : Hid (Reads (pt wr.heap.size (.cells #[.int .i64 o.kind, .int .i64 o.at_, .int .i64 o.n, .string os1, .slice pa o.pages.length pc, .slice ka o.kept.length kc] 44 (0, 0)) * (pt (wr.heap.size + 1) (.cells #[.int .i64 s.root, .int .i64 s.frm, .slice la s.pages.length lc, .slice ba s.bytes.length bc] 42 (0, 0)) * F)) (.slice la s.pages.length lc) s.pages) := Lib.hid ((Hhpv.out.frame _).frame _)
      go_wp2_with fail
      all_goals
        have HA := HAA.out
        rw [show ∀ o : Obj, (wr.alloc o).heap.size = wr.heap.size + 1 from fun o => by simp] at HA
        have HX := KA_intro HA
        have KX := KAA
        generalize World.alloc _ _ = wX at HX KX ⊢
        clear HA HAA KAA c0 c1 c2 c3 c4 c5 l0 l1 l2 l3 hw5 HR hKr
      · have INV := (HIN.out).alloc
        refine (Alloc_calls (HIN.out).pok HX).mono ?_
        rintro e wa ⟨rfl, HY, KY⟩
        replace KX := KX.trans KY
        replace HX : Holds (KA pb db bl bw p.alloc.1 D s (.slice la s.pages.length lc) (.slice ba s.bytes.length bc) wc _) wa := HY
        clear HY KY
        have hdd := KA_Dead HX
        rw [INV.dead] at hdd
        have HDD := Lib.hid hdd
        have m0 := (KA_last HX).cell 0 (v := .int .i64 s.root) rfl
        have m1 := (KA_last HX).cell 1 (v := .int .i64 s.frm) rfl
        have m2 := (KA_last HX).cell 2 (v := .slice la s.pages.length lc) rfl
        have m3 := (KA_last HX).cell 3 (v := .slice ba s.bytes.length bc) rfl
        have hst := KA_stands INV.pok INV.bears.base.ok HX HPV2.out hpl
        rw [INV.stands] at hst
        have HST := Lib.hid hst
        have HINV2 := Lib.hid INV
        clear hdd hst INV
        go_wp2_with (go_at_call 17; refine HDD.out.mono ?_; rintro e wd ⟨rfl, rfl⟩)
        refine HST.out.mono ?_
        rintro e wt ⟨rfl, HT, KT⟩
        have KF := KX.trans KT
        clear HST HDD m0 m1 m2 m3 HX KX KT
        go_wp2_with fail
        go_roundw
        case rel => exact ⟨k + 1, p.alloc.1, D, s, pb, x5, _, _, by omega, by go_num, rfl, rfl, HINV2.out, Hhpv.out, hpl, KA_drop (KA_drop HT), KF⟩
        case measure => simp [intOf]; omega
      · have hw := Write_pager_calls (HIN.out).pok (HIN.out).bears.base.ok HX o.at_ (Hgo.out).at_ o.s (Hgo.out).s
        rw [Hos1.out] at hw
        have hcs := (HIN.out).write o.at_ o.s
        have HW := Lib.hid hw
        have HCS := Lib.hid hcs
        clear hw hcs
        refine HW.out.mono ?_
        rintro e wa ⟨rfl, HY, KY⟩
        replace KX := KX.trans KY
        replace HX : Holds (KA pb db bl bw (p.write D o.at_ o.s).1 (p.write D o.at_ o.s).2.1 s (.slice la s.pages.length lc) (.slice ba s.bytes.length bc) wc _) wa := HY
        obtain ⟨P1, hP1⟩ : ∃ P1, P1 = (p.write D o.at_ o.s).1 := ⟨_, rfl⟩
        obtain ⟨D1, hD1⟩ : ∃ D1, D1 = (p.write D o.at_ o.s).2.1 := ⟨_, rfl⟩
        obtain ⟨x1, hx1⟩ : ∃ x1, x1 = (p.write D o.at_ o.s).2.2 := ⟨_, rfl⟩
        have hcs := HCS.out
        rw [← hP1, ← hD1] at HX hcs
        rw [← hx1]
        clear HY KY HW HCS hP1 hD1 hx1
        rcases hcs with ⟨_, INV⟩ | CR
        · have hdd := KA_Dead HX
          rw [INV.dead] at hdd
          have HDD := Lib.hid hdd
          have m0 := (KA_last HX).cell 0 (v := .int .i64 s.root) rfl
          have m1 := (KA_last HX).cell 1 (v := .int .i64 s.frm) rfl
          have m2 := (KA_last HX).cell 2 (v := .slice la s.pages.length lc) rfl
          have m3 := (KA_last HX).cell 3 (v := .slice ba s.bytes.length bc) rfl
          have hst := KA_stands INV.pok INV.bears.base.ok HX HPV2.out hpl
          rw [INV.stands] at hst
          have HST := Lib.hid hst
          have HINV2 := Lib.hid INV
          clear hdd hst INV
          go_wp2_with (go_at_call 17; refine HDD.out.mono ?_; rintro e wd ⟨rfl, rfl⟩)
          refine HST.out.mono ?_
          rintro e wt ⟨rfl, HT, KT⟩
          have KF := KX.trans KT
          clear HST HDD m0 m1 m2 m3 HX KX KT
          go_wp2_with fail
          go_roundw
          case rel => exact ⟨k + 1, P1, D1, s, pb, x5, _, _, by omega, by go_num, rfl, rfl, HINV2.out, Hhpv.out, hpl, KA_drop (KA_drop HT), KF⟩
          case measure => simp [intOf]; omega
        · obtain ⟨q, hopen, hqok, hqf, hqp, hqs, hqb, hqall⟩ := CR.reopen
          have hall := hqall s (HIN.out).bears.nodup (HIN.out).bears.range hqs
          have hrange : ∀ x ∈ s.pages, i64ok x := fun x hx => by
            have := (HIN.out).bears.range x hx
            unfold i64ok
            omega
          have HALL := Lib.hid hall
          have HRG := Lib.hid hrange
          have hdd := KA_Dead HX
          rw [CR.dead] at hdd
          have HDD := Lib.hid hdd
          have HRV := Lib.hid (KA_Revive HX)
          clear hdd CR hqall hall hrange
          go_wp2_with (go_at_call 17; refine HDD.out.mono ?_; rintro e wd ⟨rfl, rfl⟩)
          refine HRV.out.mono ?_
          rintro e wv ⟨rfl, HV, KV⟩
          have KX1 := KX.trans KV
          have HOP := Lib.hid (KA_Open hqb.ok HV hopen (by omega))
          clear HRV HDD HX KX KV hopen
          go_wp2_with fail
          refine HOP.out.mono ?_
          rintro e wo ⟨qb, rfl, HO, KO⟩
          have KX2 := KX1.trans KO
          have m0 := (KA_last HO).cell 0 (v := .int .i64 s.root) rfl
          have m1 := (KA_last HO).cell 1 (v := .int .i64 s.frm) rfl
          have m2 := (KA_last HO).cell 2 (v := .slice la s.pages.length lc) rfl
          have m3 := (KA_last HO).cell 3 (v := .slice ba s.bytes.length bc) rfl
          have hst := KA_stands hqok hqb.ok HO HPV2.out hpl
          rw [hqs] at hst
          have HST := Lib.hid hst
          clear hst HOP HV KX1 KO
          go_wp2_with (go_at_call 18; refine HST.out.mono ?_; rintro e wt ⟨rfl, HT, KT⟩; have n0 := (KA_last HT).cell 0 (v := .int .i64 s.root) rfl; have n1' := (KA_last HT).cell 1 (v := .int .i64 s.frm) rfl; have n2 := (KA_last HT).cell 2 (v := .slice la s.pages.length lc) rfl; have n3 := (KA_last HT).cell 3 (v := .slice ba s.bytes.length bc) rfl)
          have hst2 := KA_stands hqok hqb.ok HT HPV2.out hpl
          rw [hqs] at hst2
          have HST2 := Lib.hid hst2
          clear hst2 HO m0 m1 m2 m3
          refine HST2.out.mono ?_
          rintro e wu ⟨rfl, HU, KU⟩
          have KX3 := (KX2.trans KT).trans KU
          have v2 := (KA_last HU).cell 2 (v := .slice la s.pages.length lc) rfl
          have hlv := KA_Live hqok HU HPV2.out HRG.out
          rw [HALL.out.1] at hlv
          have HLV := Lib.hid hlv
          clear hlv HT KT KU KX2 n0 n1' n2 n3 HST HST2
          go_wp2_with fail
          refine HLV.out.mono ?_
          rintro e wz ⟨rfl, HZ, KZ⟩
          have KX4 := KX3.trans KZ
          clear HLV HU KX3 KZ v2
          go_wp2_with fail
          go_roundw
          case rel => exact ⟨k + 1, (q.setLive s.pages).1, D1.revive, s, qb, 0, _, _, by omega, by go_num, rfl, rfl, HALL.out.2, Hhpv.out, hpl, KA_drop (KA_drop HZ), KX4⟩
          case measure => simp [intOf]; omega
      · have INV := (HIN.out).drop
        refine (Drop_calls HX).mono ?_
        rintro e wa ⟨rfl, HY, KY⟩
        replace KX := KX.trans KY
        replace HX : Holds (KA pb db bl bw p.drop D s (.slice la s.pages.length lc) (.slice ba s.bytes.length bc) wc _) wa := HY
        clear HY KY
        have hdd := KA_Dead HX
        rw [INV.dead] at hdd
        have HDD := Lib.hid hdd
        have m0 := (KA_last HX).cell 0 (v := .int .i64 s.root) rfl
        have m1 := (KA_last HX).cell 1 (v := .int .i64 s.frm) rfl
        have m2 := (KA_last HX).cell 2 (v := .slice la s.pages.length lc) rfl
        have m3 := (KA_last HX).cell 3 (v := .slice ba s.bytes.length bc) rfl
        have hst := KA_stands INV.pok INV.bears.base.ok HX HPV2.out hpl
        rw [INV.stands] at hst
        have HST := Lib.hid hst
        have HINV2 := Lib.hid INV
        clear hdd hst INV
        go_wp2_with (go_at_call 17; refine HDD.out.mono ?_; rintro e wd ⟨rfl, rfl⟩)
        refine HST.out.mono ?_
        rintro e wt ⟨rfl, HT, KT⟩
        have KF := KX.trans KT
        clear HST HDD m0 m1 m2 m3 HX KX KT
        go_wp2_with fail
        go_roundw
        case rel => exact ⟨k + 1, p.drop, D, s, pb, x5, _, _, by omega, by go_num, rfl, rfl, HINV2.out, Hhpv.out, hpl, KA_drop (KA_drop HT), KF⟩
        case measure => simp [intOf]; omega
      · have hkp := (Hgo.out).pages
        rw [Hpv2.out] at hkp
        have hlv := KA_live (HIN.out).pok (HIN.out).bears.base.ok HX ((hkp.frame _).frame _) (Hgo.out).pagesL
        have HLV := Lib.hid hlv
        have HKP := Lib.hid hkp
        clear hlv hkp
        refine HLV.out.mono ?_
        intro e wl hlv
        unfold LiveTo at hlv
        have hco := (HIN.out).commit o.at_ o.n o.pages
        have HCO := Lib.hid hco
        clear hco
        have hlall : (∀ x ∈ o.pages, p.is x = true) → Kp.liveP p D o.pages = some (o.pages.map (Kp.pageB D)) := fun h => Kp.live_all (HIN.out).bears.base (HIN.out).dead (HIN.out).first (HIN.out).pages (fun x hx => by
          have := h x hx
          unfold Pg.is at this
          rw [decide_eq_true_eq, (HIN.out).pages] at this
          exact this)
        have HLA := Lib.hid hlall
        clear hlall
        cases hlp : Kp.liveP p D o.pages with
        | none =>
          rw [hlp] at hlv
          obtain ⟨rfl, HL, KL⟩ := hlv
          replace KX := KX.trans KL
          have g1 := (KA_front HL).cell 1 (v := .int .i64 o.at_) rfl
          have g2 := (KA_front HL).cell 2 (v := .int .i64 o.n) rfl
          have g4 := (KA_front HL).cell 4 (v := .slice pa o.pages.length pc) rfl
          have hcm := KA_Commit (HIN.out).pok (HIN.out).bears.base.ok HL ((HKP.out.frame _).frame _) (Hgo.out).pagesI o.at_ o.n (Hgo.out).at_ (Hgo.out).n
          have HCM := Lib.hid hcm
          rcases HCO.out with ⟨_, hall, _, _⟩ | ⟨ne0, ne2, hdd, INV⟩ | ⟨_, hall, _⟩
          · have := HLA.out hall
            rw [hlp] at this
            cases this
          · obtain ⟨P1, hP1⟩ : ∃ P1, P1 = (p.commit D o.at_ o.n o.pages).1 := ⟨_, rfl⟩
            obtain ⟨D1, hD1⟩ : ∃ D1, D1 = (p.commit D o.at_ o.n o.pages).2.1 := ⟨_, rfl⟩
            obtain ⟨x1, hx1⟩ : ∃ x1, x1 = (p.commit D o.at_ o.n o.pages).2.2 := ⟨_, rfl⟩
            have hcm2 := HCM.out
            rw [← hP1, ← hD1, ← hx1] at hcm2
            rw [← hP1, ← hD1] at INV
            rw [← hx1] at ne0 ne2
            have b0 : (x1 == 0) = false := by simpa using ne0
            have b2 : (x1 == 2) = false := by simpa using ne2
            have HCM2 := Lib.hid hcm2
            clear hcm hcm2 HCM hP1 hD1 hx1 ne0 ne2 hdd HLV HCO HLA hlp HX
            go_wp2_with fail
            refine HCM2.out.mono ?_
            rintro e wc1 ⟨rfl, HX, KC⟩
            replace KX := KX.trans KC
            clear HCM2 HL KL KC g1 g2 g4
            have hdd := KA_Dead HX
            rw [INV.dead] at hdd
            have HDD := Lib.hid hdd
            have m0 := (KA_last HX).cell 0 (v := .int .i64 s.root) rfl
            have m1 := (KA_last HX).cell 1 (v := .int .i64 s.frm) rfl
            have m2 := (KA_last HX).cell 2 (v := .slice la s.pages.length lc) rfl
            have m3 := (KA_last HX).cell 3 (v := .slice ba s.bytes.length bc) rfl
            have hst := KA_stands INV.pok INV.bears.base.ok HX HPV2.out hpl
            rw [INV.stands] at hst
            have HST := Lib.hid hst
            have HINV2 := Lib.hid INV
            clear hdd hst INV
            go_wp2_with (go_at_call 17; refine HDD.out.mono ?_; rintro e wd ⟨rfl, rfl⟩)
            refine HST.out.mono ?_
            rintro e wt ⟨rfl, HT, KT⟩
            have KF := KX.trans KT
            clear HST HDD m0 m1 m2 m3 HX KX KT
            go_wp2_with fail
            go_roundw
            case rel => exact ⟨k + 1, P1, D1, s, pb, x1, _, _, by omega, by go_num, rfl, rfl, HINV2.out, Hhpv.out, hpl, KA_drop (KA_drop HT), KF⟩
            case measure => simp [intOf]; omega
          · have := HLA.out hall
            rw [hlp] at this
            cases this
        | some l =>
          rw [hlp] at hlv
          obtain ⟨v, rfl, HL0, KL⟩ := hlv
          replace KX := KX.trans KL
          obtain ⟨vg, vc, hvv, _⟩ := rowS_cell HL0
          subst hvv
          have HL := KA_in HL0
          have g1 := (KA_front (KA_front HL).right).cell 1 (v := .int .i64 o.at_) rfl
          have g2 := (KA_front (KA_front HL).right).cell 2 (v := .int .i64 o.n) rfl
          have g4 := (KA_front (KA_front HL).right).cell 4 (v := .slice pa o.pages.length pc) rfl
          have hcm := KA_Commit (HIN.out).pok (HIN.out).bears.base.ok HL (((HKP.out.frame _).frame _).frame _) (Hgo.out).pagesI o.at_ o.n (Hgo.out).at_ (Hgo.out).n
          have HCM := Lib.hid hcm
          rcases HCO.out with ⟨e0, hall, hdd, INV⟩ | ⟨ne0, ne2, hdd, INV⟩ | ⟨e2, hall, CRR⟩
          · obtain ⟨P1, hP1⟩ : ∃ P1, P1 = (p.commit D o.at_ o.n o.pages).1 := ⟨_, rfl⟩
            obtain ⟨D1, hD1⟩ : ∃ D1, D1 = (p.commit D o.at_ o.n o.pages).2.1 := ⟨_, rfl⟩
            have hcm2 := HCM.out
            rw [e0, ← hP1, ← hD1] at hcm2
            rw [← hP1, ← hD1] at INV
            have hlx : l = o.pages.map (Kp.pageB D) := by
              have := HLA.out hall
              rw [hlp] at this
              exact Option.some.inj this
            have HLX := Lib.hid hlx
            have HCM2 := Lib.hid hcm2
            have HINV2 := Lib.hid INV
            clear hcm hcm2 HCM hP1 hD1 e0 hdd HLV HCO HLA hlp HX hlx INV hall
            go_wp2_with fail
            refine HCM2.out.mono ?_
            rintro e wc1 ⟨rfl, HY, KC⟩
            replace KX := KX.trans KC
            have f1 := (KA_front (KA_front HY).right).cell 1 (v := .int .i64 o.at_) rfl
            have f2 := (KA_front (KA_front HY).right).cell 2 (v := .int .i64 o.n) rfl
            have f4 := (KA_front (KA_front HY).right).cell 4 (v := .slice pa o.pages.length pc) rfl
            have HBN := KA_front (KA_front (KA_front HY).right).right
            have n0 := HBN.cell 0 (v := .int .i64 s.root) rfl
            have n1' := HBN.cell 1 (v := .int .i64 s.frm) rfl
            have n2 := HBN.cell 2 (v := .slice la s.pages.length lc) rfl
            have n3 := HBN.cell 3 (v := .slice ba s.bytes.length bc) rfl
            have u0 := HBN.unfz 0
            have u1 := HBN.unfz 1
            have u2' := HBN.unfz 2
            have u3' := HBN.unfz 3
            have HBL := KA_last HY
            have r0 := HBL.cell 0 (v := .int .i64 s.root) rfl
            have r1 := HBL.cell 1 (v := .int .i64 s.frm) rfl
            have r2 := HBL.cell 2 (v := .slice la s.pages.length lc) rfl
            have r3 := HBL.cell 3 (v := .slice ba s.bytes.length bc) rfl
            have t0 := HBL.unfz 0
            have t1 := HBL.unfz 1
            have t2 := HBL.unfz 2
            have t3 := HBL.unfz 3
            have hne : bl ≠ wr.heap.size + 1 := by omega
            clear HCM2 HL HL0 KL KC g1 g2 g4
            go_wp2_with fail
            have hs2 : ∃ s2 : Kp.St, s2 = Kp.next D o.at_ o.n o.pages ∧ s2.root = o.at_ ∧ s2.frm = o.n ∧ s2.pages = o.pages ∧ s2.bytes = l := ⟨_, rfl, rfl, rfl, rfl, HLX.out.symm⟩
            obtain ⟨s2, hsn, hsr, hsf, hsp, hsb⟩ := hs2
            have HN := KA_store (s2 := s2) (pv2 := .slice pa o.pages.length pc) hsb HY
            rw [hsr, hsf] at HN
            replace KX := (((((((KX.setCell ⟨wr.heap.size + 1, 0, none⟩ (.int .i64 o.at_)).setCell ⟨wr.heap.size + 1, 1, none⟩ (.int .i64 o.n)).setCell ⟨wr.heap.size + 1, 2, none⟩ (.slice pa o.pages.length pc)).setCell ⟨wr.heap.size + 1, 3, none⟩ (.slice (some ⟨vg, 0, none⟩) l.length vc)).setCell ⟨bl, 0, none⟩ (.int .i64 o.at_)).setCell ⟨bl, 1, none⟩ (.int .i64 o.n)).setCell ⟨bl, 2, none⟩ (.slice pa o.pages.length pc)).setCell ⟨bl, 3, none⟩ (.slice (some ⟨vg, 0, none⟩) l.length vc)
            generalize World.setCell _ _ _ = wz at HN KX ⊢
            have INV := HINV2.out
            rw [← hsn] at INV
            have HRP : Hid (Reads F (.slice pa o.pages.length pc) s2.pages) := Lib.hid (by rw [hsp]; exact HKP.out)
            have hpl2 : s2.pages.length ≤ 2000000 := by rw [hsp]; exact (Hgo.out).pagesL
            have HX := HN
            have HSR := Lib.hid hsr
            have HSF := Lib.hid hsf
            clear HN HY HBN HBL f1 f2 f4 n0 n1' n2 n3 u0 u1 u2' u3' r0 r1 r2 r3 t0 t1 t2 t3 hne hsr hsf hsp hsb hsn
            have hdd := KA_Dead HX
            rw [INV.dead] at hdd
            have HDD := Lib.hid hdd
            have m0 := (KA_last HX).cell 0 (v := .int .i64 s2.root) rfl
            have m1 := (KA_last HX).cell 1 (v := .int .i64 s2.frm) rfl
            have m2 := (KA_last HX).cell 2 (v := .slice pa o.pages.length pc) rfl
            have m3 := (KA_last HX).cell 3 (v := .slice (some ⟨vg, 0, none⟩) l.length vc) rfl
            have hst := KA_stands INV.pok INV.bears.base.ok HX (((HRP.out.frame _).frame _).frame _) hpl2
            rw [INV.stands] at hst
            have HST := Lib.hid hst
            have HINV3 := Lib.hid INV
            clear hdd hst INV
            go_wp2_with (go_at_call 17; refine HDD.out.mono ?_; rintro e wd ⟨rfl, rfl⟩)
            refine HST.out.mono ?_
            rintro e wt ⟨rfl, HT, KT⟩
            have KF := KX.trans KT
            clear HST HDD m0 m1 m2 m3 HX KX KT
            go_wp2_with fail
            go_roundw
            case rel => exact ⟨k + 1, P1, D1, s2, pb, 0, _, _, by omega, by go_num, rfl, rfl, HINV3.out, HRP.out, hpl2, KA_drop (KA_drop (KA_drop HT)), KF⟩
            case measure => simp [intOf]; omega
          · obtain ⟨P1, hP1⟩ : ∃ P1, P1 = (p.commit D o.at_ o.n o.pages).1 := ⟨_, rfl⟩
            obtain ⟨D1, hD1⟩ : ∃ D1, D1 = (p.commit D o.at_ o.n o.pages).2.1 := ⟨_, rfl⟩
            obtain ⟨x1, hx1⟩ : ∃ x1, x1 = (p.commit D o.at_ o.n o.pages).2.2 := ⟨_, rfl⟩
            have hcm2 := HCM.out
            rw [← hP1, ← hD1, ← hx1] at hcm2
            rw [← hP1, ← hD1] at INV
            rw [← hx1] at ne0 ne2
            have b0 : (x1 == 0) = false := by simpa using ne0
            have b2 : (x1 == 2) = false := by simpa using ne2
            have HCM2 := Lib.hid hcm2
            clear hcm hcm2 HCM hP1 hD1 hx1 ne0 ne2 hdd HLV HCO HLA hlp HX
            go_wp2_with fail
            refine HCM2.out.mono ?_
            rintro e wc1 ⟨rfl, HX, KC⟩
            replace KX := KX.trans KC
            clear HCM2 HL HL0 KL KC g1 g2 g4
            have hdd := KA_Dead HX
            rw [INV.dead] at hdd
            have HDD := Lib.hid hdd
            have m0 := (KA_last HX).cell 0 (v := .int .i64 s.root) rfl
            have m1 := (KA_last HX).cell 1 (v := .int .i64 s.frm) rfl
            have m2 := (KA_last HX).cell 2 (v := .slice la s.pages.length lc) rfl
            have m3 := (KA_last HX).cell 3 (v := .slice ba s.bytes.length bc) rfl
            have hst := KA_stands INV.pok INV.bears.base.ok HX (HPV2.out.frame _) hpl
            rw [INV.stands] at hst
            have HST := Lib.hid hst
            have HINV2 := Lib.hid INV
            clear hdd hst INV
            go_wp2_with (go_at_call 17; refine HDD.out.mono ?_; rintro e wd ⟨rfl, rfl⟩)
            refine HST.out.mono ?_
            rintro e wt ⟨rfl, HT, KT⟩
            have KF := KX.trans KT
            clear HST HDD m0 m1 m2 m3 HX KX KT
            go_wp2_with fail
            go_roundw
            case rel => exact ⟨k + 1, P1, D1, s, pb, x1, _, _, by omega, by go_num, rfl, rfl, HINV2.out, Hhpv.out, hpl, KA_drop (KA_drop (KA_drop HT)), KF⟩
            case measure => simp [intOf]; omega
          · obtain ⟨P1, hP1⟩ : ∃ P1, P1 = (p.commit D o.at_ o.n o.pages).1 := ⟨_, rfl⟩
            obtain ⟨D1, hD1⟩ : ∃ D1, D1 = (p.commit D o.at_ o.n o.pages).2.1 := ⟨_, rfl⟩
            have hcm2 := HCM.out
            rw [e2, ← hP1, ← hD1] at hcm2
            rw [← hD1] at CRR
            have hlx : l = o.pages.map (Kp.pageB D) := by
              have := HLA.out hall
              rw [hlp] at this
              exact Option.some.inj this
            have hs2 : ∃ s2 : Kp.St, s2 = Kp.next D o.at_ o.n o.pages ∧ s2.root = o.at_ ∧ s2.frm = o.n ∧ s2.pages = o.pages ∧ s2.bytes = l := ⟨_, rfl, rfl, rfl, rfl, hlx.symm⟩
            obtain ⟨s2, hsn, hsr, hsf, hsp, hsb⟩ := hs2
            rw [← hsn] at CRR
            obtain ⟨hdead, q, hopen, hqok, hqb, hqall, hqs⟩ := Crashed_either CRR
            have HQALL := Lib.hid hqall
            have HQS := Lib.hid hqs
            have HCM2 := Lib.hid hcm2
            have HOPEN := Lib.hid hopen
            have HDEAD := Lib.hid hdead
            have HSR := Lib.hid hsr
            have HSF := Lib.hid hsf
            have HSP := Lib.hid hsp
            subst hsb
            clear hcm hcm2 HCM hP1 hD1 e2 HLV HCO HLA hlp HX hlx hall CRR hqall hqs hopen hdead hsn hsr hsf hsp
            go_wp2_with fail
            refine HCM2.out.mono ?_
            rintro e wc1 ⟨rfl, HY, KC⟩
            replace KX := KX.trans KC
            have f1 := (KA_front (KA_front HY).right).cell 1 (v := .int .i64 o.at_) rfl
            have f2 := (KA_front (KA_front HY).right).cell 2 (v := .int .i64 o.n) rfl
            have f4 := (KA_front (KA_front HY).right).cell 4 (v := .slice pa o.pages.length pc) rfl
            have HBN := KA_front (KA_front (KA_front HY).right).right
            have n0 := HBN.cell 0 (v := .int .i64 s.root) rfl
            have n1' := HBN.cell 1 (v := .int .i64 s.frm) rfl
            have n2 := HBN.cell 2 (v := .slice la s.pages.length lc) rfl
            have n3 := HBN.cell 3 (v := .slice ba s.bytes.length bc) rfl
            have u0 := HBN.unfz 0
            have u1 := HBN.unfz 1
            have u2' := HBN.unfz 2
            have u3' := HBN.unfz 3
            have hne : bl ≠ wr.heap.size + 1 := by omega
            clear HCM2 HL HL0 KL KC g1 g2 g4
            go_wp2_with fail
            have HX := KA_store1 (s2 := s2) (pv2 := .slice pa o.pages.length pc) HY
            rw [HSR.out, HSF.out] at HX
            replace KX := (((KX.setCell ⟨wr.heap.size + 1, 0, none⟩ (.int .i64 o.at_)).setCell ⟨wr.heap.size + 1, 1, none⟩ (.int .i64 o.n)).setCell ⟨wr.heap.size + 1, 2, none⟩ (.slice pa o.pages.length pc)).setCell ⟨wr.heap.size + 1, 3, none⟩ (.slice (some ⟨vg, 0, none⟩) s2.bytes.length vc)
            generalize World.setCell _ _ _ = wz at HX KX ⊢
            clear HY HBN f1 f2 f4 n0 n1' n2 n3 u0 u1 u2' u3' hne
            have HRP : Hid (Reads F (.slice pa o.pages.length pc) s2.pages) := Lib.hid (by rw [HSP.out]; exact HKP.out)
            have hpl2 : s2.pages.length ≤ 2000000 := by rw [HSP.out]; exact (Hgo.out).pagesL
            have hdd := KA_Dead HX
            rw [HDEAD.out] at hdd
            have HDD := Lib.hid hdd
            have HRV := Lib.hid (KA_Revive HX)
            clear hdd
            go_wp2_with (go_at_call 17; refine HDD.out.mono ?_; rintro e wd ⟨rfl, rfl⟩)
            refine HRV.out.mono ?_
            rintro e wv ⟨rfl, HV, KV⟩
            have KX1 := KX.trans KV
            have HOP := Lib.hid (KA_Open hqb.ok HV HOPEN.out (by omega))
            clear HRV HDD HX KX KV
            go_wp2_with fail
            refine HOP.out.mono ?_
            rintro e wo ⟨qb, rfl, HO, KO⟩
            have KX2 := KX1.trans KO
            have m0 := (KA_last HO).cell 0 (v := .int .i64 s.root) rfl
            have m1 := (KA_last HO).cell 1 (v := .int .i64 s.frm) rfl
            have m2 := (KA_last HO).cell 2 (v := .slice la s.pages.length lc) rfl
            have m3 := (KA_last HO).cell 3 (v := .slice ba s.bytes.length bc) rfl
            have hst := KA_stands hqok hqb.ok HO (((Hhpv.out.frame _).frame _).frame _) hpl
            clear HOP HV KX1 KO
            rcases HQS.out with hq1 | ⟨hq1, hq2, hnd, hrg⟩
            · have hall := HQALL.out s (HIN.out).bears.nodup (HIN.out).bears.range hq1
              have hrange : ∀ x ∈ s.pages, i64ok x := fun x hx => by
                have := (HIN.out).bears.range x hx
                unfold i64ok
                omega
              have HALL := Lib.hid hall
              have HRG := Lib.hid hrange
              rw [hq1] at hst
              have HST := Lib.hid hst
              have HQ1 := Lib.hid hq1
              clear hst hall hrange hq1
              go_wp2_with (go_at_call 18; refine HST.out.mono ?_; rintro e wt ⟨rfl, HT, KT⟩; have n0 := (KA_last HT).cell 0 (v := .int .i64 s.root) rfl; have n1' := (KA_last HT).cell 1 (v := .int .i64 s.frm) rfl; have n2 := (KA_last HT).cell 2 (v := .slice la s.pages.length lc) rfl; have n3 := (KA_last HT).cell 3 (v := .slice ba s.bytes.length bc) rfl)
              have hst2 := KA_stands hqok hqb.ok HT (((Hhpv.out.frame _).frame _).frame _) hpl
              rw [HQ1.out] at hst2
              have HST2 := Lib.hid hst2
              clear hst2 HO m0 m1 m2 m3
              refine HST2.out.mono ?_
              rintro e wu ⟨rfl, HU, KU⟩
              have KX3 := (KX2.trans KT).trans KU
              have v2 := (KA_last HU).cell 2 (v := .slice la s.pages.length lc) rfl
              have hlv := KA_Live hqok HU (((Hhpv.out.frame _).frame _).frame _) HRG.out
              rw [HALL.out.1] at hlv
              have HLV := Lib.hid hlv
              clear hlv HT KT KU KX2 n0 n1' n2 n3 HST HST2
              go_wp2_with fail
              refine HLV.out.mono ?_
              rintro e wy ⟨rfl, HZ, KZ⟩
              have KX4 := KX3.trans KZ
              clear HLV HU KX3 KZ v2
              go_wp2_with fail
              go_roundw
              case rel => exact ⟨k + 1, (q.setLive s.pages).1, D1.revive, s, qb, 0, _, _, by omega, by go_num, rfl, rfl, HALL.out.2, Hhpv.out, hpl, KA_drop (KA_drop (KA_drop HZ)), KX4⟩
              case measure => simp [intOf]; omega
            · have hall := HQALL.out s2 hnd hrg hq2
              have hrange : ∀ x ∈ s2.pages, i64ok x := fun x hx => by
                have := hrg x hx
                unfold i64ok
                omega
              have HALL := Lib.hid hall
              have HRG := Lib.hid hrange
              rw [hq1] at hst
              have HST := Lib.hid hst
              have HQ1 := Lib.hid hq1
              have HQ2 := Lib.hid hq2
              clear hst hall hrange hq1 hq2 hnd hrg
              go_wp2_with (go_at_call 18; refine HST.out.mono ?_; clear HST; rintro e wt ⟨rfl, HT, KT⟩; have n0 := (KA_front (KA_front (KA_front HT).right).right).cell 0 (v := .int .i64 s2.root) rfl; have n1' := (KA_front (KA_front (KA_front HT).right).right).cell 1 (v := .int .i64 s2.frm) rfl; have n2 := (KA_front (KA_front (KA_front HT).right).right).cell 2 (v := .slice pa o.pages.length pc) rfl; have n3 := (KA_front (KA_front (KA_front HT).right).right).cell 3 (v := .slice (some ⟨vg, 0, none⟩) s2.bytes.length vc) rfl)
              have hst2 := KA_stands_next hqok hqb.ok HT (HRP.out.frame _) hpl2
              rw [HQ2.out] at hst2
              have HST2 := Lib.hid hst2
              clear hst2 HO m0 m1 m2 m3
              refine HST2.out.mono ?_
              rintro e wu ⟨rfl, HU, KU⟩
              have KX3 := (KX2.trans KT).trans KU
              have m0 := (KA_last HU).cell 0 (v := .int .i64 s.root) rfl
              have m1 := (KA_last HU).cell 1 (v := .int .i64 s.frm) rfl
              have m2 := (KA_last HU).cell 2 (v := .slice la s.pages.length lc) rfl
              have m3 := (KA_last HU).cell 3 (v := .slice ba s.bytes.length bc) rfl
              have hst3 := KA_stands hqok hqb.ok HU (((Hhpv.out.frame _).frame _).frame _) hpl
              rw [HQ1.out] at hst3
              have HST3 := Lib.hid hst3
              clear hst3 HT KT KU KX2 n0 n1' n2 n3 HST2
              go_wp2_with fail
              refine HST3.out.mono ?_
              rintro e wx ⟨rfl, HW2, KW⟩
              have KX4 := KX3.trans KW
              have n0 := (KA_front (KA_front (KA_front HW2).right).right).cell 0 (v := .int .i64 s2.root) rfl
              have n1' := (KA_front (KA_front (KA_front HW2).right).right).cell 1 (v := .int .i64 s2.frm) rfl
              have n2 := (KA_front (KA_front (KA_front HW2).right).right).cell 2 (v := .slice pa o.pages.length pc) rfl
              have n3 := (KA_front (KA_front (KA_front HW2).right).right).cell 3 (v := .slice (some ⟨vg, 0, none⟩) s2.bytes.length vc) rfl
              have r0 := (KA_last HW2).cell 0 (v := .int .i64 s.root) rfl
              have r1 := (KA_last HW2).cell 1 (v := .int .i64 s.frm) rfl
              have r2 := (KA_last HW2).cell 2 (v := .slice la s.pages.length lc) rfl
              have r3 := (KA_last HW2).cell 3 (v := .slice ba s.bytes.length bc) rfl
              have t0 := (KA_last HW2).unfz 0
              have t1 := (KA_last HW2).unfz 1
              have t2 := (KA_last HW2).unfz 2
              have t3 := (KA_last HW2).unfz 3
              have hne : bl ≠ wr.heap.size + 1 := by omega
              clear HST3 HU KX3 KW m0 m1 m2 m3
              go_wp2_with fail
              have HN := KA_setlast (s2 := s2) (pv2 := .slice pa o.pages.length pc) rfl HW2
              have KX5 := (((KX4.setCell ⟨bl, 0, none⟩ (.int .i64 s2.root)).setCell ⟨bl, 1, none⟩ (.int .i64 s2.frm)).setCell ⟨bl, 2, none⟩ (.slice pa o.pages.length pc)).setCell ⟨bl, 3, none⟩ (.slice (some ⟨vg, 0, none⟩) s2.bytes.length vc)
              generalize World.setCell _ _ _ = wy at HN KX5 ⊢
              have hlv := KA_Live hqok HN (((HRP.out.frame _).frame _).frame _) HRG.out
              rw [HALL.out.1] at hlv
              have HLV := Lib.hid hlv
              clear hlv HW2 KX4 n0 n1' n2 n3 r0 r1 r2 r3 t0 t1 t2 t3
              refine HLV.out.mono ?_
              rintro e w8 ⟨rfl, HZ, KZ⟩
              have KX6 := KX5.trans KZ
              clear HLV HN KX5 KZ
              go_wp2_with fail
              go_roundw
              case rel => exact ⟨k + 1, (q.setLive s2.pages).1, D1.revive, s2, qb, 0, _, _, by omega, by go_num, rfl, rfl, HALL.out.2, HRP.out, hpl2, KA_drop (KA_drop (KA_drop HZ)), KX6⟩
              case measure => simp [intOf]; omega
      · have hkr := ((Hgo.out).kept)
        rw [Hkv2.out] at hkr
        have harm := KA_Arm HX o.n ((hkr.frame _).frame _) (Hgo.out).keptL
        have INV := (HIN.out).arm o.kept (Hgo.out).n.2
        have HARM := Lib.hid harm
        clear harm hkr
        refine HARM.out.mono ?_
        rintro e wa ⟨rfl, HY, KY⟩
        replace KX := KX.trans KY
        obtain ⟨D1, hD1⟩ : ∃ D1, D1 = (D.arm o.n o.kept).1 := ⟨_, rfl⟩
        obtain ⟨x1, hx1⟩ : ∃ x1, x1 = (D.arm o.n o.kept).2 := ⟨_, rfl⟩
        rw [← hD1] at HY INV
        rw [← hx1]
        have HX := HY
        clear HY KY HARM hD1 hx1
        have hdd := KA_Dead HX
        rw [INV.dead] at hdd
        have HDD := Lib.hid hdd
        have m0 := (KA_last HX).cell 0 (v := .int .i64 s.root) rfl
        have m1 := (KA_last HX).cell 1 (v := .int .i64 s.frm) rfl
        have m2 := (KA_last HX).cell 2 (v := .slice la s.pages.length lc) rfl
        have m3 := (KA_last HX).cell 3 (v := .slice ba s.bytes.length bc) rfl
        have hst := KA_stands INV.pok INV.bears.base.ok HX HPV2.out hpl
        rw [INV.stands] at hst
        have HST := Lib.hid hst
        have HINV2 := Lib.hid INV
        clear hdd hst INV
        go_wp2_with (go_at_call 17; refine HDD.out.mono ?_; rintro e wd ⟨rfl, rfl⟩)
        refine HST.out.mono ?_
        rintro e wt ⟨rfl, HT, KT⟩
        have KF := KX.trans KT
        clear HST HDD m0 m1 m2 m3 HX KX KT
        go_wp2_with fail
        go_roundw
        case rel => exact ⟨k + 1, p, D1, s, pb, x5, _, _, by omega, by go_num, rfl, rfl, HINV2.out, Hhpv.out, hpl, KA_drop (KA_drop HT), KF⟩
        case measure => simp [intOf]; omega
      · have hkr := ((Hgo.out).kept)
        rw [Hkv2.out] at hkr
        have hcr := KA_Crash (HIN.out).bears.base.ok HX ((hkr.frame _).frame _)
        have CR := (HIN.out).crash o.kept
        have HCR := Lib.hid hcr
        clear hcr hkr
        refine HCR.out.mono ?_
        rintro e wa ⟨rfl, HY, KY⟩
        replace KX := KX.trans KY
        obtain ⟨D1, hD1⟩ : ∃ D1, D1 = (D.crash o.kept).1 := ⟨_, rfl⟩
        obtain ⟨x1, hx1⟩ : ∃ x1, x1 = (D.crash o.kept).2 := ⟨_, rfl⟩
        rw [← hD1] at HY CR
        rw [← hx1]
        have HX := HY
        clear HY KY HCR hD1 hx1
        obtain ⟨q, hopen, hqok, hqf, hqp, hqs, hqb, hqall⟩ := CR.reopen
        have hall := hqall s (HIN.out).bears.nodup (HIN.out).bears.range hqs
        have hrange : ∀ x ∈ s.pages, i64ok x := fun x hx => by
          have := (HIN.out).bears.range x hx
          unfold i64ok
          omega
        have HALL := Lib.hid hall
        have HRG := Lib.hid hrange
        have hdd := KA_Dead HX
        rw [CR.dead] at hdd
        have HDD := Lib.hid hdd
        have HRV := Lib.hid (KA_Revive HX)
        clear hdd CR hqall hall hrange
        go_wp2_with (go_at_call 17; refine HDD.out.mono ?_; rintro e wd ⟨rfl, rfl⟩)
        refine HRV.out.mono ?_
        rintro e wv ⟨rfl, HV, KV⟩
        have KX1 := KX.trans KV
        have HOP := Lib.hid (KA_Open hqb.ok HV hopen (by omega))
        clear HRV HDD HX KX KV hopen
        go_wp2_with fail
        refine HOP.out.mono ?_
        rintro e wo ⟨qb, rfl, HO, KO⟩
        have KX2 := KX1.trans KO
        have m0 := (KA_last HO).cell 0 (v := .int .i64 s.root) rfl
        have m1 := (KA_last HO).cell 1 (v := .int .i64 s.frm) rfl
        have m2 := (KA_last HO).cell 2 (v := .slice la s.pages.length lc) rfl
        have m3 := (KA_last HO).cell 3 (v := .slice ba s.bytes.length bc) rfl
        have hst := KA_stands hqok hqb.ok HO HPV2.out hpl
        rw [hqs] at hst
        have HST := Lib.hid hst
        clear hst HOP HV KX1 KO
        go_wp2_with (go_at_call 18; refine HST.out.mono ?_; rintro e wt ⟨rfl, HT, KT⟩; have n0 := (KA_last HT).cell 0 (v := .int .i64 s.root) rfl; have n1' := (KA_last HT).cell 1 (v := .int .i64 s.frm) rfl; have n2 := (KA_last HT).cell 2 (v := .slice la s.pages.length lc) rfl; have n3 := (KA_last HT).cell 3 (v := .slice ba s.bytes.length bc) rfl)
        have hst2 := KA_stands hqok hqb.ok HT HPV2.out hpl
        rw [hqs] at hst2
        have HST2 := Lib.hid hst2
        clear hst2 HO m0 m1 m2 m3
        refine HST2.out.mono ?_
        rintro e wu ⟨rfl, HU, KU⟩
        have KX3 := (KX2.trans KT).trans KU
        have v2 := (KA_last HU).cell 2 (v := .slice la s.pages.length lc) rfl
        have hlv := KA_Live hqok HU HPV2.out HRG.out
        rw [HALL.out.1] at hlv
        have HLV := Lib.hid hlv
        clear hlv HT KT KU KX2 n0 n1' n2 n3 HST HST2
        go_wp2_with fail
        refine HLV.out.mono ?_
        rintro e wz ⟨rfl, HZ, KZ⟩
        have KX4 := KX3.trans KZ
        clear HLV HU KX3 KZ v2
        go_wp2_with fail
        go_roundw
        case rel => exact ⟨k + 1, (q.setLive s.pages).1, D1.revive, s, qb, 0, _, _, by omega, by go_num, rfl, rfl, HALL.out.2, Hhpv.out, hpl, KA_drop (KA_drop HZ), KX4⟩
        case measure => simp [intOf]; omega
      · have INV := HIN.out
        have hdd := KA_Dead HX
        rw [INV.dead] at hdd
        have HDD := Lib.hid hdd
        have m0 := (KA_last HX).cell 0 (v := .int .i64 s.root) rfl
        have m1 := (KA_last HX).cell 1 (v := .int .i64 s.frm) rfl
        have m2 := (KA_last HX).cell 2 (v := .slice la s.pages.length lc) rfl
        have m3 := (KA_last HX).cell 3 (v := .slice ba s.bytes.length bc) rfl
        have hst := KA_stands INV.pok INV.bears.base.ok HX HPV2.out hpl
        rw [INV.stands] at hst
        have HST := Lib.hid hst
        have HINV2 := Lib.hid INV
        clear hdd hst INV
        go_wp2_with (go_at_call 17; refine HDD.out.mono ?_; rintro e wd ⟨rfl, rfl⟩)
        refine HST.out.mono ?_
        rintro e wt ⟨rfl, HT, KT⟩
        have KF := KX.trans KT
        clear HST HDD m0 m1 m2 m3 HX KX KT
        go_wp2_with fail
        go_roundw
        case rel => exact ⟨k + 1, p, D, s, pb, x5, _, _, by omega, by go_num, rfl, rfl, HINV2.out, Hhpv.out, hpl, KA_drop (KA_drop HT), KF⟩
        case measure => simp [intOf]; omega
    · obtain rfl : k = os.length := by omega
      go_wp2_with fail
      refine (fixed_calls HR).mono ?_
      rintro e w9 ⟨rfl, H9, K9⟩
      have K10 := hKr.trans K9
      go_wp2_with fail
      go_ret
      exact .mk (KA_F H9) K10
end Go.Proofs.Ytmeepegllkhlcaa
