/-
  PagerTakes: the walk.
-/
import Derived.Test.YtmeepegllkhlcaaLaw
import Derived.Test.YtmeepegllkhlcaaFit
namespace Go.Proofs.Ytmeepegllkhlcaa
open Go Go.RowKit Go.Maps

set_option maxRecDepth 100000 in
set_option maxHeartbeats 4000000 in
theorem laidOut_calls {F : HProp} {w : World} (H : Holds F w) (n : Nat) (h1 : 1 ≤ n) (h60 : n ≤ 60) :
    Calls Try.prog 5 #[.int .i64 (n : Int)] w fun e w' => ∃ pb db D p, Ret (.pointer (some ⟨pb, 0, none⟩)) (pgA pb db p * (diskA db D * F)) w e w' ∧ p.Ok D.n ∧ p.Tk n 0 := by
  obtain ⟨i0, hi, hz0, hz1, hz2⟩ := info_parts Try_infoByte
  obtain ⟨m, hm⟩ : ∃ m, m = 64 * (2 + 8 * n) := ⟨_, rfl⟩
  obtain ⟨S, hS⟩ : ∃ S : ByteArray, strV (Pg.zeros m) = .string S := ⟨_, rfl⟩
  have HS := Lib.hid hS
  have Hm := Lib.hid hm
  have hmi : (64 : Int) * (2 + 8 * (n : Int)) = (m : Int) := by omega
  have hm2 : m ≤ 100000 := by omega
  have hok : Dk.newOk (Pg.zeros m) = true := by
    unfold Dk.newOk
    simp only [decide_eq_true_eq]
    have : (Pg.zeros m).length = m := by simp [Pg.zeros]
    rw [this]
    omega
  have HOK := Lib.hid hok
  clear hS hm hok
  go_enter Try.func5, Try.ntmps5
  go_wp2_with (at_make; refine wpList_make_full w rfl _ _ _ rfl w.heap.size 5 i0 (.int .u8 0) 1 Try.underlying36 hi hz0 hz1 .i64 .i64 (m : Int) (m : Int) m rfl rfl rfl rfl (by rw [hz2]; omega) (by unfold maxLen; omega) (Nat.le_refl _) ?_; intro w1 hown1 hg1; rw [madeZeros] at hown1; have hstr := run_own_string hown1 (by simp [Pg.zeros]); rw [HS.out] at hstr; clear hown1)
  have hb1 : Below w.heap.size w w1 := (Below.refl w.heap.size w).grown hg1 (Nat.le_refl _) (fun k hk => by cases hk)
  have H1 := H.below hb1
  have K1 := Keeps.below hb1
  have hnew := New_calls H1 (Pg.zeros m) HOK.out
  rw [HS.out] at hnew
  have HN := Lib.hid hnew
  clear hg1 hb1 hnew
  refine HN.out.mono ?_
  rintro e w2 ⟨db, rfl, H2, K2⟩
  have K3 := K1.trans K2
  have hD := Dk.ok_new HOK.out
  have hfit := Dk.fit_new (Pg.zeros m)
  have hn : (Dk.new (Pg.zeros m)).n = 2 + 8 * n := by
    rw [Dk.new_n]
    have : (Pg.zeros m).length = m := by simp [Pg.zeros]
    rw [this, Hm.out]
    omega
  obtain ⟨D, hDd⟩ : ∃ D, D = Dk.new (Pg.zeros m) := ⟨_, rfl⟩
  rw [← hDd] at H2 hD hfit hn
  have hck : Pg.check D 2 (n : Int) 1 = 0 := by
    unfold Pg.check
    rw [if_neg (by omega), hfit.dead]; rfl
  have hff := Pg.format_fit hfit hck
  have hfo := Pg.fresh_ok hD hck
  have hfn : (Pg.format D 2 (n : Int) 1).1.n = D.n := by
    rw [hff]
    show (Dk.becomes _ _).n = _
    rw [Dk.becomes_n, Dk.puts_n, Dk.puts_n]
  have hf2 : (Pg.format D 2 (n : Int) 1).2 = (some (Pg.fresh 2 (n : Int) 1), 0) := by rw [hff]
  have HF2 := Lib.hid hf2
  have HFO := Lib.hid hfo
  have HFN := Lib.hid hfn
  clear hff hck hDd K1 K2 H1 HN hstr H hn hf2 hfo hfn hfit
  go_wp2_with fail
  refine (Format_calls hD H2 2 (n : Int) 1 (by decide) (by omega) (by decide)).mono ?_
  intro e w3 hf
  obtain ⟨pb, rfl, H3, K4⟩ := fmt_some HF2.out hf
  have K5 := K3.trans K4
  clear hf K3 K4 H2
  go_wp2_with fail
  go_ret
  refine ⟨pb, db, _, _, .mk H3 K5, ?_, ?_⟩
  · rw [HFN.out]; exact HFO.out
  · exact ⟨by show (n : Int).toNat = n; omega, rfl, fun x => by show x ∈ ([] : List Int) ↔ _; simp⟩
end Go.Proofs.Ytmeepegllkhlcaa
