/-
  The document's disk: New.
-/
import Derived.Test.YtmeepegllkhlcaaGreatR17e
import Derived.Deep.RegionLaw
namespace Go.Proofs.YtmeepegllkhlcaaGreat
open Go Go.RowKit Go.Maps

/-- A row of texts of the call's own, or none yet. -/
def strsR (v : Value) (l : List Bs) : HProp := fun h => rowS v l h ∨ (pur (l = [] ∧ v = .slice none 0 0) : HProp) h
theorem strsR_none {F : HProp} {w : World} (h : Holds F w) : Holds (strsR (.slice none 0 0) [] * F) w := by
  obtain ⟨x, hx, hF⟩ := h
  refine ⟨x, hx, (fun _ => none), x, fun _ => .inl rfl, by funext i; simp [union], .inr ⟨⟨rfl, rfl⟩, rfl⟩, hF⟩
theorem strsR_row {v : Value} {l : List Bs} {F : HProp} {w : World} (h : Holds (rowS v l * F) w) : Holds (strsR v l * F) w := by
  obtain ⟨x, hx, a, b, d, rfl, h1, hF⟩ := h
  exact ⟨_, hx, a, b, d, rfl, .inl h1, hF⟩
theorem strsR_or {v : Value} {l : List Bs} {F : HProp} {w : World} (h : Holds (strsR v l * F) w) : Holds (rowS v l * F) w ∨ (l = [] ∧ v = .slice none 0 0 ∧ Holds F w) := by
  obtain ⟨x, hx, a, b, d, rfl, h1 | h1, hF⟩ := h
  · exact .inl ⟨_, hx, a, b, d, rfl, h1, hF⟩
  · obtain ⟨⟨rfl, rfl⟩, rfl⟩ := h1
    have : union (fun _ => none) b = b := by funext i; simp [union]
    rw [this] at hx
    exact .inr ⟨rfl, rfl, b, hx, hF⟩
/-- 'append(v, s)', v none or a row of texts of the call's own: what it comes to. -/
theorem run_append_strR {W : World} {F : HProp} (ty : TypeId) (v : Value) (l : List Bs) (b : Bs) (H : Holds (strsR v l * F) W) (hl : l.length ≤ 4000000) :
    ∃ v1 w1, (Builtin.append_ #[79, 79] ty #[v, .slice (some ⟨W.heap.size, 0, none⟩) 1 1]).run Tryz.prog (W.alloc (.cells #[strV b] 9)) = .ok v1 w1 ∧ Holds (rowS v1 (l ++ [b]) * F) w1 ∧ Keeps W w1 := by
  obtain ⟨i0, hi, hz0, hz1, hz2⟩ := info_parts Tryz_infoStr
  have KW := (Keeps.refl W).alloc (.cells #[strV b] 9)
  have hnew : ∀ j u, ([strV b] : List Value)[j]? = some u → (W.alloc (.cells #[strV b] 9)).cell? ((⟨W.heap.size, 0, none⟩ : Addr).add j) = some u := by
    intro j u hj
    match j, hj with
    | 0, hj =>
      simp at hj; subst hj
      have hh : (W.alloc (.cells #[strV b] 9)).heap[W.heap.size]? = some (.cells #[strV b] 9) := World.alloc_heap_new W _
      have ha : (⟨W.heap.size, 0, none⟩ : Addr).add 0 = ⟨W.heap.size, 0, none⟩ := rfl
      rw [ha]
      unfold World.cell?
      rw [hh]
      rfl
  have hone : ∀ u ∈ ([strV b] : List Value), u.oneCell' = true := by intro u hu; simp at hu; subst hu; rfl
  have hlen : (l ++ [b]).length = l.length + 1 := by simp
  have hmap : (l ++ [b]).map strV = l.map strV ++ [strV b] := by simp
  have fresh : ∀ v1 w1 (G : HProp), Holds G (W.alloc (.cells #[strV b] 9)) → w1.ownsRow (W.alloc (.cells #[strV b] 9)).heap.size 9 1 v1 (l ++ [b]).length ((l ++ [b]).map strV) → (W.alloc (.cells #[strV b] 9)).grownBy w1 none → Holds (rowS v1 (l ++ [b]) * G) w1 := by
    intro v1 w1 G hG ho hg1
    refine rowS_of_own ho (by rw [hlen]; omega) (fun g' n c hv2 _ o' ho' => ?_)
    have hge : (W.alloc (.cells #[strV b] 9)).heap.size ≤ g' := by
      rcases ho.2 with ⟨_, h0⟩ | ⟨g2, cap2, cur2, hv3, hb2, _⟩
      · rw [hlen] at h0; omega
      · rw [hv3] at hv2
        simp only [Value.slice.injEq, Option.some.injEq, Addr.mk.injEq] at hv2
        rw [← hv2.1.1]; exact hb2
    exact hG.fresh hge ho' (fun j hj => hg1.block j hj (fun e => by cases e))
  rcases strsR_or H with H | ⟨rfl, rfl, HF⟩
  · obtain ⟨g, cap, cur, ⟨rfl, h1, h2, h3, h4⟩, hp⟩ := rowS_open.1 H
    have hp' := hp.alloc_only (.cells #[strV b] 9)
    have hhere := hp'.here
    have hown : (W.alloc (.cells #[strV b] 9)).ownsRow 0 9 1 (.slice (some ⟨g, 0, none⟩) l.length cap) l.length (l.map strV) :=
      ⟨by simp, .inr ⟨g, cap, cur, rfl, Nat.zero_le _, hhere, h1, h2, by rw [h3, Nat.mul_one], by rw [Nat.mul_one]; exact h4⟩⟩
    by_cases hroom : l.length + 1 ≤ cap
    · obtain ⟨w1, hrun, ho1, hg1⟩ := run_append_fits (P := Tryz.prog) (W.alloc (.cells #[strV b] 9)) 0 79 ty 9 i0 1 Tryz.underlying79 hi hz1 g l.length cap (l.map strV) hown ⟨W.heap.size, 0, none⟩ 1 1 [strV b] rfl hnew hone hroom
      rw [← hlen, ← hmap] at ho1
      refine ⟨_, w1, hrun, ?_, KW.trans (Keeps.grown hg1)⟩
      have hv : (Value.slice (some ⟨g, 0, none⟩) (l.length + 1) cap) = .slice (some ⟨g, 0, none⟩) (l ++ [b]).length cap := by rw [hlen]
      rw [hv]
      refine rowS_of_own ho1 (by rw [hlen]; omega) (fun g' n c hv2 _ o' ho' => ?_)
      have hgg : g' = g := by
        simp only [Value.slice.injEq, Option.some.injEq, Addr.mk.injEq] at hv2
        exact hv2.1.1.symm
      subst hgg
      exact hp'.upd ho' (fun j hj hne => hg1.block j hj (fun e => hne (by cases e; rfl)))
    · have holds : ∀ j u, (l.map strV)[j]? = some u → (W.alloc (.cells #[strV b] 9)).cell? ((⟨g, 0, none⟩ : Addr).add j) = some u := hown.cells (g := g) rfl
      obtain ⟨v1, w1, hrun, ho1, hg1⟩ := run_append_arg_grows (P := Tryz.prog) (W.alloc (.cells #[strV b] 9)) 79 ty 9 i0 (.string ⟨#[]⟩) 1 16 Tryz.underlying79 hi hz0 hz1 hz2 rfl (by decide) ⟨g, 0, none⟩ l.length cap (l.map strV) (by simp) holds ⟨W.heap.size, 0, none⟩ 1 1 [strV b] rfl hnew (by omega) (by unfold maxLen; omega) (by omega)
      rw [← hlen, ← hmap] at ho1
      exact ⟨v1, w1, hrun, fresh v1 w1 F hp'.right ho1 hg1, KW.trans (Keeps.grown hg1)⟩
  · have H1 := HF.alloc_only (.cells #[strV b] 9)
    obtain ⟨v1, w1, hrun, ho1, hg1, _⟩ := run_append_own (P := Tryz.prog) (W.alloc (.cells #[strV b] 9)) (W.alloc (.cells #[strV b] 9)).heap.size 79 ty 9 i0 (.string ⟨#[]⟩) 1 16 Tryz.underlying79 hi hz0 hz1 hz2 rfl (by decide) (.slice none 0 0) 0 [] (World.ownsRow_nil _ _ 9 1) ⟨W.heap.size, 0, none⟩ 1 1 [strV b] rfl hnew hone (by unfold maxLen; omega) (by omega) (Nat.le_refl _)
    exact ⟨v1, w1, hrun, fresh v1 w1 F H1 ho1 hg1, KW.trans (Keeps.grown hg1)⟩
/-- The same, as a step of a region that draws its order. -/
theorem step_append_strR {W : World} {ops : Array Oper} {o : Oper} {a : Act} {K : Act → World → Prop} {Q : Exit → Act → World → Prop} {E : Prop} {F : HProp} (hgd : o.guard = none) (s x : Operand)
    (ho : o.op = .call { callee := .builtin .append, args := #[s, x], argTypes := #[79, 79] }) (v : Value) (l : List Bs) (b : Bs) (y : Value) (hy : y = strV b) (hs : a.eval s = v) (hx : a.eval x = .slice (some ⟨W.heap.size, 0, none⟩) 1 1)
    (H : Holds (strsR v l * F) W) (hl : l.length ≤ 4000000) (hK : ∀ v1 w1, Holds (rowS v1 (l ++ [b]) * F) w1 → Keeps W w1 → K (a.put o.dst v1) w1) :
    if Region.wanted o (yielded ops a.tmps) = true then Oper.wp Tryz.prog o a (W.alloc (.cells #[y] 9)) K Q else E := by
  have hw : Region.wanted o (yielded ops a.tmps) = true := by simp [Region.wanted, hgd]
  rw [if_pos hw]
  subst hy
  obtain ⟨v1, w1, hrun, h1, h2⟩ := run_append_strR o.type v l b H hl
  exact Lib.wp_append_run _ s x _ _ ho _ _ hs hx v1 w1 hrun (hK v1 w1 h1 h2)

theorem chunks_take_succ (s : Bs) (k : Nat) (h : k < (Dk.chunks s).length) : (Dk.chunks s).take (k + 1) = (Dk.chunks s).take k ++ [(s.drop (64 * k)).take 64] := by
  have h2 : k < s.length / 64 := by rwa [Dk.chunks_length] at h
  rw [List.take_add_one, Dk.chunks_at s k h2]
  rfl

set_option maxRecDepth 100000 in
set_option maxHeartbeats 1000000 in
theorem RNew_calls {F : HProp} {w : World} (H : Holds F w) (s : Bs) (hok : Dk.newOk s = true) :
    Calls Tryz.prog 42 #[strV s] w fun e w' => ∃ rb, Ret (.tuple #[.pointer (some ⟨rb, 0, none⟩), .int .i64 0]) (rdA rb (Dk.new s) * F) w e w' := by
  obtain ⟨i0, hi, hz0, hz1, hz2⟩ := info_parts Tryz_infoStr
  have hok' := hok
  simp only [Dk.newOk, decide_eq_true_eq] at hok'
  obtain ⟨h0, h1, h2⟩ := hok'
  obtain ⟨m, hm⟩ : ∃ m, m = s.length / 64 := ⟨_, rfl⟩
  have hsm : s.length = 64 * m := by omega
  have hm1 : 1 ≤ m := by omega
  have hm2 : m ≤ 4096 := by omega
  have hsi : (s.length : Int) = 64 * (m : Int) := by omega
  have hq : (s.length : Int) / 64 = (m : Int) := by omega
  have b1 : decide ((m : Int) < 1) = false := by simp; omega
  have b2 : decide ((4096 : Int) < (m : Int)) = false := by simp; omega
  have b3 : (((m : Int) * 64) != (s.length : Int)) = false := by rw [bne_eq_false_iff_eq]; omega
  have Hcl : Hid ((Dk.chunks s).length = m) := Lib.hid (by rw [Dk.chunks_length, hm])
  have Hcut : Hid (∀ k, k < m → ∀ w : World, (Instr.slice 9 (strV s) (some (.int .i64 (64 * (k : Int)))) (some (.int .i64 (64 * (k : Int) + 64))) none).run Tryz.prog w = .ok (strV ((s.drop (64 * k)).take 64)) w) := Lib.hid (fun k hk w => run_chunk s k (by omega) w)
  have hsb : s.length ≤ 300000 := by omega
  have Hnew : Hid (Dk.new s = { safe := Dk.chunks s, wr := List.replicate m none, armed := 0, kept := [], dead := false }) := Lib.hid (by rw [hm]; rfl)
  obtain ⟨rb, hrb⟩ : ∃ rb, rb = w.heap.size := ⟨_, rfl⟩
  have H1 := strsR_none (H.alloc (.cells #[.slice none 0 0, .slice none 0 0, .int .i64 0, .slice none 0 0, .bool false] 84))
  have K1 := (Keeps.refl w).alloc (.cells #[.slice none 0 0, .slice none 0 0, .int .i64 0, .slice none 0 0, .bool false] 84)
  rw [← hrb] at H1
  clear h0 h1 h2 hm hsm hsi hok
  unfold strV
  go_enter Tryz.func42, Tryz.ntmps42
  go_wp2_with fail
  clear b1 b2 b3 hq
  rw [← hrb]
  clear hrb
  go_loopw [6] (fun i wr => ∃ (k : Nat) (v : Value), k ≤ m ∧ i = .int .i64 k ∧ Holds (strsR v ((Dk.chunks s).take k) * (pt rb (.cells #[v, .slice none 0 0, .int .i64 0, .slice none 0 0, .bool false] 84 (0, 0)) * F)) wr ∧ Keeps w wr) (fun i _ => m - (intOf i).toNat)
  case atStart => exact ⟨0, _, Nat.zero_le _, rfl, H1, K1⟩
  case round =>
    clear H1 K1
    obtain ⟨k, v, hk, rfl, HR, hKr⟩ := hrel
    have hvs : ∃ a n c, v = .slice a n c := by
      rcases strsR_or HR with h | ⟨_, h, _⟩
      · obtain ⟨g, c, hv, _⟩ := rowS_cell h
        exact ⟨_, _, _, hv⟩
      · exact ⟨_, _, _, h⟩
    obtain ⟨va, vn, vc, rfl⟩ := hvs
    by_cases hlt : k < m
    · obtain ⟨c, hc⟩ : ∃ c, c = (s.drop (64 * k)).take 64 := ⟨_, rfl⟩
      have hcut := Hcut.out k hlt wr.drew
      rw [← hc] at hcut
      have htake := chunks_take_succ s k (by rw [Hcl.out]; exact hlt)
      rw [← hc] at htake
      have hll : ((Dk.chunks s).take k).length ≤ 4000000 := by
        rw [List.length_take]; omega
      have HW := HR.drew
      have d0 := HW.right.cell 0 (v := .slice va vn vc) rfl
      have hrbl := HW.right.lt
      have d1 : ∀ o : Obj, (wr.alloc o).cell? ⟨rb, 0, none⟩ = some (.slice va vn vc) := fun o => (HR.alloc_only o).right.cell 0 rfl
      have Htake := Lib.hid htake
      have hKd := hKr.drew
      obtain ⟨cb, hcb⟩ : ∃ cb : ByteArray, strV c = .string cb := ⟨_, rfl⟩
      rw [hcb] at hcut
      unfold strV at hcut
      clear hc htake HR hKr
      go_wp2_with fail
      have hw2 : IntKind.i64.wrap (64 * (k : Int)) = 64 * (k : Int) := IntWalk.i64_in _ (by omega)
      have hw3 : IntKind.i64.wrap (64 * (k : Int) + 64) = 64 * (k : Int) + 64 := IntWalk.i64_in _ (by omega)
      have f1 : (0 : Int) ≤ 64 * (k : Int) := by omega
      have Hcb := Lib.hid hcb
      clear hcb
      go_region_law ((refine step_append_strR rfl (.tmp 34) (.tmp 42) rfl (.slice va vn vc) ((Dk.chunks s).take k) c (.string cb) Hcb.out.symm rfl rfl HW hll ?_; intro v1 w3 H3 K3; have q0 := H3.right.cell 0 (v := .slice va vn vc) rfl; have p0 := H3.right.unfz 0; obtain ⟨g1, c1, hv1, _⟩ := rowS_cell H3; obtain ⟨n1, hn1⟩ : ∃ n1, n1 = ((Dk.chunks s).take k ++ [c]).length := ⟨_, rfl⟩; rw [← hn1] at hv1; subst hv1; have Hn1 := Lib.hid hn1; clear hn1))
      all_goals
        have K4 := hKd.trans K3
        have H4 := H3
        rw [sep_left_comm] at H4
        have H5 := H4.setCell (off := 0) (.slice (some ⟨g1, 0, none⟩) n1 c1)
        rw [sep_left_comm] at H5
        have H6 := strsR_row H5
        have H7 : Hid (Holds (strsR (.slice (some ⟨g1, 0, none⟩) n1 c1) ((Dk.chunks s).take (k + 1)) * (pt rb (.cells #[.slice (some ⟨g1, 0, none⟩) n1 c1, .slice none 0 0, .int .i64 0, .slice none 0 0, .bool false] 84 (0, 0)) * F)) (w3.setCell ⟨rb, 0, none⟩ (.slice (some ⟨g1, 0, none⟩) n1 c1))) := Lib.hid (by
          rw [Htake.out]
          exact H6)
        have K5 := K4.setCell ⟨rb, 0, none⟩ (.slice (some ⟨g1, 0, none⟩) n1 c1)
        clear H3 H4 H5 H6 K3 K4 q0 p0 hrbl hw2 hw3 f1 hcut d0 d1 HW hKd
        go_wp2_with fail
        go_roundw
        case rel => exact ⟨k + 1, _, by omega, by go_num, H7.out, K5⟩
        case measure => simp [intOf]; omega
    · obtain rfl : k = m := by omega
      have hcl : (Dk.chunks s).take k = Dk.chunks s := List.take_of_length_le (Nat.le_of_eq Hcl.out)
      rw [hcl] at HR
      have hrow : Holds (rowS (.slice va vn vc) (Dk.chunks s) * (pt rb (.cells #[.slice va vn vc, .slice none 0 0, .int .i64 0, .slice none 0 0, .bool false] 84 (0, 0)) * F)) wr := by
        rcases strsR_or HR with h | ⟨h, _, _⟩
        · exact h
        · have := Hcl.out
          rw [h] at this
          simp at this
          omega
      have d1 := hrow.right.cell 1 (v := .slice none 0 0) rfl
      have u1 := hrow.right.unfz 1
      clear hcl HR
      go_wp2_with (at_make; refine wpList_make_full _ rfl _ _ _ rfl 0 9 i0 (.string ⟨#[]⟩) 1 Tryz.underlying79 hi hz0 hz1 .i64 .i64 (k : Int) (k : Int) k rfl rfl rfl rfl (by rw [hz2]; omega) (by unfold maxLen; omega) (Nat.zero_le _) ?_; intro w2 hown2 hg2; rw [madeStrs] at hown2; have e4 := hrow.grow (fun j hj => hg2.block j hj (by simp)); have q1 := e4.right.cell 1 (v := .slice none 0 0) rfl; have p1 := e4.right.unfz 1)
      go_ret2
      obtain ⟨g2, hg2d⟩ : ∃ g2, g2 = wr.heap.size := ⟨_, rfl⟩
      rw [← hg2d] at hown2
      have HN : Holds (rowS (.slice (some ⟨g2, 0, none⟩) k k) (List.replicate k []) * (rowS (.slice va vn vc) (Dk.chunks s) * (pt rb (.cells #[.slice va vn vc, .slice none 0 0, .int .i64 0, .slice none 0 0, .bool false] 84 (0, 0)) * F))) w2 := by
        have hown3 : w2.ownsRow 0 9 1 (.slice (some ⟨g2, 0, none⟩) k k) (List.replicate k ([] : Bs)).length ((List.replicate k ([] : Bs)).map strV) := by
          rw [List.length_replicate]; exact hown2
        refine rowS_of_own hown3 (by rw [List.length_replicate]; omega) (fun g' n c hv _ o ho => ?_)
        have hgg : g' = g2 := by
          simp only [Value.slice.injEq, Option.some.injEq, Addr.mk.injEq] at hv
          exact hv.1.1.symm
        rw [hgg] at ho ⊢
        exact hrow.fresh (by rw [hg2d]; exact Nat.le_refl _) ho (fun j hj => hg2.block j hj (by simp))
      rw [show ∀ N A B G : HProp, N * (A * (B * G)) = B * (A * (N * G)) from by intro N A B G; ac_rfl] at HN
      have H5 := HN.setCell (off := 1) (.slice (some ⟨g2, 0, none⟩) k k)
      have K5 := (hKr.trans (Keeps.grown hg2)).setCell ⟨rb, 1, none⟩ (.slice (some ⟨g2, 0, none⟩) k k)
      rw [← hg2d, Hnew.out]
      refine ⟨rb, .mk (rdA_B.2 ⟨.slice none 0 0, rdB_open.2 ⟨.slice va vn vc, .slice (some ⟨g2, 0, none⟩) k k, ?_⟩⟩) K5⟩
      have ewr : wrL { safe := Dk.chunks s, wr := List.replicate k none, armed := 0, kept := [], dead := false } = List.replicate k [] := by
        unfold wrL
        simp
      rw [ewr, intsA_nil, emp_sep]
      exact H5
end Go.Proofs.YtmeepegllkhlcaaGreat
