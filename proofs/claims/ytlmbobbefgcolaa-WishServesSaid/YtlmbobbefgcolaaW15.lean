/- Wishes: which owners are sure. No conditions. -/
import Derived.Test.YtlmbobbefgcolaaW13
namespace Go.Proofs.Ytlmbobbefgcolaa
open Go Go.Eng

theorem e0_len (x : AV × List Int) : (e0 x).length = 1 := rfl

theorem s55 {ws : List (AV × List Int)} {v : AV} {A : AHeap} (hw : LL A v ws) (h0 : 0 < ws.length) (hl : ws.length ≤ 1000) : ACalls Try.prog 55 [v] A (.sl 1 (A.length + 1) 0 ws.length false) (A ++ [.cells true [], .cells true (ws.flatMap e0)]) := by
  refine acalls hmix Try.func55 (by kernel_rfl) t55 1 rfl (by decide) ?_
  rcases hw.ls.inv with ⟨rfl, rfl⟩ | ⟨n, off, full, rw, l, rfl, h1, h2, h3⟩
  · simp at h0
  · have happ := app_fresh (hw.ls.mono (pre_app A [.cells true []])) (get_new A (.cells true [])) h0 (by simp [lim]; omega)
    rw [List.length_append, List.length_singleton] at happ
    dsimp only [m55]
    simp (maxSteps := 4000000) -implicitDefEqProofs -dsimp (disch := omega) only [↓AW_skip, ↓AW_ops, ↓AW_seq, ↓AW_cond, ↓AW_ret, ↓AOps_nil, ↓AOps_pu, ↓AOps_ha, on_some, extK_app, condB_f, ↓then_normal, ↓Fin_ret, pval, hval_blds, hval_app, rd_S, rd_C, put_S, resV, resL, fillA, repl, List.replicate_succ, List.replicate_zero, List.set_cons_zero, List.set_cons_succ, List.getElem?_cons_zero, List.getElem?_cons_succ, Option.getD_some, map_n, Nat.reduceSub, List.cons_append, List.nil_append, List.replicate_zero, repl, happ]
    exact gc_same_all rfl (by simp)

def sureB (P : Int) (ls : List (List Int)) (i : Int) : Bool := decide (most P (drp ls i) < most P ls)
def sureN (P : Int) (ls : List (List Int)) (n : Nat) : List Int := (nums n).filter (sureB P ls)
theorem sureN_succ (P : Int) (ls : List (List Int)) (n : Nat) : sureN P ls (n + 1) = sureN P ls n ++ if sureB P ls n = true then [(n : Int)] else [] := by
  unfold sureN
  rw [nums_succ, List.filter_append]
  simp only [List.filter_cons, List.filter_nil]
theorem sureN_le (P : Int) (ls : List (List Int)) (n : Nat) : (sureN P ls n).length ≤ n := by
  have := List.length_filter_le (sureB P ls) (nums n)
  simp only [nums, List.length_map, List.length_range] at this
  exact this
def sureL (P : Int) (ls : List (List Int)) : List Int := if vW P ls = 0 then sureN P ls ls.length else []

theorem val_drp {P : Int} {ls : List (List Int)} (h : Val P ls) (i : Int) : Val P (drp ls i) := by
  refine ⟨h.hP, by rw [drp_len]; exact h.n, fun l hl => ?_⟩
  unfold drp at hl
  split at hl
  · rcases List.mem_or_eq_of_mem_set hl with h1 | rfl
    · exact h.l l h1
    · exact ⟨by simp, by simp⟩
  · exact h.l l hl

theorem lists_set (ws : List (AV × List Int)) (i : Nat) : lists (ws.set i (.nilS, [])) = drp (lists ws) i := by
  unfold drp
  rw [if_pos (by omega), Int.toNat_natCast]
  exact List.map_set

theorem s19 {P : Int} {ws : List (AV × List Int)} {v : AV} {A : AHeap} (hw : LL A v ws) (hs : Sz ws) : ACalls Try.prog 19 [.agg [I P, v]] A (.tuple [outV 1 A (sureL P (lists ws)).length, I (vW P (lists ws))]) (outH A ((sureL P (lists ws)).flatMap e1) (sureL P (lists ws)).length) := by
  refine acalls hmix Try.func19 (by kernel_rfl) t19 1 rfl (by decide) ?_
  dsimp only [m19]
  simp (maxSteps := 4000000) -implicitDefEqProofs -dsimp (disch := omega) only [↓AW_ops, ↓AW_seq, ↓AOps_nil, ↓AOps_pu, ↓AOps_call, on_some, ↓then_normal, pval, rd_S, rd_C, put_S, chkd, bgot, cells_agg, partA, eq_self, List.replicate_succ, List.replicate_zero, List.set_cons_zero, List.set_cons_succ, List.getElem?_cons_zero, List.getElem?_cons_succ, List.drop_zero, List.take_succ_cons, List.take_nil, Option.getD_some, map_c, map_n, List.length_cons, List.length_nil, Nat.reduceAdd, Nat.reduceSub, Nat.reduceLeDiff, Nat.reduceEqDiff, Nat.zero_add, List.cons_append, List.nil_append, if_true, if_false]
  refine CallK.of (s39 hw hs) ?_
  by_cases h0 : vW P (lists ws) = 0
  · have hv := val_of h0
    have hn : ws.length ≤ 7 := by simpa using hv.n
    have hL : sureL P (lists ws) = sureN P (lists ws) ws.length := by unfold sureL; rw [if_pos h0, List.length_map]
    rw [hL, h0]
    simp (maxSteps := 4000000) -implicitDefEqProofs -dsimp (disch := omega) only [↓AW_skip, ↓AW_ops, ↓AW_seq, ↓AW_cond, ↓AW_block, ↓AOps_nil, ↓AOps_pu, on_some, extK_same, condB_f, ↓then_normal, pval, rd_S, rd_C, put_S, ↓AW_toLoop, chkd, isAdr, bgot, cells_agg, partA, eq_self, List.replicate_succ, List.replicate_zero, List.set_cons_zero, List.set_cons_succ, List.getElem?_cons_zero, List.getElem?_cons_succ, List.drop_zero, List.drop_succ_cons, List.take_succ_cons, List.take_nil, Option.getD_some, List.length_cons, List.length_nil, Nat.reduceAdd, Nat.reduceSub, Nat.reduceLeDiff, Nat.zero_add, List.cons_append, List.nil_append, bin_neq, if_true, if_false, Bool.false_eq_true, decide_false, not_true_eq_false, hw.ls.len]
    refine LoopK.by 40 (fun x : Nat × AV × AHeap => x.1 ≤ ws.length ∧ AccL 1 e1 A x.2.2 x.2.1 (sureN P (lists ws) x.1)) (fun x => [(1, .agg [I P, v]), (5, x.2.1), (15, I ws.length), (16, I x.1)]) (fun x => x.2.2) (fun x => ws.length - x.1) (0, .nilS, A) ⟨by simp only; omega, AccL.nil (List.prefix_refl _)⟩ rfl (by simp [Has, rd_s]) rfl ?_
    rintro ⟨i, u, A1⟩ ⟨hi, hu⟩
    simp only at hi hu
    by_cases hlt : i < ws.length
    · have hlt' : (i : Int) < ws.length := by omega
      have hw1 := hw.mono hu.pre
      simp (maxSteps := 4000000) -implicitDefEqProofs -dsimp (disch := omega) only [↓AW_skip, ↓AW_ops, ↓AW_seq, ↓AW_cond, ↓AW_block, ↓AOps_nil, ↓AOps_pu, ↓AOps_call, on_some, condB_t, ↓then_normal, pval, rd_S, put_S, chkd, isAdr, bgot, cells_agg, partA, eq_self, mk, List.foldl_cons, List.foldl_nil, List.replicate_succ, List.replicate_zero, List.set_cons_zero, List.set_cons_succ, List.getElem?_cons_zero, List.getElem?_cons_succ, List.drop_zero, List.drop_succ_cons, List.take_zero, List.take_succ_cons, List.take_nil, Option.getD_some, map_c, map_n, List.length_cons, List.length_nil, Nat.reduceAdd, Nat.reduceLeDiff, Nat.zero_add, bin_lss, if_true, if_false, Bool.false_eq_true, decide_true, hlt']
      refine CallK.of (s55 hw1 (by omega) (by omega)) ?_
      have hOL : OL 1 e0 A1 (A1 ++ [.cells true [], .cells true (ws.flatMap e0)]) (A1.length + 1) (.sl 1 (A1.length + 1) 0 ws.length false) ws := ⟨e0_len, pre_app _ _, by omega, by rw [List.getElem?_append_right (by omega), Nat.add_sub_cancel_left]; rfl, false, rfl⟩
      generalize hA2 : A1 ++ [AObj.cells true [], AObj.cells true (ws.flatMap e0)] = A2 at *
      have hst := hOL.st hlt .nilS (.nilS, []) rfl
      have hset := hOL.set i ((.nilS, []) : AV × List Int)
      have hidx := hOL.ls.idx (k := .i64) hlt
      generalize hvv : AV.sl 1 (A1.length + 1) 0 ws.length false = vv at *
      have hcell : vv.cells? = some [vv] := by rw [← hvv]; rfl
      simp (maxSteps := 4000000) -implicitDefEqProofs -dsimp (disch := omega) only [↓AW_ops, ↓AW_seq, ↓AOps_nil, ↓AOps_pu, ↓AOps_ha, ↓AOps_call, on_some, extK_false, ↓then_normal, pval, hval_st, rd_S, rd_C, put_S, putS_none, chkd, isAdr, bput, bgot, cells_agg, cells_int, splice, partA, fillA, eq_self, mk, List.foldl_cons, List.foldl_nil, List.replicate_succ, List.replicate_zero, List.set_cons_zero, List.set_cons_succ, List.getElem?_cons_zero, List.getElem?_cons_succ, List.drop_zero, List.drop_succ_cons, List.drop_nil, List.take_zero, List.take_succ_cons, List.take_nil, Option.getD_some, Option.map_some, map_c, map_n, List.length_cons, List.length_nil, Nat.reduceAdd, Nat.reduceLeDiff, Nat.reduceEqDiff, Nat.zero_add, List.cons_append, List.nil_append, List.append_nil, if_true, if_false, Bool.false_eq_true, and_true, ne_eq, not_true_eq_false, hcell, hidx, hst]
      generalize hA3 : A2.set (A1.length + 1) (.cells true ((ws.set i (.nilS, [])).flatMap e0)) = A3 at *
      have hw3 : LL A3 vv (ws.set i (.nilS, [])) := by
        refine ⟨hset.ls, fun x hx => ?_⟩
        rcases List.mem_or_eq_of_mem_set hx with h | rfl
        · exact ((hw1.mono hset.pre).inn x h)
        · exact L1_nil _
      refine CallK.of (s56 (by rw [lists_set]; exact val_drp hv i) hw3) ?_
      rw [lists_set]
      simp (maxSteps := 4000000) -implicitDefEqProofs -dsimp (disch := omega) only [↓AOps_pu, ↓AOps_call, on_some, extK_same, pval, rd_S, put_S, putS_none, chkd, bgot, partA, eq_self, mk, List.foldl_cons, List.foldl_nil, List.replicate_succ, List.replicate_zero, List.set_cons_zero, List.set_cons_succ, List.getElem?_cons_zero, List.getElem?_cons_succ, List.drop_zero, List.take_succ_cons, List.take_nil, Option.getD_some, map_c, map_n, List.length_cons, List.length_nil, Nat.reduceAdd, Nat.reduceLeDiff, Nat.reduceEqDiff, Nat.zero_add, if_true, if_false]
      refine CallK.of (s56 hv (hw1.mono hset.pre)) ?_
      have hu3 := hu.mono hset.pre
      have hple := sureN_le P (lists ws) i
      by_cases hlt2 : most P (drp (lists ws) i) < most P (lists ws)
      · have hb : sureB P (lists ws) i = true := decide_eq_true hlt2
        have hlt3 : ((most P (drp (lists ws) i) : Nat) : Int) < ((most P (lists ws) : Nat) : Int) := by omega
        obtain ⟨v4, A4, happ, h4⟩ := hu3.push e1_len (i : Int) (by simp [lim]; omega)
        simp only [Go.Eng.e1] at happ
        simp (maxSteps := 4000000) -implicitDefEqProofs -dsimp (disch := omega) only [↓AW_ops, ↓AW_cond, ↓AOps_nil, ↓AOps_pu, ↓AOps_ha, on_some, extK_false, extK_app, extK_same, condB_t, ↓then_normal, ↓inBlock_normal, pval, hval_blds, hval_app, rd_S, rd_C, put_S, putS_none, cells_int, splice, fillA, repl, eq_self, mk, List.foldl_cons, List.foldl_nil, List.replicate_succ, List.replicate_zero, List.set_cons_zero, List.set_cons_succ, List.getElem?_cons_zero, List.getElem?_cons_succ, List.drop_succ_cons, List.drop_nil, List.take_zero, Option.getD_some, map_c, map_n, List.length_cons, List.length_nil, Nat.reduceAdd, Nat.reduceLeDiff, Nat.zero_add, List.nil_append, List.append_nil, bin_add, bin_lss, w64, if_true, decide_true, true_and, and_true, hlt3, happ]
        refine ⟨(i + 1, v4, A4), ⟨hlt, ?_⟩, by simp [Has, rd_s], rfl, by simp only; omega⟩
        simp only
        rw [sureN_succ, if_pos hb]
        exact h4
      · have hb : ¬ sureB P (lists ws) i = true := by unfold sureB; simpa using hlt2
        have hlt3 : ¬ ((most P (drp (lists ws) i) : Nat) : Int) < ((most P (lists ws) : Nat) : Int) := by omega
        simp (maxSteps := 4000000) -implicitDefEqProofs -dsimp (disch := omega) only [↓AW_skip, ↓AW_ops, ↓AW_cond, ↓AOps_nil, ↓AOps_pu, on_some, extK_same, condB_f, ↓then_normal, ↓inBlock_normal, pval, rd_S, rd_C, put_S, putS_none, eq_self, mk, List.foldl_cons, List.foldl_nil, List.replicate_succ, List.replicate_zero, List.set_cons_zero, List.set_cons_succ, List.getElem?_cons_zero, List.getElem?_cons_succ, Option.getD_some, List.length_cons, List.length_nil, Nat.reduceAdd, Nat.zero_add, bin_add, bin_lss, w64, decide_false, true_and, hlt3]
        refine ⟨(i + 1, u, A3), ⟨hlt, ?_⟩, by simp [Has, rd_s], rfl, by simp only; omega⟩
        simp only
        rw [sureN_succ, if_neg hb, List.append_nil]
        exact hu3
    · have hlt' : ¬ ((i : Int) < ws.length) := by omega
      have hii : i = ws.length := by omega
      subst hii
      simp (maxSteps := 4000000) -implicitDefEqProofs -dsimp (disch := omega) only [↓AW_ops, ↓AW_seq, ↓AW_cond, ↓AW_exit, ↓AW_ret, ↓AOps_nil, ↓AOps_pu, on_some, condB_f, ↓then_normal, ↓then_exit, ↓inBlock_exit, ↓Fin_ret, pval, rd_S, rd_C, put_S, resV, resL, eq_self, mk, List.foldl_cons, List.foldl_nil, List.replicate_succ, List.replicate_zero, List.set_cons_zero, List.set_cons_succ, List.getElem?_cons_zero, List.getElem?_cons_succ, Option.getD_some, bin_lss, if_true, decide_false, hlt']
      exact hu.gc2 flat_e1 (I 0) rfl
  · have hL : sureL P (lists ws) = [] := by unfold sureL; rw [if_neg h0]
    rw [hL]
    simp (maxSteps := 4000000) -implicitDefEqProofs -dsimp (disch := omega) only [↓AW_ops, ↓AW_seq, ↓AW_cond, ↓AW_ret, ↓AOps_nil, ↓AOps_pu, on_some, extK_same, condB_t, ↓then_normal, ↓then_ret, ↓Fin_ret, pval, rd_S, rd_C, put_S, resV, resL, List.replicate_succ, List.replicate_zero, List.set_cons_zero, List.set_cons_succ, List.getElem?_cons_zero, List.getElem?_cons_succ, Option.getD_some, List.length_nil, Nat.reduceSub, List.cons_append, List.nil_append, bin_neq, decide_true, not_false_eq_true, h0]
    exact gc_same_all rfl rfl

theorem s20 {P : Int} {ws : List (AV × List Int)} {v : AV} {A : AHeap} (hw : LL A v ws) (hs : Sz ws) : ACalls Try.prog 20 [.agg [I P, v]] A (.tuple [outV 1 A (sureL P (lists ws)).length, I (vW P (lists ws))]) (outH A ((sureL P (lists ws)).flatMap e1) (sureL P (lists ws)).length) := by
  refine acalls hmix Try.func20 (by kernel_rfl) t20 1 rfl (by decide) ?_
  dsimp only [m20]
  simp (maxSteps := 4000000) -implicitDefEqProofs -dsimp (disch := omega) only [↓AW_ops, ↓AW_seq, ↓AOps_nil, ↓AOps_pu, ↓AOps_call, on_some, ↓then_normal, pval, rd_S, rd_C, put_S, chkd, bgot, cells_agg, partA, eq_self, List.replicate_succ, List.replicate_zero, List.set_cons_zero, List.set_cons_succ, List.getElem?_cons_zero, List.getElem?_cons_succ, List.drop_zero, List.take_succ_cons, List.take_nil, Option.getD_some, map_c, map_n, List.length_cons, List.length_nil, Nat.reduceAdd, Nat.reduceSub, Nat.reduceLeDiff, Nat.reduceEqDiff, Nat.zero_add, List.cons_append, List.nil_append, if_true, if_false]
  refine CallK.of (s40 hw hs) ?_
  by_cases h0 : vW P (lists ws) = 0
  · have hv := val_of h0
    have hP := hv.hP
    have hls : ∀ l ∈ lists ws, ∀ p ∈ l, inP P p := fun l hl => (hv.l l hl).1
    have hn : ws.length ≤ 7 := by simpa using hv.n
    have hpow : 2 ^ P.toNat ≤ 128 := by
      have : 2 ^ P.toNat ≤ 2 ^ 7 := Nat.pow_le_pow_right (by omega) (by omega)
      omega
    have hL : sureL P (lists ws) = sureN P (lists ws) ws.length := by unfold sureL; rw [if_pos h0, List.length_map]
    rw [hL, h0]
    have key : ∀ (B : AHeap) (wo : Int), Lb (B ++ [.cells true ((tb (2 ^ P.toNat) (cF (lists ws) wo ws.length)).flatMap eb)]) (.sl 1 B.length 0 (2 ^ P.toNat) false) (tb (2 ^ P.toNat) (cF (lists ws) wo ws.length)) := fun B wo => by
      have := (OL.new_mk eb_len B (tb (2 ^ P.toNat) (cF (lists ws) wo ws.length)) false).ls
      rwa [tb_len] at this
    have hmb : ∀ wo, mb (cF (lists ws) wo ws.length) (2 ^ P.toNat) = most P (drp (lists ws) wo) := fun wo => by
      have := mb_most (by omega) hls wo
      rwa [List.length_map] at this
    simp (maxSteps := 4000000) -implicitDefEqProofs -dsimp (disch := omega) only [↓AW_skip, ↓AW_ops, ↓AW_seq, ↓AW_cond, ↓AW_block, ↓AOps_nil, ↓AOps_pu, on_some, extK_same, condB_f, ↓then_normal, pval, rd_S, rd_C, put_S, ↓AW_toLoop, eq_self, List.replicate_succ, List.replicate_zero, List.set_cons_zero, List.set_cons_succ, List.getElem?_cons_zero, List.getElem?_cons_succ, Option.getD_some, Nat.reduceSub, List.cons_append, List.nil_append, bin_neq, decide_false, not_true_eq_false]
    refine LoopK.by 32 (fun x : Nat × AV × AHeap => x.1 ≤ ws.length ∧ AccL 1 e1 A x.2.2 x.2.1 (sureN P (lists ws) x.1)) (fun x => [(1, .agg [I P, v]), (5, x.2.1), (6, I x.1)]) (fun x => x.2.2) (fun x => ws.length - x.1) (0, .nilS, A) ⟨by simp only; omega, AccL.nil (List.prefix_refl _)⟩ rfl (by simp [Has, rd_s]) rfl ?_
    rintro ⟨i, u, A1⟩ ⟨hi, hu⟩
    simp only at hi hu
    have hw1 := hw.mono hu.pre
    by_cases hlt : i < ws.length
    · have hlt' : (i : Int) < ws.length := by omega
      simp (maxSteps := 4000000) -implicitDefEqProofs -dsimp (disch := omega) only [↓AW_skip, ↓AW_ops, ↓AW_seq, ↓AW_cond, ↓AW_block, ↓AOps_nil, ↓AOps_pu, ↓AOps_call, on_some, condB_t, ↓then_normal, pval, rd_S, put_S, chkd, isAdr, bgot, cells_agg, partA, eq_self, mk, List.foldl_cons, List.foldl_nil, List.replicate_succ, List.replicate_zero, List.set_cons_zero, List.set_cons_succ, List.getElem?_cons_zero, List.getElem?_cons_succ, List.drop_zero, List.drop_succ_cons, List.take_succ_cons, List.take_nil, Option.getD_some, map_c, map_n, List.length_cons, List.length_nil, Nat.reduceAdd, Nat.reduceLeDiff, Nat.reduceEqDiff, Nat.zero_add, bin_lss, if_true, if_false, Bool.false_eq_true, decide_true, hlt', hw1.ls.len]
      refine CallK.of (s58 hv hw1 i) ?_
      have k1 := key A1 i
      have p1 := pre_app A1 [.cells true ((tb (2 ^ P.toNat) (cF (lists ws) i ws.length)).flatMap eb)]
      generalize A1 ++ [AObj.cells true ((tb (2 ^ P.toNat) (cF (lists ws) i ws.length)).flatMap eb)] = A2 at *
      simp (maxSteps := 4000000) -implicitDefEqProofs -dsimp (disch := omega) only [↓AOps_call, rd_S, put_S, mk, List.foldl_cons, List.foldl_nil, List.replicate_succ, List.replicate_zero, List.set_cons_zero, List.set_cons_succ, List.getElem?_cons_zero, List.getElem?_cons_succ, Option.getD_some, map_c, map_n, extK_of p1]
      refine CallK.of (s57 k1 (by omega)) ?_
      rw [hmb]
      simp (maxSteps := 4000000) -implicitDefEqProofs -dsimp (disch := omega) only [↓AOps_pu, ↓AOps_call, on_some, extK_same, pval, rd_S, rd_C, put_S, chkd, bgot, partA, eq_self, mk, List.foldl_cons, List.foldl_nil, List.replicate_succ, List.replicate_zero, List.set_cons_zero, List.set_cons_succ, List.getElem?_cons_zero, List.getElem?_cons_succ, List.drop_zero, List.take_succ_cons, List.take_nil, Option.getD_some, map_c, map_n, List.length_cons, List.length_nil, Nat.reduceAdd, Nat.reduceLeDiff, Nat.reduceEqDiff, Nat.zero_add, if_true, if_false, Int.reduceNeg]
      refine CallK.of (s58 hv (hw1.mono p1) (-1)) ?_
      have k2 := key A2 (-1)
      have p2 := p1.trans (pre_app A2 [.cells true ((tb (2 ^ P.toNat) (cF (lists ws) (-1) ws.length)).flatMap eb)])
      have p3 := pre_app A2 [.cells true ((tb (2 ^ P.toNat) (cF (lists ws) (-1) ws.length)).flatMap eb)]
      generalize A2 ++ [AObj.cells true ((tb (2 ^ P.toNat) (cF (lists ws) (-1) ws.length)).flatMap eb)] = A3 at *
      simp (maxSteps := 4000000) -implicitDefEqProofs -dsimp (disch := omega) only [↓AOps_call, rd_S, put_S, mk, List.foldl_cons, List.foldl_nil, List.replicate_succ, List.replicate_zero, List.set_cons_zero, List.set_cons_succ, List.getElem?_cons_zero, List.getElem?_cons_succ, Option.getD_some, map_c, map_n, extK_of p3]
      refine CallK.of (s57 k2 (by omega)) ?_
      rw [hmb, drp_none]
      have hu3 := hu.mono p2
      have hple := sureN_le P (lists ws) i
      by_cases hlt2 : most P (drp (lists ws) i) < most P (lists ws)
      · have hb : sureB P (lists ws) i = true := decide_eq_true hlt2
        have hlt3 : ((most P (drp (lists ws) i) : Nat) : Int) < ((most P (lists ws) : Nat) : Int) := by omega
        obtain ⟨v4, A4, happ, h4⟩ := hu3.push e1_len (i : Int) (by simp [lim]; omega)
        simp only [Go.Eng.e1] at happ
        simp (maxSteps := 4000000) -implicitDefEqProofs -dsimp (disch := omega) only [↓AW_ops, ↓AW_cond, ↓AOps_nil, ↓AOps_pu, ↓AOps_ha, on_some, extK_false, extK_app, extK_same, condB_t, ↓then_normal, ↓inBlock_normal, pval, hval_blds, hval_app, rd_S, rd_C, put_S, cells_int, splice, fillA, repl, eq_self, mk, List.foldl_cons, List.foldl_nil, List.replicate_succ, List.replicate_zero, List.set_cons_zero, List.set_cons_succ, List.getElem?_cons_zero, List.getElem?_cons_succ, List.drop_succ_cons, List.drop_nil, List.take_zero, Option.getD_some, map_c, map_n, List.length_cons, List.length_nil, Nat.reduceAdd, Nat.reduceLeDiff, Nat.zero_add, List.nil_append, List.append_nil, bin_add, bin_lss, w64, if_true, decide_true, true_and, and_true, hlt3, happ]
        refine ⟨(i + 1, v4, A4), ⟨hlt, ?_⟩, by simp [Has, rd_s], rfl, by simp only; omega⟩
        simp only
        rw [sureN_succ, if_pos hb]
        exact h4
      · have hb : ¬ sureB P (lists ws) i = true := by unfold sureB; simpa using hlt2
        have hlt3 : ¬ ((most P (drp (lists ws) i) : Nat) : Int) < ((most P (lists ws) : Nat) : Int) := by omega
        simp (maxSteps := 4000000) -implicitDefEqProofs -dsimp (disch := omega) only [↓AW_skip, ↓AW_ops, ↓AW_cond, ↓AOps_nil, ↓AOps_pu, on_some, extK_same, condB_f, ↓then_normal, ↓inBlock_normal, pval, rd_S, rd_C, put_S, eq_self, mk, List.foldl_cons, List.foldl_nil, List.replicate_succ, List.replicate_zero, List.set_cons_zero, List.set_cons_succ, List.getElem?_cons_zero, List.getElem?_cons_succ, Option.getD_some, List.length_cons, List.length_nil, Nat.reduceAdd, Nat.zero_add, bin_add, bin_lss, w64, decide_false, true_and, hlt3]
        refine ⟨(i + 1, u, A3), ⟨hlt, ?_⟩, by simp [Has, rd_s], rfl, by simp only; omega⟩
        simp only
        rw [sureN_succ, if_neg hb, List.append_nil]
        exact hu3
    · have hlt' : ¬ ((i : Int) < ws.length) := by omega
      have hii : i = ws.length := by omega
      subst hii
      simp (maxSteps := 4000000) -implicitDefEqProofs -dsimp (disch := omega) only [↓AW_ops, ↓AW_seq, ↓AW_cond, ↓AW_exit, ↓AW_ret, ↓AOps_nil, ↓AOps_pu, on_some, condB_f, ↓then_normal, ↓then_exit, ↓inBlock_exit, ↓Fin_ret, pval, rd_S, rd_C, put_S, resV, resL, chkd, isAdr, bgot, cells_agg, partA, eq_self, mk, List.foldl_cons, List.foldl_nil, List.replicate_succ, List.replicate_zero, List.set_cons_zero, List.set_cons_succ, List.getElem?_cons_zero, List.getElem?_cons_succ, List.drop_zero, List.drop_succ_cons, List.take_succ_cons, List.take_nil, Option.getD_some, List.length_cons, List.length_nil, Nat.reduceAdd, Nat.reduceLeDiff, Nat.zero_add, bin_lss, if_true, if_false, Bool.false_eq_true, decide_false, hlt', hw1.ls.len]
      exact hu.gc2 flat_e1 (I 0) rfl
  · have hL : sureL P (lists ws) = [] := by unfold sureL; rw [if_neg h0]
    rw [hL]
    simp (maxSteps := 4000000) -implicitDefEqProofs -dsimp (disch := omega) only [↓AW_ops, ↓AW_seq, ↓AW_cond, ↓AW_ret, ↓AOps_nil, ↓AOps_pu, on_some, extK_same, condB_t, ↓then_normal, ↓then_ret, ↓Fin_ret, pval, rd_S, rd_C, put_S, resV, resL, List.replicate_succ, List.replicate_zero, List.set_cons_zero, List.set_cons_succ, List.getElem?_cons_zero, List.getElem?_cons_succ, Option.getD_some, List.length_nil, Nat.reduceSub, List.cons_append, List.nil_append, bin_neq, decide_true, not_false_eq_true, h0]
    exact gc_same_all rfl rfl

end Go.Proofs.Ytlmbobbefgcolaa
