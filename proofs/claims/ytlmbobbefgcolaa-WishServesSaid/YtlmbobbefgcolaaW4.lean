/- Wishes: sets that are asked for, and covers. No conditions. -/
import Derived.Test.YtlmbobbefgcolaaW3
import Derived.Test.YtlmbobbefgcolaaS2
namespace Go.Proofs.Ytlmbobbefgcolaa
open Go Go.Eng

/-- The error of wishes and a set of owners. -/
def chE (P : Int) (ls : List (List Int)) (os : List Int) : Int := if vW P ls = 0 then (if isS ls.length os then 0 else 1) else vW P ls
theorem chE_0 {P : Int} {ls : List (List Int)} {os : List Int} : chE P ls os = 0 ↔ vW P ls = 0 ∧ isS ls.length os := by
  unfold chE
  split
  · rename_i h; split <;> simp [*]
  · rename_i h; simp [h]

theorem s74 {P : Int} {ws : List (AV × List Int)} {v : AV} {os : List Int} {u : AV} {A : AHeap} (hw : LL A v ws) (hs : Sz ws) (ho : L1 A u os) (hol : os.length ≤ 1000000) : ACalls Try.prog 74 [.agg [I P, v], u] A (I (chE P (lists ws) os)) A := by
  refine acalls hmix Try.func74 (by kernel_rfl) t74 2 rfl (by decide) ?_
  dsimp only [m74]
  simp (maxSteps := 4000000) -implicitDefEqProofs -dsimp (disch := omega) only [↓AW_ops, ↓AW_seq, ↓AOps_nil, ↓AOps_pu, ↓AOps_call, on_some, ↓then_normal, pval, rd_S, rd_C, put_S, chkd, bgot, AV.cells?, partA, eq_self, List.replicate_succ, List.replicate_zero, List.set_cons_zero, List.set_cons_succ, List.getElem?_cons_zero, List.getElem?_cons_succ, List.drop_zero, List.take_succ_cons, List.take_nil, Option.getD_some, map_c, map_n, List.length_cons, List.length_nil, Nat.reduceAdd, Nat.reduceSub, Nat.reduceLeDiff, Nat.reduceEqDiff, Nat.zero_add, List.cons_append, List.nil_append, if_true, if_false]
  refine CallK.of (s39 hw hs) ?_
  by_cases h0 : vW P (lists ws) = 0
  · simp (maxSteps := 4000000) -implicitDefEqProofs -dsimp (disch := omega) only [↓AW_skip, ↓AW_ops, ↓AW_seq, ↓AW_cond, ↓AOps_nil, ↓AOps_pu, ↓AOps_call, on_some, extK_same, condB_f, ↓then_normal, pval, rd_S, rd_C, put_S, chkd, isAdr, bgot, AV.cells?, partA, eq_self, List.replicate_succ, List.replicate_zero, List.set_cons_zero, List.set_cons_succ, List.getElem?_cons_zero, List.getElem?_cons_succ, List.drop_zero, List.drop_succ_cons, List.take_succ_cons, List.take_nil, Option.getD_some, map_c, map_n, List.length_cons, List.length_nil, Nat.reduceAdd, Nat.reduceSub, Nat.reduceLeDiff, Nat.zero_add, List.cons_append, List.nil_append, bin_neq, if_true, if_false, Bool.false_eq_true, decide_false, not_true_eq_false, h0, hw.ls.len]
    refine CallK.of (s78 ho hol _) ?_
    by_cases h1 : isS ws.length os
    · simp (maxSteps := 4000000) -implicitDefEqProofs -dsimp (disch := omega) only [↓AW_skip, ↓AW_ops, ↓AW_seq, ↓AW_cond, ↓AW_ret, ↓AOps_nil, ↓AOps_pu, on_some, extK_same, condB_f, ↓then_normal, ↓Fin_ret, pval, rd_S, rd_C, put_S, resV, resL, List.replicate_succ, List.replicate_zero, List.set_cons_zero, List.set_cons_succ, List.getElem?_cons_zero, List.getElem?_cons_succ, Option.getD_some, Nat.reduceSub, List.cons_append, List.nil_append, Bool.not_true, decide_true, h1]
      exact gc_same (by simp [chE, h0, h1])
    · simp (maxSteps := 4000000) -implicitDefEqProofs -dsimp (disch := omega) only [↓AW_ops, ↓AW_seq, ↓AW_cond, ↓AW_ret, ↓AOps_nil, ↓AOps_pu, on_some, extK_same, condB_t, ↓then_normal, ↓then_ret, ↓Fin_ret, pval, rd_S, rd_C, put_S, resV, resL, List.replicate_succ, List.replicate_zero, List.set_cons_zero, List.set_cons_succ, List.getElem?_cons_zero, List.getElem?_cons_succ, Option.getD_some, Nat.reduceSub, List.cons_append, List.nil_append, Bool.not_false, decide_false, h1]
      exact gc_same (by simp [chE, h0, h1])
  · simp (maxSteps := 4000000) -implicitDefEqProofs -dsimp (disch := omega) only [↓AW_ops, ↓AW_seq, ↓AW_cond, ↓AW_ret, ↓AOps_nil, ↓AOps_pu, on_some, extK_same, condB_t, ↓then_normal, ↓then_ret, ↓Fin_ret, pval, rd_S, rd_C, put_S, resV, resL, List.replicate_succ, List.replicate_zero, List.set_cons_zero, List.set_cons_succ, List.getElem?_cons_zero, List.getElem?_cons_succ, Option.getD_some, Nat.reduceSub, List.cons_append, List.nil_append, bin_neq, decide_true, not_false_eq_true, h0]
    exact gc_same (by simp [chE, h0])

theorem vW_P7 {P : Int} {ls : List (List Int)} (h : vW P ls = 0) : 1 ≤ P ∧ P ≤ 7 := by
  rcases Decidable.em (1 ≤ P ∧ P ≤ 7) with h1 | h1
  · exact h1
  · rw [vW_P h1] at h; cases h

/-- What is wished, if it may be asked. -/
def wishL (P : Int) (ls : List (List Int)) (os : List Int) : List Int := if chE P ls os = 0 then wsh ls os P.toNat else []

theorem s42 {P : Int} {ws : List (AV × List Int)} {v : AV} {os : List Int} {u : AV} {A : AHeap} (hw : LL A v ws) (hs : Sz ws) (ho : L1 A u os) (hol : os.length ≤ 1000000) :
    ACalls Try.prog 42 [.agg [I P, v], u] A (.tuple [outV 1 A (wishL P (lists ws) os).length, I (chE P (lists ws) os)]) (outH A ((wishL P (lists ws) os).flatMap e1) (wishL P (lists ws) os).length) := by
  refine acalls hmix Try.func42 (by kernel_rfl) t42 2 rfl (by decide) ?_
  dsimp only [m42]
  simp (maxSteps := 4000000) -implicitDefEqProofs -dsimp (disch := omega) only [↓AW_ops, ↓AW_seq, ↓AOps_nil, ↓AOps_pu, ↓AOps_call, on_some, ↓then_normal, pval, rd_S, rd_C, put_S, chkd, bgot, AV.cells?, partA, eq_self, List.replicate_succ, List.replicate_zero, List.set_cons_zero, List.set_cons_succ, List.getElem?_cons_zero, List.getElem?_cons_succ, List.drop_zero, List.take_succ_cons, List.take_nil, Option.getD_some, map_c, map_n, List.length_cons, List.length_nil, Nat.reduceAdd, Nat.reduceSub, Nat.reduceLeDiff, Nat.reduceEqDiff, Nat.zero_add, List.cons_append, List.nil_append, if_true, if_false]
  refine CallK.of (s74 hw hs ho hol) ?_
  by_cases h0 : chE P (lists ws) os = 0
  · have h1 := chE_0.1 h0
    have hP := vW_P7 h1.1
    have he : wishL P (lists ws) os = wsh (lists ws) os P.toNat := by unfold wishL; rw [if_pos h0]
    rw [he]
    simp (maxSteps := 4000000) -implicitDefEqProofs -dsimp (disch := omega) only [↓AW_skip, ↓AW_ops, ↓AW_seq, ↓AW_cond, ↓AOps_nil, ↓AOps_pu, ↓AOps_call, on_some, extK_same, condB_f, ↓then_normal, pval, rd_S, rd_C, put_S, chkd, bgot, partA, eq_self, List.replicate_succ, List.replicate_zero, List.set_cons_zero, List.set_cons_succ, List.getElem?_cons_zero, List.getElem?_cons_succ, List.drop_zero, List.take_succ_cons, List.take_nil, Option.getD_some, map_c, map_n, List.length_cons, List.length_nil, Nat.reduceAdd, Nat.reduceSub, Nat.reduceLeDiff, Nat.reduceEqDiff, Nat.zero_add, List.cons_append, List.nil_append, bin_neq, if_true, if_false, decide_false, not_true_eq_false, h0]
    refine CallK.of (s75 hw hs ho hol (fun i hi => by simpa using h1.2.1 i hi) (by omega)) ?_
    simp (maxSteps := 4000000) -implicitDefEqProofs -dsimp (disch := omega) only [↓AW_ret, ↓AOps_nil, ↓AOps_pu, on_some, extK_false, ↓then_normal, ↓Fin_ret, pval, rd_S, rd_C, put_S, resV, resL, List.replicate_succ, List.replicate_zero, List.set_cons_zero, List.set_cons_succ, List.getElem?_cons_zero, List.getElem?_cons_succ, Option.getD_some, Nat.reduceSub, List.cons_append, List.nil_append]
    exact gc_same_all (by rw [h0]) rfl
  · have he : wishL P (lists ws) os = [] := by unfold wishL; rw [if_neg h0]
    rw [he]
    simp (maxSteps := 4000000) -implicitDefEqProofs -dsimp (disch := omega) only [↓AW_ops, ↓AW_seq, ↓AW_cond, ↓AW_ret, ↓AOps_nil, ↓AOps_pu, on_some, extK_same, condB_t, ↓then_normal, ↓then_ret, ↓Fin_ret, pval, rd_S, rd_C, put_S, resV, resL, List.replicate_succ, List.replicate_zero, List.set_cons_zero, List.set_cons_succ, List.getElem?_cons_zero, List.getElem?_cons_succ, Option.getD_some, List.length_nil, Nat.reduceSub, List.cons_append, List.nil_append, bin_neq, decide_true, not_false_eq_true, h0]
    exact gc_same rfl

theorem s43 {P : Int} {ws : List (AV × List Int)} {v : AV} {os : List Int} {u : AV} {A : AHeap} (hw : LL A v ws) (hs : Sz ws) (ho : L1 A u os) (hol : os.length ≤ 1000000) :
    ACalls Try.prog 43 [.agg [I P, v], u] A (.tuple [outV 1 A (wishL P (lists ws) os).length, I (chE P (lists ws) os)]) (outH A ((wishL P (lists ws) os).flatMap e1) (wishL P (lists ws) os).length) := by
  refine acalls hmix Try.func43 (by kernel_rfl) t43 2 rfl (by decide) ?_
  dsimp only [m43]
  simp (maxSteps := 4000000) -implicitDefEqProofs -dsimp (disch := omega) only [↓AW_ops, ↓AW_seq, ↓AOps_nil, ↓AOps_pu, ↓AOps_call, on_some, ↓then_normal, pval, rd_S, rd_C, put_S, chkd, bgot, AV.cells?, partA, eq_self, List.replicate_succ, List.replicate_zero, List.set_cons_zero, List.set_cons_succ, List.getElem?_cons_zero, List.getElem?_cons_succ, List.drop_zero, List.take_succ_cons, List.take_nil, Option.getD_some, map_c, map_n, List.length_cons, List.length_nil, Nat.reduceAdd, Nat.reduceSub, Nat.reduceLeDiff, Nat.reduceEqDiff, Nat.zero_add, List.cons_append, List.nil_append, if_true, if_false]
  refine CallK.of (s40 hw hs) ?_
  by_cases h0 : vW P (lists ws) = 0
  · simp (maxSteps := 4000000) -implicitDefEqProofs -dsimp (disch := omega) only [↓AW_skip, ↓AW_ops, ↓AW_seq, ↓AW_cond, ↓AOps_nil, ↓AOps_pu, ↓AOps_call, on_some, extK_same, condB_f, ↓then_normal, pval, rd_S, rd_C, put_S, chkd, isAdr, bgot, AV.cells?, partA, eq_self, List.replicate_succ, List.replicate_zero, List.set_cons_zero, List.set_cons_succ, List.getElem?_cons_zero, List.getElem?_cons_succ, List.drop_zero, List.drop_succ_cons, List.take_succ_cons, List.take_nil, Option.getD_some, map_c, map_n, List.length_cons, List.length_nil, Nat.reduceAdd, Nat.reduceSub, Nat.reduceLeDiff, Nat.zero_add, List.cons_append, List.nil_append, bin_neq, if_true, if_false, Bool.false_eq_true, decide_false, not_true_eq_false, h0, hw.ls.len]
    refine CallK.of (s76 ho hol _ (by have := hs.1; omega)) ?_
    by_cases h1 : isS ws.length os
    · have hP := vW_P7 h0
      have hc : chE P (lists ws) os = 0 := chE_0.2 ⟨h0, by simpa using h1⟩
      have he : wishL P (lists ws) os = wsh (lists ws) os P.toNat := by unfold wishL; rw [if_pos hc]
      rw [he, hc]
      simp (maxSteps := 4000000) -implicitDefEqProofs -dsimp (disch := omega) only [↓AW_skip, ↓AW_ops, ↓AW_seq, ↓AW_cond, ↓AOps_nil, ↓AOps_pu, ↓AOps_call, on_some, extK_same, condB_f, ↓then_normal, pval, rd_S, put_S, chkd, bgot, partA, eq_self, List.replicate_succ, List.replicate_zero, List.set_cons_zero, List.set_cons_succ, List.getElem?_cons_zero, List.getElem?_cons_succ, List.drop_zero, List.take_succ_cons, List.take_nil, Option.getD_some, map_c, map_n, List.length_cons, List.length_nil, Nat.reduceAdd, Nat.reduceSub, Nat.reduceLeDiff, Nat.reduceEqDiff, Nat.zero_add, List.cons_append, List.nil_append, if_true, if_false, Bool.not_true, decide_true, h1]
      refine CallK.of (s77 hw hs ho hol h1.1 (by omega)) ?_
      simp (maxSteps := 4000000) -implicitDefEqProofs -dsimp (disch := omega) only [↓AW_ret, ↓AOps_nil, ↓AOps_pu, on_some, extK_false, ↓then_normal, ↓Fin_ret, pval, rd_S, rd_C, put_S, resV, resL, List.replicate_succ, List.replicate_zero, List.set_cons_zero, List.set_cons_succ, List.getElem?_cons_zero, List.getElem?_cons_succ, Option.getD_some, Nat.reduceSub, List.cons_append, List.nil_append]
      exact gc_same_all rfl rfl
    · have hc : chE P (lists ws) os = 1 := by simp [chE, h0, h1]
      have he : wishL P (lists ws) os = [] := by unfold wishL; rw [if_neg (by omega)]
      rw [he, hc]
      simp (maxSteps := 4000000) -implicitDefEqProofs -dsimp (disch := omega) only [↓AW_ops, ↓AW_seq, ↓AW_cond, ↓AW_ret, ↓AOps_nil, ↓AOps_pu, on_some, extK_same, condB_t, ↓then_normal, ↓then_ret, ↓Fin_ret, pval, rd_S, rd_C, put_S, resV, resL, List.replicate_succ, List.replicate_zero, List.set_cons_zero, List.set_cons_succ, List.getElem?_cons_zero, List.getElem?_cons_succ, Option.getD_some, List.length_nil, Nat.reduceSub, List.cons_append, List.nil_append, Bool.not_false, decide_false, h1]
      exact gc_same rfl
  · have hc : chE P (lists ws) os = vW P (lists ws) := by unfold chE; rw [if_neg h0]
    have he : wishL P (lists ws) os = [] := by unfold wishL; rw [hc, if_neg h0]
    rw [he, hc]
    simp (maxSteps := 4000000) -implicitDefEqProofs -dsimp (disch := omega) only [↓AW_ops, ↓AW_seq, ↓AW_cond, ↓AW_ret, ↓AOps_nil, ↓AOps_pu, on_some, extK_same, condB_t, ↓then_normal, ↓then_ret, ↓Fin_ret, pval, rd_S, rd_C, put_S, resV, resL, List.replicate_succ, List.replicate_zero, List.set_cons_zero, List.set_cons_succ, List.getElem?_cons_zero, List.getElem?_cons_succ, Option.getD_some, List.length_nil, Nat.reduceSub, List.cons_append, List.nil_append, bin_neq, decide_true, not_false_eq_true, h0]
    exact gc_same rfl

def lackN (P : Int) (ls : List (List Int)) (os : List Int) : Int := if chE P ls os = 0 then os.length - (wsh ls os P.toNat).length else 0

theorem s44 {P : Int} {ws : List (AV × List Int)} {v : AV} {os : List Int} {u : AV} {A : AHeap} (hw : LL A v ws) (hs : Sz ws) (ho : L1 A u os) (hol : os.length ≤ 1000000) :
    ACalls Try.prog 44 [.agg [I P, v], u] A (.tuple [I (lackN P (lists ws) os), I (chE P (lists ws) os)]) A := by
  refine acalls hmix Try.func44 (by kernel_rfl) t44 2 rfl (by decide) ?_
  dsimp only [m44]
  simp (maxSteps := 4000000) -implicitDefEqProofs -dsimp (disch := omega) only [↓AW_ops, ↓AW_seq, ↓AOps_nil, ↓AOps_pu, ↓AOps_call, on_some, ↓then_normal, pval, rd_S, rd_C, put_S, chkd, bgot, AV.cells?, partA, eq_self, List.replicate_succ, List.replicate_zero, List.set_cons_zero, List.set_cons_succ, List.getElem?_cons_zero, List.getElem?_cons_succ, List.drop_zero, List.take_succ_cons, List.take_nil, Option.getD_some, map_c, map_n, List.length_cons, List.length_nil, Nat.reduceAdd, Nat.reduceSub, Nat.reduceLeDiff, Nat.reduceEqDiff, Nat.zero_add, List.cons_append, List.nil_append, if_true, if_false]
  refine CallK.of (s74 hw hs ho hol) ?_
  by_cases h0 : chE P (lists ws) os = 0
  · have h1 := chE_0.1 h0
    have hP := vW_P7 h1.1
    have hwl := wsh_le (lists ws) os P.toNat
    simp (maxSteps := 4000000) -implicitDefEqProofs -dsimp (disch := omega) only [↓AW_skip, ↓AW_ops, ↓AW_seq, ↓AW_cond, ↓AOps_nil, ↓AOps_pu, ↓AOps_call, on_some, extK_same, condB_f, ↓then_normal, pval, rd_S, rd_C, put_S, chkd, bgot, partA, eq_self, List.replicate_succ, List.replicate_zero, List.set_cons_zero, List.set_cons_succ, List.getElem?_cons_zero, List.getElem?_cons_succ, List.drop_zero, List.take_succ_cons, List.take_nil, Option.getD_some, map_c, map_n, List.length_cons, List.length_nil, Nat.reduceAdd, Nat.reduceSub, Nat.reduceLeDiff, Nat.reduceEqDiff, Nat.zero_add, List.cons_append, List.nil_append, bin_neq, if_true, if_false, decide_false, not_true_eq_false, h0, ho.len]
    refine CallK.of (s75 hw hs ho hol (fun i hi => by simpa using h1.2.1 i hi) (by omega)) ?_
    simp (maxSteps := 4000000) -implicitDefEqProofs -dsimp (disch := omega) only [↓AW_ret, ↓AOps_nil, ↓AOps_pu, on_some, extK_false, ↓then_normal, ↓Fin_ret, pval, rd_S, rd_C, put_S, resV, resL, List.replicate_succ, List.replicate_zero, List.set_cons_zero, List.set_cons_succ, List.getElem?_cons_zero, List.getElem?_cons_succ, Option.getD_some, Nat.reduceSub, List.cons_append, List.nil_append, bin_sub, w64, (Ls_out A e1_len (wsh (lists ws) os P.toNat)).len]
    exact gc_val (pre_out _ _ _) (by simp [lackN, h0, ren])
  · simp (maxSteps := 4000000) -implicitDefEqProofs -dsimp (disch := omega) only [↓AW_ops, ↓AW_seq, ↓AW_cond, ↓AW_ret, ↓AOps_nil, ↓AOps_pu, on_some, extK_same, condB_t, ↓then_normal, ↓then_ret, ↓Fin_ret, pval, rd_S, rd_C, put_S, resV, resL, List.replicate_succ, List.replicate_zero, List.set_cons_zero, List.set_cons_succ, List.getElem?_cons_zero, List.getElem?_cons_succ, Option.getD_some, Nat.reduceSub, List.cons_append, List.nil_append, bin_neq, decide_true, not_false_eq_true, h0]
    exact gc_same (by simp [lackN, h0])

theorem s45 {P : Int} {ws : List (AV × List Int)} {v : AV} {os : List Int} {u : AV} {A : AHeap} (hw : LL A v ws) (hs : Sz ws) (ho : L1 A u os) (hol : os.length ≤ 1000000) :
    ACalls Try.prog 45 [.agg [I P, v], u] A (.tuple [I (lackN P (lists ws) os), I (chE P (lists ws) os)]) A := by
  refine acalls hmix Try.func45 (by kernel_rfl) t45 2 rfl (by decide) ?_
  dsimp only [m45]
  simp (maxSteps := 4000000) -implicitDefEqProofs -dsimp (disch := omega) only [↓AW_ops, ↓AW_seq, ↓AOps_nil, ↓AOps_pu, ↓AOps_call, on_some, ↓then_normal, pval, rd_S, rd_C, put_S, chkd, bgot, AV.cells?, partA, eq_self, List.replicate_succ, List.replicate_zero, List.set_cons_zero, List.set_cons_succ, List.getElem?_cons_zero, List.getElem?_cons_succ, List.drop_zero, List.take_succ_cons, List.take_nil, Option.getD_some, map_c, map_n, List.length_cons, List.length_nil, Nat.reduceAdd, Nat.reduceSub, Nat.reduceLeDiff, Nat.reduceEqDiff, Nat.zero_add, List.cons_append, List.nil_append, if_true, if_false]
  refine CallK.of (s43 hw hs ho hol) ?_
  have hL := Ls_out A e1_len (wishL P (lists ws) os)
  have hpre := pre_out A ((wishL P (lists ws) os).flatMap e1) (wishL P (lists ws) os).length
  by_cases h0 : chE P (lists ws) os = 0
  · have h1 := chE_0.1 h0
    have hP := vW_P7 h1.1
    have he : wishL P (lists ws) os = wsh (lists ws) os P.toNat := by unfold wishL; rw [if_pos h0]
    have hwl := wsh_le (lists ws) os P.toNat
    rw [he] at hL hpre ⊢
    simp (maxSteps := 4000000) -implicitDefEqProofs -dsimp (disch := omega) only [↓AW_skip, ↓AW_ops, ↓AW_seq, ↓AW_cond, ↓AW_ret, ↓AOps_nil, ↓AOps_pu, on_some, extK_false, condB_f, ↓then_normal, ↓Fin_ret, pval, rd_S, rd_C, put_S, resV, resL, eq_self, List.replicate_succ, List.replicate_zero, List.set_cons_zero, List.set_cons_succ, List.getElem?_cons_zero, List.getElem?_cons_succ, Option.getD_some, Nat.reduceSub, List.cons_append, List.nil_append, bin_sub, bin_neq, w64, decide_false, not_true_eq_false, h0, (ho.mono hpre).len, hL.len]
    exact gc_val hpre (by simp [lackN, h0, ren])
  · simp (maxSteps := 4000000) -implicitDefEqProofs -dsimp (disch := omega) only [↓AW_ops, ↓AW_seq, ↓AW_cond, ↓AW_ret, ↓AOps_nil, ↓AOps_pu, on_some, extK_false, condB_t, ↓then_normal, ↓then_ret, ↓Fin_ret, pval, rd_S, rd_C, put_S, resV, resL, List.replicate_succ, List.replicate_zero, List.set_cons_zero, List.set_cons_succ, List.getElem?_cons_zero, List.getElem?_cons_succ, Option.getD_some, Nat.reduceSub, List.cons_append, List.nil_append, bin_neq, decide_true, not_false_eq_true, h0]
    exact gc_val hpre (by simp [lackN, h0, ren])

/-! Covers. -/
def covOk (ls : List (List Int)) (os ps : List Int) (i : Nat) : Prop := (i : Int) ∈ os ∨ ∀ p ∈ lst ls i, p ∈ ps
instance (ls : List (List Int)) (os ps : List Int) (i : Nat) : Decidable (covOk ls os ps i) := by unfold covOk; exact inferInstance
def cov (ls : List (List Int)) (os ps : List Int) : Prop := ∀ i, i < ls.length → covOk ls os ps i
instance (ls : List (List Int)) (os ps : List Int) : Decidable (cov ls os ps) := by unfold cov; exact inferInstance
/-- The error of a cover. -/
def cvE (P : Int) (ls : List (List Int)) (os ps : List Int) : Int := if chE P ls os = 0 then (if isS P ps then (if cov ls os ps then 0 else 7) else 1) else chE P ls os
def cvN (P : Int) (ls : List (List Int)) (os ps : List Int) : Int := if cvE P ls os ps = 0 then os.length + ps.length else 0

theorem lst_at {ws : List (AV × List Int)} {i : Nat} {x : AV × List Int} (h : ws[i]? = some x) : lst (lists ws) i = x.2 := by
  simp [lst, h]

theorem s79 {ps : List Int} {u : AV} {A : AHeap} {a : Nat} (hp : L1 A u ps) (hl : ps.length ≤ 1000000) (h : ldA 1 false (.ptr a 0) A = some u) (p : Int) : ACalls Try.prog 79 [I p, .ptr a 0] A (B (!decide (p ∈ ps))) A := by
  refine acalls hmix Try.func79 (by kernel_rfl) t79 2 rfl (by decide) ?_
  dsimp only [m79]
  simp (maxSteps := 4000000) -implicitDefEqProofs -dsimp (disch := omega) only [↓AW_ops, ↓AW_seq, ↓AOps_nil, ↓AOps_pu, ↓AOps_ld, ↓AOps_call, on_some, ↓then_normal, pval, lval, rd_S, rd_C, put_S, List.replicate_succ, List.replicate_zero, List.set_cons_zero, List.set_cons_succ, List.getElem?_cons_zero, List.getElem?_cons_succ, Option.getD_some, map_c, map_n, Nat.reduceSub, List.cons_append, List.nil_append, h]
  refine CallK.of (c_Contains hp hl p) ?_
  simp (maxSteps := 4000000) -implicitDefEqProofs -dsimp (disch := omega) only [↓AW_ret, ↓AOps_nil, ↓AOps_pu, on_some, extK_same, ↓then_normal, ↓Fin_ret, pval, rd_S, put_S, resV, resL, List.replicate_succ, List.replicate_zero, List.set_cons_zero, List.set_cons_succ, List.getElem?_cons_zero, List.getElem?_cons_succ, Option.getD_some, Nat.reduceSub, List.cons_append, List.nil_append]
  exact gc_same rfl

theorem L1_cells {A : AHeap} {u : AV} {xs : List Int} (h : L1 A u xs) : u.cells? = some [u] := by
  rcases h.inv with ⟨rfl, _⟩ | ⟨n, off, full, rw, l, rfl, _⟩ <;> rfl

theorem s46 {P : Int} {ws : List (AV × List Int)} {v : AV} {os ps : List Int} {u t : AV} {A : AHeap} (hw : LL A v ws) (hs : Sz ws) (ho : L1 A u os) (hol : os.length ≤ 1000000) (hp : L1 A t ps) (hpl : ps.length ≤ 1000000) :
    ACalls Try.prog 46 [.agg [I P, v], u, t] A (.tuple [I (cvN P (lists ws) os ps), I (cvE P (lists ws) os ps)]) A := by
  refine acalls hmix Try.func46 (by kernel_rfl) t46 3 rfl (by decide) ?_
  have hw2 := hw.mono (pre_app A [.cells true [t]])
  have ho2 := ho.mono (pre_app A [.cells true [t]])
  have hp2 := hp.mono (pre_app A [.cells true [t]])
  dsimp only [m46]
  simp (maxSteps := 4000000) -implicitDefEqProofs -dsimp (disch := omega) only [↓AW_ops, ↓AW_seq, ↓AOps_nil, ↓AOps_pu, ↓AOps_ha, ↓AOps_call, on_some, extK_app, ↓then_normal, pval, hval_newv, rd_S, rd_C, put_S, chkd, bgot, cells_agg, partA, eq_self, List.replicate_succ, List.replicate_zero, List.set_cons_zero, List.set_cons_succ, List.getElem?_cons_zero, List.getElem?_cons_succ, List.drop_zero, List.take_succ_cons, List.take_nil, Option.getD_some, map_c, map_n, List.length_cons, List.length_nil, Nat.reduceAdd, Nat.reduceSub, Nat.reduceLeDiff, Nat.reduceEqDiff, Nat.zero_add, List.cons_append, List.nil_append, if_true, if_false, L1_cells hp]
  refine CallK.of (s74 hw2 hs ho2 hol) ?_
  by_cases h0 : chE P (lists ws) os = 0
  · simp (maxSteps := 4000000) -implicitDefEqProofs -dsimp (disch := omega) only [↓AW_skip, ↓AW_ops, ↓AW_seq, ↓AW_cond, ↓AOps_nil, ↓AOps_pu, ↓AOps_ld, ↓AOps_call, on_some, extK_same, condB_f, ↓then_normal, pval, lval, rd_S, rd_C, put_S, chkd, isAdr, bgot, AV.cells?, partA, eq_self, List.replicate_succ, List.replicate_zero, List.set_cons_zero, List.set_cons_succ, List.getElem?_cons_zero, List.getElem?_cons_succ, List.drop_zero, List.take_zero, List.take_succ_cons, Option.getD_some, map_c, map_n, List.length_cons, List.length_nil, Nat.reduceAdd, Nat.reduceSub, Nat.reduceLeDiff, Nat.zero_add, List.cons_append, List.nil_append, bin_neq, if_true, if_false, Bool.false_eq_true, decide_false, not_true_eq_false, h0, ld_new]
    refine CallK.of (s78 hp2 hpl _) ?_
    by_cases h1 : isS P ps
    · simp (maxSteps := 4000000) -implicitDefEqProofs -dsimp (disch := omega) only [↓AW_skip, ↓AW_ops, ↓AW_seq, ↓AW_cond, ↓AW_block, ↓AOps_nil, ↓AOps_pu, on_some, extK_same, condB_f, ↓then_normal, pval, rd_S, rd_C, put_S, ↓AW_toLoop, chkd, isAdr, bgot, AV.cells?, partA, eq_self, List.replicate_succ, List.replicate_zero, List.set_cons_zero, List.set_cons_succ, List.getElem?_cons_zero, List.getElem?_cons_succ, List.drop_zero, List.drop_succ_cons, List.take_succ_cons, List.take_nil, Option.getD_some, List.length_cons, List.length_nil, Nat.reduceAdd, Nat.reduceSub, Nat.reduceLeDiff, Nat.zero_add, List.cons_append, List.nil_append, if_true, if_false, Bool.false_eq_true, Bool.not_true, decide_true, h1, hw2.ls.len]
      refine LoopK.by 45 (fun i : Nat => i ≤ ws.length ∧ ∀ k, k < i → covOk (lists ws) os ps k) (fun i => [(1, u), (5, .ptr A.length 0), (23, v), (24, I ws.length), (25, I i)]) (fun _ => A ++ [.cells true [t]]) (fun i => ws.length - i) 0 ⟨by omega, by omega⟩ rfl (by simp [Has, rd_s]) rfl ?_
      rintro i ⟨hi, he⟩
      by_cases hlt : i < ws.length
      · obtain ⟨x, hz⟩ : ∃ z, ws[i]? = some z := ⟨_, List.getElem?_eq_getElem hlt⟩
        have hlt' : (i : Int) < ws.length := by omega
        have hs1 := hs.1
        have hm := List.mem_of_getElem? hz
        have hlx := lst_at hz
        have hbad : ¬ covOk (lists ws) os ps i → cvE P (lists ws) os ps = 7 := fun h => by
          unfold cvE; rw [if_pos h0, if_pos h1, if_neg]
          exact fun hc => h (hc i (by simpa using hlt))
        simp (maxSteps := 4000000) -implicitDefEqProofs -dsimp (disch := omega) only [↓AW_skip, ↓AW_ops, ↓AW_seq, ↓AW_cond, ↓AW_block, ↓AOps_nil, ↓AOps_pu, ↓AOps_ld, ↓AOps_call, on_some, condB_t, ↓then_normal, pval, lval, rd_S, put_S, partA, eq_self, mk, List.foldl_cons, List.foldl_nil, List.replicate_succ, List.replicate_zero, List.set_cons_zero, List.set_cons_succ, List.getElem?_cons_zero, List.getElem?_cons_succ, List.drop_zero, List.take_succ_cons, List.take_nil, Option.getD_some, map_c, map_n, List.length_cons, List.length_nil, Nat.reduceLeDiff, Nat.zero_add, bin_lss, if_true, if_false, Bool.false_eq_true, decide_true, hlt', hw2.ls.idx hlt, hw2.ls.ld0 hz 1 false (by decide), e0]
        refine CallK.of (c_Contains ho2 hol i) ?_
        by_cases hc : (i : Int) ∈ os
        · simp (maxSteps := 4000000) -implicitDefEqProofs -dsimp (disch := omega) only [↓AW_skip, ↓AW_ops, ↓AW_cond, ↓AOps_nil, ↓AOps_pu, ↓AOps_guard, on_some, extK_same, guardB_ft, skipS_some, condB_f, ↓then_normal, ↓inBlock_normal, pval, rd_S, rd_C, put_S, eq_self, mk, List.foldl_cons, List.foldl_nil, List.replicate_succ, List.replicate_zero, List.set_cons_zero, List.set_cons_succ, List.getElem?_cons_zero, List.getElem?_cons_succ, Option.getD_some, List.length_cons, List.length_nil, Nat.reduceAdd, Nat.zero_add, bin_add, w64, if_false, Bool.false_eq_true, Bool.not_true, decide_true, true_and, hc]
          refine ⟨i + 1, ⟨hlt, fun k hk => ?_⟩, by simp [Has, rd_s], by omega⟩
          by_cases hki : k = i
          · subst hki; exact .inl hc
          · exact he k (by omega)
        · simp (maxSteps := 4000000) -implicitDefEqProofs -dsimp (disch := omega) only [↓AOps_pu, ↓AOps_call, ↓AOps_guard, on_some, extK_same, guardB_tt, pval, rd_S, put_S, mk, List.foldl_cons, List.foldl_nil, List.replicate_succ, List.replicate_zero, List.set_cons_zero, List.set_cons_succ, List.getElem?_cons_zero, List.getElem?_cons_succ, Option.getD_some, map_c, map_n, Bool.not_false, decide_false, hc]
          refine CallK.of (c_ContainsFunc (hw2.inn x hm) (by have := hs.2 x hm; omega) 79 [.ptr A.length 0] (fun p => !decide (p ∈ ps)) (fun p _ => s79 hp2 hpl (ld_new A t []) p)) ?_
          by_cases hc2 : ∀ p ∈ x.2, p ∈ ps
          · have hc2' : (x.2.any fun p => !decide (p ∈ ps)) = false := by simpa using hc2
            simp (maxSteps := 4000000) -implicitDefEqProofs -dsimp (disch := omega) only [↓AW_skip, ↓AW_ops, ↓AW_cond, ↓AOps_nil, ↓AOps_pu, on_some, extK_same, condB_f, ↓then_normal, ↓inBlock_normal, pval, rd_S, rd_C, put_S, eq_self, mk, List.foldl_cons, List.foldl_nil, List.replicate_succ, List.replicate_zero, List.set_cons_zero, List.set_cons_succ, List.getElem?_cons_zero, List.getElem?_cons_succ, Option.getD_some, List.length_cons, List.length_nil, Nat.reduceAdd, Nat.zero_add, bin_add, w64, if_true, true_and, hc2']
            refine ⟨i + 1, ⟨hlt, fun k hk => ?_⟩, by simp [Has, rd_s], by omega⟩
            by_cases hki : k = i
            · subst hki; exact .inr (by rw [hlx]; exact hc2)
            · exact he k (by omega)
          · have hc2' : (x.2.any fun p => !decide (p ∈ ps)) = true := by simpa using hc2
            simp (maxSteps := 4000000) -implicitDefEqProofs -dsimp (disch := omega) only [↓AW_ops, ↓AW_seq, ↓AW_cond, ↓AW_ret, ↓AOps_nil, ↓AOps_pu, on_some, extK_same, condB_t, ↓then_normal, ↓then_ret, ↓inBlock_ret, ↓Fin_ret, pval, rd_S, rd_C, put_S, resV, resL, eq_self, mk, List.foldl_cons, List.foldl_nil, List.replicate_succ, List.replicate_zero, List.set_cons_zero, List.set_cons_succ, List.getElem?_cons_zero, List.getElem?_cons_succ, Option.getD_some, if_true, hc2']
            have h7 := hbad (fun h => by
              rcases h with h | h
              · exact hc h
              · rw [hlx] at h; exact hc2 h)
            exact gc_val (pre_app _ _) (by simp [cvN, h7, ren])
      · have hlt' : ¬ ((i : Int) < ws.length) := by omega
        have hii : i = ws.length := by omega
        subst hii
        have hE : cvE P (lists ws) os ps = 0 := by
          unfold cvE; rw [if_pos h0, if_pos h1, if_pos]
          exact fun k hk => he k (by simpa using hk)
        simp (maxSteps := 4000000) -implicitDefEqProofs -dsimp (disch := omega) only [↓AW_ops, ↓AW_seq, ↓AW_cond, ↓AW_exit, ↓AW_ret, ↓AOps_nil, ↓AOps_pu, ↓AOps_ld, on_some, condB_f, ↓then_normal, ↓then_exit, ↓inBlock_exit, ↓Fin_ret, pval, lval, rd_S, rd_C, put_S, resV, resL, eq_self, mk, List.foldl_cons, List.foldl_nil, List.replicate_succ, List.replicate_zero, List.set_cons_zero, List.set_cons_succ, List.getElem?_cons_zero, List.getElem?_cons_succ, Option.getD_some, bin_add, bin_lss, w64, if_true, decide_false, Int.lt_irrefl, ho2.len, ld_new, hp2.len]
        exact gc_val (pre_app _ _) (by simp [cvN, hE, ren])
    · simp (maxSteps := 4000000) -implicitDefEqProofs -dsimp (disch := omega) only [↓AW_ops, ↓AW_seq, ↓AW_cond, ↓AW_ret, ↓AOps_nil, ↓AOps_pu, on_some, extK_same, condB_t, ↓then_normal, ↓then_ret, ↓Fin_ret, pval, rd_S, rd_C, put_S, resV, resL, List.replicate_succ, List.replicate_zero, List.set_cons_zero, List.set_cons_succ, List.getElem?_cons_zero, List.getElem?_cons_succ, Option.getD_some, Nat.reduceSub, List.cons_append, List.nil_append, Bool.not_false, decide_false, h1]
      have hE : cvE P (lists ws) os ps = 1 := by unfold cvE; rw [if_pos h0, if_neg h1]
      exact gc_val (pre_app _ _) (by simp [cvN, hE, ren])
  · simp (maxSteps := 4000000) -implicitDefEqProofs -dsimp (disch := omega) only [↓AW_ops, ↓AW_seq, ↓AW_cond, ↓AW_ret, ↓AOps_nil, ↓AOps_pu, on_some, extK_same, condB_t, ↓then_normal, ↓then_ret, ↓Fin_ret, pval, rd_S, rd_C, put_S, resV, resL, List.replicate_succ, List.replicate_zero, List.set_cons_zero, List.set_cons_succ, List.getElem?_cons_zero, List.getElem?_cons_succ, Option.getD_some, Nat.reduceSub, List.cons_append, List.nil_append, bin_neq, decide_true, not_false_eq_true, h0]
    have hE : cvE P (lists ws) os ps = chE P (lists ws) os := by unfold cvE; rw [if_neg h0]
    exact gc_val (pre_app _ _) (by simp [cvN, hE, h0, ren])

theorem s50 {P : Int} {ws : List (AV × List Int)} {v : AV} {os ps : List Int} {u t : AV} {A : AHeap} (hw : LL A v ws) (hs : Sz ws) (ho : L1 A u os) (hol : os.length ≤ 1000000) (hp : L1 A t ps) (hpl : ps.length ≤ 1000000) :
    ACalls Try.prog 50 [.agg [I P, v], u, t] A (.tuple [I (cvN P (lists ws) os ps), I (cvE P (lists ws) os ps)]) A := by
  refine acalls hmix Try.func50 (by kernel_rfl) t50 3 rfl (by decide) ?_
  dsimp only [m50]
  simp (maxSteps := 4000000) -implicitDefEqProofs -dsimp (disch := omega) only [↓AW_ops, ↓AW_seq, ↓AOps_nil, ↓AOps_pu, ↓AOps_call, on_some, ↓then_normal, pval, rd_S, rd_C, put_S, chkd, bgot, AV.cells?, partA, eq_self, List.replicate_succ, List.replicate_zero, List.set_cons_zero, List.set_cons_succ, List.getElem?_cons_zero, List.getElem?_cons_succ, List.drop_zero, List.take_succ_cons, List.take_nil, Option.getD_some, map_c, map_n, List.length_cons, List.length_nil, Nat.reduceAdd, Nat.reduceSub, Nat.reduceLeDiff, Nat.reduceEqDiff, Nat.zero_add, List.cons_append, List.nil_append, if_true, if_false]
  refine CallK.of (s40 hw hs) ?_
  by_cases h0 : vW P (lists ws) = 0
  · have hP := vW_P7 h0
    simp (maxSteps := 4000000) -implicitDefEqProofs -dsimp (disch := omega) only [↓AW_skip, ↓AW_ops, ↓AW_seq, ↓AW_cond, ↓AOps_nil, ↓AOps_pu, ↓AOps_call, on_some, extK_same, condB_f, ↓then_normal, pval, rd_S, rd_C, put_S, chkd, isAdr, bgot, AV.cells?, partA, eq_self, List.replicate_succ, List.replicate_zero, List.set_cons_zero, List.set_cons_succ, List.getElem?_cons_zero, List.getElem?_cons_succ, List.drop_zero, List.drop_succ_cons, List.take_succ_cons, List.take_nil, Option.getD_some, map_c, map_n, List.length_cons, List.length_nil, Nat.reduceAdd, Nat.reduceSub, Nat.reduceLeDiff, Nat.zero_add, List.cons_append, List.nil_append, bin_neq, if_true, if_false, Bool.false_eq_true, decide_false, not_true_eq_false, h0, hw.ls.len]
    refine CallK.of (s76 ho hol _ (by have := hs.1; omega)) ?_
    by_cases h1 : isS ws.length os
    · have hc : chE P (lists ws) os = 0 := chE_0.2 ⟨h0, by simpa using h1⟩
      simp (maxSteps := 4000000) -implicitDefEqProofs -dsimp (disch := omega) only [↓AOps_pu, ↓AOps_call, ↓AOps_guard, on_some, extK_same, guardB_ff, pval, rd_S, put_S, chkd, isAdr, bgot, AV.cells?, partA, eq_self, List.replicate_succ, List.replicate_zero, List.set_cons_zero, List.set_cons_succ, List.getElem?_cons_zero, List.getElem?_cons_succ, List.drop_zero, List.take_zero, List.take_succ_cons, Option.getD_some, map_c, map_n, List.length_cons, List.length_nil, Nat.reduceAdd, Nat.reduceSub, Nat.reduceLeDiff, Nat.zero_add, List.cons_append, List.nil_append, if_true, if_false, Bool.false_eq_true, Bool.not_true, decide_true, h1]
      refine CallK.of (s76 hp hpl P (by omega)) ?_
      by_cases h2 : isS P ps
      · simp (maxSteps := 4000000) -implicitDefEqProofs -dsimp (disch := omega) only [↓AW_skip, ↓AW_ops, ↓AW_seq, ↓AW_cond, ↓AW_block, ↓AOps_nil, ↓AOps_pu, ↓AOps_guard, on_some, extK_same, guardB_ff, condB_f, ↓then_normal, pval, rd_S, rd_C, put_S, ↓AW_toLoop, List.replicate_succ, List.replicate_zero, List.set_cons_zero, List.set_cons_succ, List.getElem?_cons_zero, List.getElem?_cons_succ, Option.getD_some, Nat.reduceSub, List.cons_append, List.nil_append, if_false, Bool.false_eq_true, Bool.not_true, decide_true, h2]
        refine LoopK.by 68 (fun i : Nat => i ≤ ws.length ∧ ∀ k, k < i → covOk (lists ws) os ps k) (fun i => [(1, u), (2, t), (3, .agg [I P, v]), (9, I i)]) (fun _ => A) (fun i => ws.length - i) 0 ⟨by omega, by omega⟩ rfl (by simp [Has, rd_s]) rfl ?_
        rintro i ⟨hi, he⟩
        by_cases hlt : i < ws.length
        · obtain ⟨x, hz⟩ : ∃ z, ws[i]? = some z := ⟨_, List.getElem?_eq_getElem hlt⟩
          have hlt' : (i : Int) < ws.length := by omega
          have hs1 := hs.1
          have hm := List.mem_of_getElem? hz
          have hx := hw.inn x hm
          have hx2 := hs.2 x hm
          have hlx := lst_at hz
          have hbad : ¬ covOk (lists ws) os ps i → cvE P (lists ws) os ps = 7 := fun h => by
            unfold cvE; rw [if_pos hc, if_pos h2, if_neg]
            exact fun hc => h (hc i (by simpa using hlt))
          simp (maxSteps := 4000000) -implicitDefEqProofs -dsimp (disch := omega) only [↓AW_skip, ↓AW_ops, ↓AW_seq, ↓AW_cond, ↓AW_block, ↓AOps_nil, ↓AOps_pu, on_some, condB_t, ↓then_normal, pval, rd_S, rd_C, put_S, ↓AW_toLoop, chkd, isAdr, bgot, AV.cells?, partA, eq_self, mk, List.foldl_cons, List.foldl_nil, List.replicate_succ, List.replicate_zero, List.set_cons_zero, List.set_cons_succ, List.getElem?_cons_zero, List.getElem?_cons_succ, List.drop_zero, List.drop_succ_cons, List.take_succ_cons, List.take_nil, Option.getD_some, List.length_cons, List.length_nil, Nat.reduceAdd, Nat.reduceLeDiff, Nat.zero_add, bin_lss, if_true, if_false, Bool.false_eq_true, decide_true, hlt', hw.ls.len]
          refine LoopK.by 68 (fun k : Nat => k ≤ x.2.length ∧ ((i : Int) ∈ os ∨ ∀ p ∈ x.2.take k, p ∈ ps)) (fun k => [(1, u), (2, t), (3, .agg [I P, v]), (9, I i), (10, I k)]) (fun _ => A) (fun k => x.2.length - k) 0 ⟨by omega, by simp⟩ rfl (by simp [Has, rd_s]) rfl ?_
          rintro k ⟨hk, hek⟩
          by_cases hltk : k < x.2.length
          · obtain ⟨p, hzp⟩ : ∃ p, x.2[k]? = some p := ⟨_, List.getElem?_eq_getElem hltk⟩
            have hltk' : (k : Int) < x.2.length := by omega
            simp (maxSteps := 4000000) -implicitDefEqProofs -dsimp (disch := omega) only [↓AW_skip, ↓AW_ops, ↓AW_seq, ↓AW_cond, ↓AW_block, ↓AOps_nil, ↓AOps_pu, ↓AOps_ld, ↓AOps_call, on_some, condB_t, ↓then_normal, pval, lval, rd_S, put_S, chkd, isAdr, bgot, AV.cells?, partA, eq_self, mk, List.foldl_cons, List.foldl_nil, List.replicate_succ, List.replicate_zero, List.set_cons_zero, List.set_cons_succ, List.getElem?_cons_zero, List.getElem?_cons_succ, List.drop_zero, List.drop_succ_cons, List.take_succ_cons, List.take_nil, Option.getD_some, map_c, map_n, List.length_cons, List.length_nil, Nat.reduceAdd, Nat.reduceLeDiff, Nat.zero_add, bin_lss, if_true, if_false, Bool.false_eq_true, decide_true, hltk', hw.ls.idx hlt, hw.ls.ld0 hz 1 false (by decide), e0, hx.len]
            refine CallK.of (s65 ho hol i) ?_
            by_cases hco : (i : Int) ∈ os
            · simp (maxSteps := 4000000) -implicitDefEqProofs -dsimp (disch := omega) only [↓AW_skip, ↓AW_ops, ↓AW_cond, ↓AOps_nil, ↓AOps_pu, ↓AOps_guard, on_some, extK_same, guardB_ft, skipS_some, condB_f, ↓then_normal, ↓inBlock_normal, pval, rd_S, rd_C, put_S, eq_self, mk, List.foldl_cons, List.foldl_nil, List.replicate_succ, List.replicate_zero, List.set_cons_zero, List.set_cons_succ, List.getElem?_cons_zero, List.getElem?_cons_succ, Option.getD_some, List.length_cons, List.length_nil, Nat.reduceAdd, Nat.zero_add, bin_add, w64, if_false, Bool.false_eq_true, Bool.not_true, decide_true, true_and, hco]
              exact ⟨k + 1, ⟨hltk, by simp []⟩, by simp [Has, rd_s], by omega⟩
            · simp (maxSteps := 4000000) -implicitDefEqProofs -dsimp (disch := omega) only [↓AOps_pu, ↓AOps_ld, ↓AOps_call, ↓AOps_guard, on_some, extK_same, guardB_tt, pval, lval, rd_S, put_S, chkd, isAdr, bgot, AV.cells?, partA, eq_self, mk, List.foldl_cons, List.foldl_nil, List.replicate_succ, List.replicate_zero, List.set_cons_zero, List.set_cons_succ, List.getElem?_cons_zero, List.getElem?_cons_succ, List.drop_zero, List.drop_succ_cons, List.take_succ_cons, List.take_nil, Option.getD_some, map_c, map_n, List.length_cons, List.length_nil, Nat.reduceAdd, Nat.reduceLeDiff, Nat.zero_add, if_true, if_false, Bool.false_eq_true, Bool.not_false, decide_false, Go.Eng.e1, hco, hw.ls.idx hlt, hw.ls.ld0 hz 1 false (by decide), e0, hx.idx hltk, hx.ld0 hzp 1 false (by decide)]
              refine CallK.of (s65 hp hpl p) ?_
              by_cases hcp : p ∈ ps
              · simp (maxSteps := 4000000) -implicitDefEqProofs -dsimp (disch := omega) only [↓AW_skip, ↓AW_ops, ↓AW_cond, ↓AOps_nil, ↓AOps_pu, ↓AOps_guard, on_some, extK_same, guardB_tt, condB_f, ↓then_normal, ↓inBlock_normal, pval, rd_S, rd_C, put_S, eq_self, mk, List.foldl_cons, List.foldl_nil, List.replicate_succ, List.replicate_zero, List.set_cons_zero, List.set_cons_succ, List.getElem?_cons_zero, List.getElem?_cons_succ, Option.getD_some, List.length_cons, List.length_nil, Nat.reduceAdd, Nat.zero_add, bin_add, w64, if_true, Bool.not_true, decide_true, true_and, hcp]
                refine ⟨k + 1, ⟨hltk, ?_⟩, by simp [Has, rd_s], by omega⟩
                rcases hek with h | h
                · exact absurd h hco
                · simp only [hco, false_or]; exact all_take h hzp hcp
              · simp (maxSteps := 4000000) -implicitDefEqProofs -dsimp (disch := omega) only [↓AW_ops, ↓AW_seq, ↓AW_cond, ↓AW_ret, ↓AOps_nil, ↓AOps_pu, ↓AOps_guard, on_some, extK_same, guardB_tt, condB_t, ↓then_normal, ↓then_ret, ↓inBlock_ret, ↓Fin_ret, pval, rd_S, rd_C, put_S, resV, resL, eq_self, mk, List.foldl_cons, List.foldl_nil, List.replicate_succ, List.replicate_zero, List.set_cons_zero, List.set_cons_succ, List.getElem?_cons_zero, List.getElem?_cons_succ, Option.getD_some, if_true, Bool.not_false, decide_false, hcp]
                have h7 := hbad (fun h => by
                  rcases h with h | h
                  · exact hco h
                  · rw [hlx] at h; exact hcp (h p (List.mem_of_getElem? hzp)))
                exact gc_same (by simp [cvN, h7])
          · have hltk' : ¬ ((k : Int) < x.2.length) := by omega
            rw [List.take_of_length_le (by omega)] at hek
            simp (maxSteps := 4000000) -implicitDefEqProofs -dsimp (disch := omega) only [↓AW_ops, ↓AW_seq, ↓AW_cond, ↓AW_exit, ↓AOps_nil, ↓AOps_pu, ↓AOps_ld, on_some, condB_f, ↓then_normal, ↓then_exit, ↓inBlock_normal, ↓inBlock_exit, pval, lval, rd_S, rd_C, put_S, chkd, isAdr, bgot, AV.cells?, partA, eq_self, mk, List.foldl_cons, List.foldl_nil, List.replicate_succ, List.replicate_zero, List.set_cons_zero, List.set_cons_succ, List.getElem?_cons_zero, List.getElem?_cons_succ, List.drop_zero, List.drop_succ_cons, List.take_succ_cons, List.take_nil, Option.getD_some, List.length_cons, List.length_nil, Nat.reduceAdd, Nat.reduceLeDiff, Nat.reduceEqDiff, Nat.zero_add, bin_add, bin_lss, w64, if_true, if_false, Bool.false_eq_true, decide_false, true_and, reduceCtorEq, hltk', hw.ls.idx hlt, hw.ls.ld0 hz 1 false (by decide), e0, hx.len]
            refine ⟨i + 1, ⟨hlt, fun k' hk' => ?_⟩, by simp [Has, rd_s], by omega⟩
            by_cases hki : k' = i
            · subst hki; unfold covOk; rw [hlx]; exact hek
            · exact he k' (by omega)
        · have hlt' : ¬ ((i : Int) < ws.length) := by omega
          have hii : i = ws.length := by omega
          subst hii
          have hE : cvE P (lists ws) os ps = 0 := by
            unfold cvE; rw [if_pos hc, if_pos h2, if_pos]
            exact fun k hk => he k (by simpa using hk)
          simp (maxSteps := 4000000) -implicitDefEqProofs -dsimp (disch := omega) only [↓AW_ops, ↓AW_seq, ↓AW_cond, ↓AW_exit, ↓AW_ret, ↓AOps_nil, ↓AOps_pu, on_some, condB_f, ↓then_normal, ↓then_exit, ↓inBlock_exit, ↓Fin_ret, pval, rd_S, rd_C, put_S, resV, resL, chkd, isAdr, bgot, AV.cells?, partA, eq_self, mk, List.foldl_cons, List.foldl_nil, List.replicate_succ, List.replicate_zero, List.set_cons_zero, List.set_cons_succ, List.getElem?_cons_zero, List.getElem?_cons_succ, List.drop_zero, List.drop_succ_cons, List.take_succ_cons, List.take_nil, Option.getD_some, List.length_cons, List.length_nil, Nat.reduceAdd, Nat.reduceLeDiff, Nat.zero_add, bin_add, bin_lss, w64, if_true, if_false, Bool.false_eq_true, decide_false, Int.lt_irrefl, ho.len, hw.ls.len, hp.len]
          exact gc_same (by simp [cvN, hE])
      · simp (maxSteps := 4000000) -implicitDefEqProofs -dsimp (disch := omega) only [↓AW_ops, ↓AW_seq, ↓AW_cond, ↓AW_ret, ↓AOps_nil, ↓AOps_pu, ↓AOps_guard, on_some, extK_same, guardB_ff, condB_t, ↓then_normal, ↓then_ret, ↓Fin_ret, pval, rd_S, rd_C, put_S, resV, resL, List.replicate_succ, List.replicate_zero, List.set_cons_zero, List.set_cons_succ, List.getElem?_cons_zero, List.getElem?_cons_succ, Option.getD_some, Nat.reduceSub, List.cons_append, List.nil_append, if_false, Bool.false_eq_true, Bool.not_false, decide_false, h2]
        have hE : cvE P (lists ws) os ps = 1 := by unfold cvE; rw [if_pos hc, if_neg h2]
        exact gc_same (by simp [cvN, hE])
    · have hc : chE P (lists ws) os = 1 := by simp [chE, h0, h1]
      simp (maxSteps := 4000000) -implicitDefEqProofs -dsimp (disch := omega) only [↓AW_ops, ↓AW_seq, ↓AW_cond, ↓AW_ret, ↓AOps_nil, ↓AOps_pu, ↓AOps_guard, on_some, extK_same, guardB_tf, skipS_some, condB_t, ↓then_normal, ↓then_ret, ↓Fin_ret, pval, rd_S, rd_C, put_S, resV, resL, eq_self, List.replicate_succ, List.replicate_zero, List.set_cons_zero, List.set_cons_succ, List.getElem?_cons_zero, List.getElem?_cons_succ, Option.getD_some, Nat.reduceSub, List.cons_append, List.nil_append, if_true, Bool.not_false, decide_false, h1]
      have hE : cvE P (lists ws) os ps = 1 := by unfold cvE; rw [hc, if_neg (by decide)]
      exact gc_same (by simp [cvN, hE])
  · have hc : chE P (lists ws) os = vW P (lists ws) := by unfold chE; rw [if_neg h0]
    simp (maxSteps := 4000000) -implicitDefEqProofs -dsimp (disch := omega) only [↓AW_ops, ↓AW_seq, ↓AW_cond, ↓AW_ret, ↓AOps_nil, ↓AOps_pu, on_some, extK_same, condB_t, ↓then_normal, ↓then_ret, ↓Fin_ret, pval, rd_S, rd_C, put_S, resV, resL, List.replicate_succ, List.replicate_zero, List.set_cons_zero, List.set_cons_succ, List.getElem?_cons_zero, List.getElem?_cons_succ, Option.getD_some, Nat.reduceSub, List.cons_append, List.nil_append, bin_neq, decide_true, not_false_eq_true, h0]
    have hE : cvE P (lists ws) os ps = vW P (lists ws) := by unfold cvE; rw [hc, if_neg h0]
    exact gc_same (by simp [cvN, hE, h0])

end Go.Proofs.Ytlmbobbefgcolaa
