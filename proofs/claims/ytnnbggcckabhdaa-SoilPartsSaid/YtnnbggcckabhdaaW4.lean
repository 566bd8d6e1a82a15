/- Soil: length, worth and mean. No conditions. -/
import Derived.Test.YtnnbggcckabhdaaW3
namespace Go.Proofs.Ytnnbggcckabhdaa
open Go Go.Eng

theorem s31 {f : List (Int × Int)} {v : AV} {A : AHeap} (hf : L2 A v f) : ACalls Try.prog 31 [v] A (.tuple [I (if vE f = 0 then len f else 0), I (vE f)]) A := by
  refine acalls hmix Try.func31 (by kernel_rfl) t31 1 rfl (by decide) ?_
  dsimp only [m31]
  simp (maxSteps := 4000000) -implicitDefEqProofs -dsimp (disch := omega) only [↓AW_ops, ↓AW_seq, ↓AOps_nil, ↓AOps_pu, ↓AOps_call, on_some, ↓then_normal, pval, rd_S, rd_C, put_S, List.replicate_succ, List.replicate_zero, List.set_cons_zero, List.set_cons_succ, List.getElem?_cons_zero, List.getElem?_cons_succ, Option.getD_some, map_c, map_n, Nat.reduceSub, List.cons_append, List.nil_append]
  refine CallK.of (s37 hf) ?_
  by_cases h0 : vE f = 0
  · simp (maxSteps := 4000000) -implicitDefEqProofs -dsimp (disch := omega) only [↓AW_skip, ↓AW_ops, ↓AW_seq, ↓AW_cond, ↓AOps_nil, ↓AOps_pu, ↓AOps_call, on_some, extK_same, condB_f, ↓then_normal, pval, rd_S, rd_C, put_S, eq_self, List.replicate_succ, List.replicate_zero, List.set_cons_zero, List.set_cons_succ, List.getElem?_cons_zero, List.getElem?_cons_succ, Option.getD_some, map_c, map_n, Nat.reduceSub, List.cons_append, List.nil_append, bin_neq, decide_false, not_true_eq_false, h0]
    refine CallK.of (s77 hf (good_of h0).1) ?_
    simp (maxSteps := 4000000) -implicitDefEqProofs -dsimp (disch := omega) only [↓AW_ret, ↓AOps_nil, ↓AOps_pu, on_some, extK_same, ↓then_normal, ↓Fin_ret, pval, rd_S, rd_C, put_S, resV, resL, List.replicate_succ, List.replicate_zero, List.set_cons_zero, List.set_cons_succ, List.getElem?_cons_zero, List.getElem?_cons_succ, Option.getD_some, Nat.reduceSub, List.cons_append, List.nil_append]
    exact gc_same (by simp [h0])
  · simp (maxSteps := 4000000) -implicitDefEqProofs -dsimp (disch := omega) only [↓AW_ops, ↓AW_seq, ↓AW_cond, ↓AW_ret, ↓AOps_nil, ↓AOps_pu, on_some, extK_same, condB_t, ↓then_normal, ↓then_ret, ↓Fin_ret, pval, rd_S, rd_C, put_S, resV, resL, List.replicate_succ, List.replicate_zero, List.set_cons_zero, List.set_cons_succ, List.getElem?_cons_zero, List.getElem?_cons_succ, Option.getD_some, Nat.reduceSub, List.cons_append, List.nil_append, bin_neq, if_false, decide_true, not_false_eq_true, h0]
    exact gc_same (by simp [])

theorem s33 {f : List (Int × Int)} {v : AV} {A : AHeap} (hf : L2 A v f) : ACalls Try.prog 33 [v] A (.tuple [I (if vE f = 0 then tot f else 0), I (vE f)]) A := by
  refine acalls hmix Try.func33 (by kernel_rfl) t33 1 rfl (by decide) ?_
  dsimp only [m33]
  simp (maxSteps := 4000000) -implicitDefEqProofs -dsimp (disch := omega) only [↓AW_ops, ↓AW_seq, ↓AOps_nil, ↓AOps_pu, ↓AOps_call, on_some, ↓then_normal, pval, rd_S, rd_C, put_S, List.replicate_succ, List.replicate_zero, List.set_cons_zero, List.set_cons_succ, List.getElem?_cons_zero, List.getElem?_cons_succ, Option.getD_some, map_c, map_n, Nat.reduceSub, List.cons_append, List.nil_append]
  refine CallK.of (s37 hf) ?_
  by_cases h0 : vE f = 0
  · simp (maxSteps := 4000000) -implicitDefEqProofs -dsimp (disch := omega) only [↓AW_skip, ↓AW_ops, ↓AW_seq, ↓AW_cond, ↓AOps_nil, ↓AOps_pu, ↓AOps_call, on_some, extK_same, condB_f, ↓then_normal, pval, rd_S, rd_C, put_S, eq_self, List.replicate_succ, List.replicate_zero, List.set_cons_zero, List.set_cons_succ, List.getElem?_cons_zero, List.getElem?_cons_succ, Option.getD_some, map_c, map_n, Nat.reduceSub, List.cons_append, List.nil_append, bin_neq, decide_false, not_true_eq_false, h0]
    refine CallK.of (s65 hf (good_of h0).1) ?_
    simp (maxSteps := 4000000) -implicitDefEqProofs -dsimp (disch := omega) only [↓AW_ret, ↓AOps_nil, ↓AOps_pu, on_some, extK_same, ↓then_normal, ↓Fin_ret, pval, rd_S, rd_C, put_S, resV, resL, List.replicate_succ, List.replicate_zero, List.set_cons_zero, List.set_cons_succ, List.getElem?_cons_zero, List.getElem?_cons_succ, Option.getD_some, Nat.reduceSub, List.cons_append, List.nil_append]
    exact gc_same (by simp [h0])
  · simp (maxSteps := 4000000) -implicitDefEqProofs -dsimp (disch := omega) only [↓AW_ops, ↓AW_seq, ↓AW_cond, ↓AW_ret, ↓AOps_nil, ↓AOps_pu, on_some, extK_same, condB_t, ↓then_normal, ↓then_ret, ↓Fin_ret, pval, rd_S, rd_C, put_S, resV, resL, List.replicate_succ, List.replicate_zero, List.set_cons_zero, List.set_cons_succ, List.getElem?_cons_zero, List.getElem?_cons_succ, Option.getD_some, Nat.reduceSub, List.cons_append, List.nil_append, bin_neq, if_false, decide_true, not_false_eq_true, h0]
    exact gc_same (by simp [])

theorem s32 {f : List (Int × Int)} {v : AV} {A : AHeap} (hf : L2 A v f) : ACalls Try.prog 32 [v] A (.tuple [I (if vE f = 0 then len f else 0), I (vE f)]) A := by
  refine acalls hmix Try.func32 (by kernel_rfl) t32 1 rfl (by decide) ?_
  dsimp only [m32]
  simp (maxSteps := 4000000) -implicitDefEqProofs -dsimp (disch := omega) only [↓AW_ops, ↓AW_seq, ↓AOps_nil, ↓AOps_pu, ↓AOps_call, on_some, ↓then_normal, pval, rd_S, rd_C, put_S, List.replicate_succ, List.replicate_zero, List.set_cons_zero, List.set_cons_succ, List.getElem?_cons_zero, List.getElem?_cons_succ, Option.getD_some, map_c, map_n, Nat.reduceSub, List.cons_append, List.nil_append]
  refine CallK.of (s38 hf) ?_
  by_cases h0 : vE f = 0
  · simp (maxSteps := 4000000) -implicitDefEqProofs -dsimp (disch := omega) only [↓AW_skip, ↓AW_ops, ↓AW_seq, ↓AW_cond, ↓AOps_nil, ↓AOps_pu, ↓AOps_call, on_some, extK_same, condB_f, ↓then_normal, pval, rd_S, rd_C, put_S, eq_self, List.replicate_succ, List.replicate_zero, List.set_cons_zero, List.set_cons_succ, List.getElem?_cons_zero, List.getElem?_cons_succ, Option.getD_some, map_c, map_n, Nat.reduceSub, List.cons_append, List.nil_append, bin_neq, decide_false, not_true_eq_false, h0]
    have hg := (good_of h0).1
    refine CallK.of (s68 hf hg) ?_
    simp (maxSteps := 4000000) -implicitDefEqProofs -dsimp (disch := omega) only [↓AW_ret, ↓AOps_nil, ↓AOps_pu, on_some, extK_false, ↓then_normal, ↓Fin_ret, pval, rd_S, rd_C, put_S, resV, resL, List.replicate_succ, List.replicate_zero, List.set_cons_zero, List.set_cons_succ, List.getElem?_cons_zero, List.getElem?_cons_succ, Option.getD_some, Nat.reduceSub, List.cons_append, List.nil_append, (Ls_out A e1_len (units f)).len, len_units hg.2]
    exact gc_val (pre_out _ _ _) (by simp [h0, ren])
  · simp (maxSteps := 4000000) -implicitDefEqProofs -dsimp (disch := omega) only [↓AW_ops, ↓AW_seq, ↓AW_cond, ↓AW_ret, ↓AOps_nil, ↓AOps_pu, on_some, extK_same, condB_t, ↓then_normal, ↓then_ret, ↓Fin_ret, pval, rd_S, rd_C, put_S, resV, resL, List.replicate_succ, List.replicate_zero, List.set_cons_zero, List.set_cons_succ, List.getElem?_cons_zero, List.getElem?_cons_succ, Option.getD_some, Nat.reduceSub, List.cons_append, List.nil_append, bin_neq, if_false, decide_true, not_false_eq_true, h0]
    exact gc_same (by simp [])

theorem s34 {f : List (Int × Int)} {v : AV} {A : AHeap} (hf : L2 A v f) : ACalls Try.prog 34 [v] A (.tuple [I (if vE f = 0 then tot f else 0), I (vE f)]) A := by
  refine acalls hmix Try.func34 (by kernel_rfl) t34 1 rfl (by decide) ?_
  dsimp only [m34]
  simp (maxSteps := 4000000) -implicitDefEqProofs -dsimp (disch := omega) only [↓AW_ops, ↓AW_seq, ↓AOps_nil, ↓AOps_pu, ↓AOps_call, on_some, ↓then_normal, pval, rd_S, rd_C, put_S, List.replicate_succ, List.replicate_zero, List.set_cons_zero, List.set_cons_succ, List.getElem?_cons_zero, List.getElem?_cons_succ, Option.getD_some, map_c, map_n, Nat.reduceSub, List.cons_append, List.nil_append]
  refine CallK.of (s38 hf) ?_
  by_cases h0 : vE f = 0
  · simp (maxSteps := 4000000) -implicitDefEqProofs -dsimp (disch := omega) only [↓AW_skip, ↓AW_ops, ↓AW_seq, ↓AW_cond, ↓AOps_nil, ↓AOps_pu, ↓AOps_call, on_some, extK_same, condB_f, ↓then_normal, pval, rd_S, rd_C, put_S, eq_self, List.replicate_succ, List.replicate_zero, List.set_cons_zero, List.set_cons_succ, List.getElem?_cons_zero, List.getElem?_cons_succ, Option.getD_some, map_c, map_n, Nat.reduceSub, List.cons_append, List.nil_append, bin_neq, decide_false, not_true_eq_false, h0]
    refine CallK.of (s70 hf (good_of h0).1) ?_
    simp (maxSteps := 4000000) -implicitDefEqProofs -dsimp (disch := omega) only [↓AW_ret, ↓AOps_nil, ↓AOps_pu, on_some, extK_same, ↓then_normal, ↓Fin_ret, pval, rd_S, rd_C, put_S, resV, resL, List.replicate_succ, List.replicate_zero, List.set_cons_zero, List.set_cons_succ, List.getElem?_cons_zero, List.getElem?_cons_succ, Option.getD_some, Nat.reduceSub, List.cons_append, List.nil_append]
    exact gc_same (by simp [h0])
  · simp (maxSteps := 4000000) -implicitDefEqProofs -dsimp (disch := omega) only [↓AW_ops, ↓AW_seq, ↓AW_cond, ↓AW_ret, ↓AOps_nil, ↓AOps_pu, on_some, extK_same, condB_t, ↓then_normal, ↓then_ret, ↓Fin_ret, pval, rd_S, rd_C, put_S, resV, resL, List.replicate_succ, List.replicate_zero, List.set_cons_zero, List.set_cons_succ, List.getElem?_cons_zero, List.getElem?_cons_succ, Option.getD_some, Nat.reduceSub, List.cons_append, List.nil_append, bin_neq, if_false, decide_true, not_false_eq_true, h0]
    exact gc_same (by simp [])

def nrm (a b : Int) : AV := .agg [I (a.tdiv (Int.gcd a b)), I (b.tdiv (Int.gcd a b))]
def zeroR : AV := .agg [I 0, I 0]
def mean (f : List (Int × Int)) : AV := if vE f = 0 then nrm (tot f) (len f) else zeroR

theorem len_pos {f : List (Int × Int)} (h : vE f = 0) : 1 ≤ len f := by
  obtain ⟨hg, h1⟩ := good_of h
  cases f with
  | nil => simp at h1
  | cons z f =>
    have h2 := (vz_iff z).1 (List.all_eq_true.1 hg.2 z (by simp))
    have hg' : good f := ⟨by have := hg.1; simp at this; omega, List.all_eq_true.2 fun y hy => List.all_eq_true.1 hg.2 y (by simp [hy])⟩
    have h3 := len_bound hg'
    simp only [len, sumZ, List.map_cons, List.sum_cons] at *
    omega

theorem s35 {f : List (Int × Int)} {v : AV} {A : AHeap} (hf : L2 A v f) : ACalls Try.prog 35 [v] A (.tuple [mean f, I (vE f)]) A := by
  refine acalls hmix Try.func35 (by kernel_rfl) t35 1 rfl (by decide) ?_
  dsimp only [m35]
  simp (maxSteps := 4000000) -implicitDefEqProofs -dsimp (disch := omega) only [↓AW_ops, ↓AW_seq, ↓AOps_nil, ↓AOps_pu, ↓AOps_call, on_some, ↓then_normal, pval, rd_S, rd_C, put_S, AV.cells?, List.replicate_succ, List.replicate_zero, List.set_cons_zero, List.set_cons_succ, List.getElem?_cons_zero, List.getElem?_cons_succ, Option.getD_some, map_c, map_n, Nat.reduceSub, List.cons_append, List.nil_append]
  refine CallK.of (s37 hf) ?_
  by_cases h0 : vE f = 0
  · have hg := (good_of h0).1
    have h1 := len_pos h0
    have h2 := len_bound hg
    have h3 := tot_bound hg
    simp (maxSteps := 4000000) -implicitDefEqProofs -dsimp (disch := omega) only [↓AW_skip, ↓AW_ops, ↓AW_seq, ↓AW_cond, ↓AOps_nil, ↓AOps_pu, ↓AOps_call, on_some, extK_same, condB_f, ↓then_normal, pval, rd_S, rd_C, put_S, eq_self, List.replicate_succ, List.replicate_zero, List.set_cons_zero, List.set_cons_succ, List.getElem?_cons_zero, List.getElem?_cons_succ, Option.getD_some, map_c, map_n, Nat.reduceSub, List.cons_append, List.nil_append, bin_neq, decide_false, not_true_eq_false, h0]
    refine CallK.of (s65 hf hg) ?_
    simp (maxSteps := 4000000) -implicitDefEqProofs -dsimp (disch := omega) only [↓AOps_pu, ↓AOps_call, on_some, extK_same, pval, rd_S, put_S, List.replicate_succ, List.replicate_zero, List.set_cons_zero, List.set_cons_succ, List.getElem?_cons_zero, List.getElem?_cons_succ, Option.getD_some, map_c, map_n, Nat.reduceSub, List.cons_append, List.nil_append]
    refine CallK.of (s77 hf hg) ?_
    simp (maxSteps := 4000000) -implicitDefEqProofs -dsimp (disch := omega) only [↓AOps_call, extK_same, rd_S, put_S, List.replicate_succ, List.replicate_zero, List.set_cons_zero, List.set_cons_succ, List.getElem?_cons_zero, List.getElem?_cons_succ, Option.getD_some, map_c, map_n, Nat.reduceSub, List.cons_append, List.nil_append]
    refine CallK.of (s64 _ ⟨by omega, by omega⟩ (by omega) (by omega)) ?_
    simp (maxSteps := 4000000) -implicitDefEqProofs -dsimp (disch := omega) only [↓AW_ret, ↓AOps_nil, ↓AOps_pu, on_some, extK_same, ↓then_normal, ↓Fin_ret, pval, rd_S, rd_C, put_S, resV, resL, chkd, bput, bgot, AV.cells?, splice, partA, eq_self, List.replicate_succ, List.replicate_zero, List.set_cons_zero, List.set_cons_succ, List.getElem?_cons_zero, List.getElem?_cons_succ, List.drop_zero, List.drop_succ_cons, List.drop_nil, List.take_zero, List.take_succ_cons, List.take_nil, Option.getD_some, List.length_cons, List.length_nil, Nat.reduceAdd, Nat.reduceSub, Nat.reduceLeDiff, Nat.reduceEqDiff, Nat.zero_add, List.cons_append, List.nil_append, List.append_nil, if_true, if_false, ne_eq, not_true_eq_false]
    exact gc_same (by simp [mean, h0, nrm])
  · simp (maxSteps := 4000000) -implicitDefEqProofs -dsimp (disch := omega) only [↓AW_ops, ↓AW_seq, ↓AW_cond, ↓AW_ret, ↓AOps_nil, ↓AOps_pu, on_some, extK_same, condB_t, ↓then_normal, ↓then_ret, ↓Fin_ret, pval, rd_S, rd_C, put_S, resV, resL, chkd, bput, bgot, AV.cells?, splice, partA, fillA, eq_self, List.replicate_succ, List.replicate_zero, List.set_cons_zero, List.set_cons_succ, List.getElem?_cons_zero, List.getElem?_cons_succ, List.drop_zero, List.drop_succ_cons, List.drop_nil, List.take_zero, List.take_succ_cons, List.take_nil, Option.getD_some, Option.map_some, map_n, List.length_cons, List.length_nil, Nat.reduceAdd, Nat.reduceSub, Nat.reduceLeDiff, Nat.reduceEqDiff, Nat.zero_add, List.cons_append, List.nil_append, List.append_nil, bin_neq, if_true, if_false, decide_true, ne_eq, not_true_eq_false, not_false_eq_true, h0]
    exact gc_same (by simp [mean, h0, zeroR])

theorem s36 {f : List (Int × Int)} {v : AV} {A : AHeap} (hf : L2 A v f) : ACalls Try.prog 36 [v] A (.tuple [mean f, I (vE f)]) A := by
  refine acalls hmix Try.func36 (by kernel_rfl) t36 1 rfl (by decide) ?_
  dsimp only [m36]
  simp (maxSteps := 4000000) -implicitDefEqProofs -dsimp (disch := omega) only [↓AW_ops, ↓AW_seq, ↓AOps_nil, ↓AOps_pu, ↓AOps_call, on_some, ↓then_normal, pval, rd_S, rd_C, put_S, AV.cells?, List.replicate_succ, List.replicate_zero, List.set_cons_zero, List.set_cons_succ, List.getElem?_cons_zero, List.getElem?_cons_succ, Option.getD_some, map_c, map_n, Nat.reduceSub, List.cons_append, List.nil_append]
  refine CallK.of (s38 hf) ?_
  by_cases h0 : vE f = 0
  · have hg := (good_of h0).1
    have h1 := len_pos h0
    have h2 := len_bound hg
    have h3 := tot_bound hg
    simp (maxSteps := 4000000) -implicitDefEqProofs -dsimp (disch := omega) only [↓AW_skip, ↓AW_ops, ↓AW_seq, ↓AW_cond, ↓AOps_nil, ↓AOps_pu, ↓AOps_call, on_some, extK_same, condB_f, ↓then_normal, pval, rd_S, rd_C, put_S, eq_self, List.replicate_succ, List.replicate_zero, List.set_cons_zero, List.set_cons_succ, List.getElem?_cons_zero, List.getElem?_cons_succ, Option.getD_some, map_c, map_n, Nat.reduceSub, List.cons_append, List.nil_append, bin_neq, decide_false, not_true_eq_false, h0]
    refine CallK.of (s70 hf hg) ?_
    simp (maxSteps := 4000000) -implicitDefEqProofs -dsimp (disch := omega) only [↓AOps_pu, ↓AOps_call, on_some, extK_same, pval, rd_S, put_S, List.replicate_succ, List.replicate_zero, List.set_cons_zero, List.set_cons_succ, List.getElem?_cons_zero, List.getElem?_cons_succ, Option.getD_some, map_c, map_n, Nat.reduceSub, List.cons_append, List.nil_append]
    refine CallK.of (s68 hf hg) ?_
    simp (maxSteps := 4000000) -implicitDefEqProofs -dsimp (disch := omega) only [↓AOps_pu, ↓AOps_call, on_some, extK_false, pval, rd_S, put_S, List.replicate_succ, List.replicate_zero, List.set_cons_zero, List.set_cons_succ, List.getElem?_cons_zero, List.getElem?_cons_succ, Option.getD_some, map_c, map_n, Nat.reduceSub, List.cons_append, List.nil_append, (Ls_out A e1_len (units f)).len, len_units hg.2]
    refine CallK.of (s69 _ ⟨by omega, by omega⟩ (by omega) (by omega) (by omega)) ?_
    simp (maxSteps := 4000000) -implicitDefEqProofs -dsimp (disch := omega) only [↓AW_ret, ↓AOps_nil, ↓AOps_pu, on_some, extK_same, ↓then_normal, ↓Fin_ret, pval, rd_S, rd_C, put_S, resV, resL, chkd, bput, bgot, AV.cells?, splice, partA, eq_self, List.replicate_succ, List.replicate_zero, List.set_cons_zero, List.set_cons_succ, List.getElem?_cons_zero, List.getElem?_cons_succ, List.drop_zero, List.drop_succ_cons, List.drop_nil, List.take_zero, List.take_succ_cons, List.take_nil, Option.getD_some, List.length_cons, List.length_nil, Nat.reduceAdd, Nat.reduceSub, Nat.reduceLeDiff, Nat.reduceEqDiff, Nat.zero_add, List.cons_append, List.nil_append, List.append_nil, if_true, if_false, ne_eq, not_true_eq_false]
    exact gc_val (pre_out _ _ _) (by simp [mean, h0, nrm, ren])
  · simp (maxSteps := 4000000) -implicitDefEqProofs -dsimp (disch := omega) only [↓AW_ops, ↓AW_seq, ↓AW_cond, ↓AW_ret, ↓AOps_nil, ↓AOps_pu, on_some, extK_same, condB_t, ↓then_normal, ↓then_ret, ↓Fin_ret, pval, rd_S, rd_C, put_S, resV, resL, chkd, bput, bgot, AV.cells?, splice, partA, fillA, eq_self, List.replicate_succ, List.replicate_zero, List.set_cons_zero, List.set_cons_succ, List.getElem?_cons_zero, List.getElem?_cons_succ, List.drop_zero, List.drop_succ_cons, List.drop_nil, List.take_zero, List.take_succ_cons, List.take_nil, Option.getD_some, Option.map_some, map_n, List.length_cons, List.length_nil, Nat.reduceAdd, Nat.reduceSub, Nat.reduceLeDiff, Nat.reduceEqDiff, Nat.zero_add, List.cons_append, List.nil_append, List.append_nil, bin_neq, if_true, if_false, decide_true, ne_eq, not_true_eq_false, not_false_eq_true, h0]
    exact gc_same (by simp [mean, h0, zeroR])

theorem mean_agg (f : List (Int × Int)) : ∃ a b, mean f = .agg [I a, I b] := by
  unfold mean nrm zeroR; split <;> exact ⟨_, _, rfl⟩

set_option maxRecDepth 100000 in
set_option maxHeartbeats 4000000 in
theorem s7 {f : List (Int × Int)} {v : AV} {A : AHeap} (hf : L2 A v f) : ACalls Try.prog 7 [v] A (B true) A := by
  refine acalls hmix Try.func7 (by kernel_rfl) t7 1 rfl (by decide) ?_
  dsimp only [m7]
  simp (maxSteps := 4000000) -implicitDefEqProofs -dsimp (disch := omega) only [↓AW_ops, ↓AW_seq, ↓AOps_nil, ↓AOps_pu, ↓AOps_call, on_some, ↓then_normal, pval, rd_S, rd_C, put_S, List.replicate_succ, List.replicate_zero, List.set_cons_zero, List.set_cons_succ, List.getElem?_cons_zero, List.getElem?_cons_succ, Option.getD_some, map_c, map_n, Nat.reduceSub, List.cons_append, List.nil_append]
  refine CallK.of (s18 hf (L2_nil A)) ?_
  by_cases h : (100 : Int) < f.length
  · simp (maxSteps := 4000000) -implicitDefEqProofs -dsimp (disch := omega) only [↓AW_ops, ↓AW_seq, ↓AW_cond, ↓AOps_nil, ↓AOps_call, extK_same, condB_t, ↓then_normal, rd_S, put_S, List.replicate_succ, List.replicate_zero, List.set_cons_zero, List.set_cons_succ, List.getElem?_cons_zero, List.getElem?_cons_succ, Option.getD_some, map_n, List.length_nil, Nat.reduceSub, List.cons_append, List.nil_append, decide_true, h, true_or]
    refine CallK.of (known A) ?_
    simp (maxSteps := 4000000) -implicitDefEqProofs -dsimp (disch := omega) only [↓AW_ret, ↓AOps_nil, ↓AOps_pu, on_some, extK_same, ↓then_normal, ↓then_ret, ↓Fin_ret, pval, rd_S, put_S, resV, resL, List.replicate_succ, List.replicate_zero, List.set_cons_zero, List.set_cons_succ, List.getElem?_cons_zero, List.getElem?_cons_succ, Option.getD_some, List.length_nil, Nat.reduceSub, List.cons_append, List.nil_append]
    exact gc_same rfl
  · obtain ⟨a, b, hm⟩ := mean_agg f
    simp (maxSteps := 4000000) -implicitDefEqProofs -dsimp (disch := omega) only [↓AW_skip, ↓AW_ops, ↓AW_seq, ↓AW_cond, ↓AOps_nil, ↓AOps_pu, ↓AOps_call, on_some, extK_same, condB_f, ↓then_normal, pval, rd_S, put_S, List.replicate_succ, List.replicate_zero, List.set_cons_zero, List.set_cons_succ, List.getElem?_cons_zero, List.getElem?_cons_succ, Option.getD_some, map_c, map_n, List.length_nil, Nat.reduceSub, List.cons_append, List.nil_append, decide_false, Int.reduceLT, h, false_or, Int.cast_ofNat_Int]
    refine CallK.of (s31 hf) ?_
    simp (maxSteps := 4000000) -implicitDefEqProofs -dsimp (disch := omega) only [↓AW_ops, ↓AW_seq, ↓AOps_nil, ↓AOps_pu, ↓AOps_call, on_some, extK_same, ↓then_normal, pval, rd_S, put_S, List.replicate_succ, List.replicate_zero, List.set_cons_zero, List.set_cons_succ, List.getElem?_cons_zero, List.getElem?_cons_succ, Option.getD_some, map_c, map_n, List.length_nil, Nat.reduceSub, List.cons_append, List.nil_append]
    refine CallK.of (s32 hf) ?_
    simp (maxSteps := 4000000) -implicitDefEqProofs -dsimp (disch := omega) only [↓AW_ops, ↓AW_seq, ↓AOps_nil, ↓AOps_pu, ↓AOps_call, on_some, extK_same, ↓then_normal, pval, rd_S, put_S, List.replicate_succ, List.replicate_zero, List.set_cons_zero, List.set_cons_succ, List.getElem?_cons_zero, List.getElem?_cons_succ, Option.getD_some, map_c, map_n, List.length_nil, Nat.reduceSub, List.cons_append, List.nil_append]
    refine CallK.of (s33 hf) ?_
    simp (maxSteps := 4000000) -implicitDefEqProofs -dsimp (disch := omega) only [↓AW_ops, ↓AW_seq, ↓AOps_nil, ↓AOps_pu, ↓AOps_call, on_some, extK_same, ↓then_normal, pval, rd_S, put_S, List.replicate_succ, List.replicate_zero, List.set_cons_zero, List.set_cons_succ, List.getElem?_cons_zero, List.getElem?_cons_succ, Option.getD_some, map_c, map_n, List.length_nil, Nat.reduceSub, List.cons_append, List.nil_append]
    refine CallK.of (s34 hf) ?_
    simp (maxSteps := 4000000) -implicitDefEqProofs -dsimp (disch := omega) only [↓AW_ops, ↓AW_seq, ↓AOps_nil, ↓AOps_pu, ↓AOps_call, on_some, extK_same, ↓then_normal, pval, rd_S, put_S, List.replicate_succ, List.replicate_zero, List.set_cons_zero, List.set_cons_succ, List.getElem?_cons_zero, List.getElem?_cons_succ, Option.getD_some, map_c, map_n, List.length_nil, Nat.reduceSub, List.cons_append, List.nil_append]
    refine CallK.of (s35 hf) ?_
    simp (maxSteps := 4000000) -implicitDefEqProofs -dsimp (disch := omega) only [↓AW_ops, ↓AW_seq, ↓AOps_nil, ↓AOps_pu, ↓AOps_call, on_some, extK_same, ↓then_normal, pval, rd_S, rd_C, put_S, chkd, bput, AV.cells?, splice, eq_self, List.replicate_succ, List.replicate_zero, List.set_cons_zero, List.set_cons_succ, List.getElem?_cons_zero, List.getElem?_cons_succ, List.drop_succ_cons, List.drop_nil, List.take_zero, Option.getD_some, map_c, map_n, List.length_cons, List.length_nil, Nat.reduceAdd, Nat.reduceSub, Nat.reduceLeDiff, Nat.zero_add, List.cons_append, List.nil_append, List.append_nil, if_true, if_false, ne_eq, not_true_eq_false, hm]
    refine CallK.of (s36 hf) ?_
    simp (maxSteps := 4000000) -implicitDefEqProofs -dsimp (disch := omega) only [↓AW_ops, ↓AW_seq, ↓AOps_nil, ↓AOps_pu, ↓AOps_call, on_some, extK_same, ↓then_normal, pval, rd_S, rd_C, put_S, chkd, bput, AV.cells?, splice, eq_self, List.replicate_succ, List.replicate_zero, List.set_cons_zero, List.set_cons_succ, List.getElem?_cons_zero, List.getElem?_cons_succ, List.drop_succ_cons, List.drop_nil, List.take_zero, Option.getD_some, map_c, map_n, List.length_cons, List.length_nil, Nat.reduceAdd, Nat.reduceSub, Nat.reduceLeDiff, Nat.zero_add, List.cons_append, List.nil_append, List.append_nil, if_true, if_false, ne_eq, not_true_eq_false, hm]
    refine CallK.of (s37 hf) ?_
    simp (maxSteps := 4000000) -implicitDefEqProofs -dsimp (disch := omega) only [↓AOps_pu, ↓AOps_call, on_some, extK_same, pval, rd_S, put_S, List.replicate_succ, List.replicate_zero, List.set_cons_zero, List.set_cons_succ, List.getElem?_cons_zero, List.getElem?_cons_succ, Option.getD_some, map_c, map_n, List.length_nil, Nat.reduceSub, List.cons_append, List.nil_append]
    refine CallK.of (s38 hf) ?_
    simp (maxSteps := 4000000) -implicitDefEqProofs -dsimp (disch := omega) only [↓AOps_pu, ↓AOps_call, ↓AOps_guard, on_some, extK_same, guardB_tt, pval, rd_S, rd_C, put_S, chkd, bgot, partA, eqc, beq_self_eq_true, eq_self, List.replicate_succ, List.replicate_zero, List.set_cons_zero, List.set_cons_succ, List.getElem?_cons_zero, List.getElem?_cons_succ, List.drop_zero, List.take_succ_cons, List.take_nil, Option.getD_some, Option.map_some, map_n, List.length_cons, List.length_nil, Nat.reduceAdd, Nat.reduceSub, Nat.reduceLeDiff, Nat.reduceEqDiff, Nat.zero_add, List.cons_append, List.nil_append, bin_eql, if_true, if_false, Bool.false_eq_true, Bool.true_and, decide_true]
    refine CallK.of (known A) ?_
    simp (maxSteps := 4000000) -implicitDefEqProofs -dsimp (disch := omega) only [↓AW_ret, ↓AOps_nil, ↓AOps_pu, on_some, extK_same, ↓then_normal, ↓Fin_ret, pval, rd_S, rd_C, put_S, resV, resL, eq_self, List.replicate_succ, List.replicate_zero, List.set_cons_zero, List.set_cons_succ, List.getElem?_cons_zero, List.getElem?_cons_succ, Option.getD_some, List.length_nil, Nat.reduceSub, List.cons_append, List.nil_append, if_true]
    exact gc_same rfl

end Go.Proofs.Ytnnbggcckabhdaa
