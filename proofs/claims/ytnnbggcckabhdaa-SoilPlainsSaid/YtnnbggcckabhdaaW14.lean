/- Soil: where a piece is worth most. No conditions. -/
import Derived.Test.YtnnbggcckabhdaaW13
namespace Go.Proofs.Ytnnbggcckabhdaa
open Go Go.Eng

theorem upToU_nat (us : List Int) (n : Nat) (hn : n ≤ us.length) : upToU 0 us ((n : Int) : Rat) = (((us.take n).sum : Int) : Rat) := by
  have h := upToU_at ((n : Int) : Rat) us 0 n (by rw [Int.zero_add]; exact Rat.le_refl) (by rw [Int.zero_add]; exact Rat.intCast_lt_intCast.2 (by omega)) hn
  rw [h, Int.zero_add]
  split
  · grind
  · grind

theorem upTo_nat {f : List (Int × Int)} (hg : good f) (n : Nat) (hn : (n : Int) ≤ len f) : upTo 0 f ((n : Int) : Rat) = ((((units f).take n).sum : Int) : Rat) := by
  have hl := len_units hg.2
  rw [← upTo_units _ f 0 hg.2]
  exact upToU_nat _ n (by omega)

/-- What a piece of a length is worth, from a whole place on. -/
def sm (us : List Int) (n a : Nat) : Int := (us.take (a + n)).sum - (us.take a).sum
/-- The first best one. -/
def bst (us : List Int) (n : Nat) : Nat → Nat × Int
  | 0 => (0, sm us n 0)
  | k + 1 => if (bst us n k).2 < sm us n (k + 1) then (k + 1, sm us n (k + 1)) else bst us n k

theorem bst_max (us : List Int) (n : Nat) : ∀ k j, j ≤ k → sm us n j ≤ (bst us n k).2
  | 0, j, h => by
    have : j = 0 := by omega
    subst this; exact Int.le_refl _
  | k + 1, j, h => by
    unfold bst
    by_cases hj : j = k + 1
    · subst hj
      split
      · exact Int.le_refl _
      · omega
    · have := bst_max us n k j (by omega)
      split
      · simp only; omega
      · exact this
theorem bst_at (us : List Int) (n : Nat) : ∀ k, (bst us n k).1 ≤ k ∧ (bst us n k).2 = sm us n (bst us n k).1
  | 0 => ⟨Nat.le_refl _, rfl⟩
  | k + 1 => by
    have := bst_at us n k
    unfold bst
    split
    · exact ⟨Nat.le_refl _, rfl⟩
    · exact ⟨by omega, this.2⟩

theorem sum_take_add (us : List Int) (a n : Nat) : (us.take (a + n)).sum = (us.take a).sum + ((us.drop a).take n).sum := by
  rw [List.take_add, List.sum_append]
theorem sm_bounds {us : List Int} (hb : ∀ y ∈ us, 0 ≤ y ∧ y ≤ 20) (hl : us.length ≤ 120) (n a : Nat) : 0 ≤ sm us n a ∧ sm us n a ≤ 2400 := by
  unfold sm
  rw [sum_take_add]
  have := sumB (l := (us.drop a).take n) (fun y hy => hb y (List.mem_of_mem_drop (List.mem_of_mem_take hy)))
  have hl2 : ((us.drop a).take n).length ≤ 120 := by rw [List.length_take, List.length_drop]; omega
  omega

def dE (f : List (Int × Int)) (L : Int) : Int := if vE f = 0 then (if 0 ≤ L ∧ L ≤ len f then 0 else 1) else vE f
def dP (f : List (Int × Int)) (L : Int) : AV := if dE f L = 0 then R (((bst (units f) L.toNat (len f - L).toNat).1 : Int) : Rat) else zeroR
def dW (f : List (Int × Int)) (L : Int) : AV := if dE f L = 0 then R (((bst (units f) L.toNat (len f - L).toNat).2 : Int) : Rat) else zeroR

theorem Pl_int {f : List (Int × Int)} {n : Int} (h0 : 0 ≤ n) (h1 : n ≤ len f) : Pl f (n : Rat) := by
  refine ⟨⟨h0, ?_⟩, ?_⟩
  · show n ≤ len f * (1 : Int)
    omega
  · show (1 : Int) ≤ 1048576
    decide

theorem s73n {f : List (Int × Int)} {v : AV} {A : AHeap} (hf : L2 A v f) (hg : good f) (a n : Nat) (h : (a : Int) + n ≤ len f) : ACalls Try.prog 73 [v, R ((a : Int) : Rat), R (((a : Int) + n : Int) : Rat)] A (R ((sm (units f) n a : Int) : Rat)) A := by
  have h1 := s73 hf hg ((a : Int) : Rat) (((a : Int) + n : Int) : Rat) (Pl_int (by omega) (by omega)) (Pl_int (by omega) h) (Rat.intCast_le_intCast.2 (by omega))
  have e1 := upTo_nat hg a (by omega)
  have e2 := upTo_nat hg (a + n) (by omega)
  rw [Int.natCast_add] at e2
  rw [e1, e2, ← Rat.intCast_sub] at h1
  exact h1

theorem s28 {f : List (Int × Int)} {v : AV} {A : AHeap} (hf : L2 A v f) (L : Int) (hL : W L) : ACalls Try.prog 28 [v, I L] A (.tuple [dP f L, dW f L, I (dE f L)]) A := by
  refine acalls hmix Try.func28 (by kernel_rfl) t28 2 rfl (by decide) ?_
  dsimp only [m28]
  simp (maxSteps := 4000000) -implicitDefEqProofs -dsimp (disch := omega) only [↓AW_ops, ↓AW_seq, ↓AOps_nil, ↓AOps_pu, ↓AOps_call, on_some, ↓then_normal, pval, rd_S, rd_C, put_S, AV.cells?, List.replicate_succ, List.replicate_zero, List.set_cons_zero, List.set_cons_succ, List.getElem?_cons_zero, List.getElem?_cons_succ, Option.getD_some, map_c, map_n, Nat.reduceSub, List.cons_append, List.nil_append]
  refine CallK.of (s37 hf) ?_
  by_cases h0 : vE f = 0
  · have hg := (good_of h0).1
    have hlb := len_bound hg
    have hlu := len_units hg.2
    have hub := units_le hg.2
    simp (maxSteps := 4000000) -implicitDefEqProofs -dsimp (disch := omega) only [↓AW_skip, ↓AW_ops, ↓AW_seq, ↓AW_cond, ↓AOps_nil, ↓AOps_pu, ↓AOps_call, on_some, extK_same, condB_f, ↓then_normal, pval, rd_S, rd_C, put_S, eq_self, List.replicate_succ, List.replicate_zero, List.set_cons_zero, List.set_cons_succ, List.getElem?_cons_zero, List.getElem?_cons_succ, Option.getD_some, map_c, map_n, Nat.reduceSub, List.cons_append, List.nil_append, bin_neq, decide_false, not_true_eq_false, h0]
    refine CallK.of (s77 hf hg) ?_
    simp (maxSteps := 4000000) -implicitDefEqProofs -dsimp (disch := omega) only [↓AOps_call, extK_same, rd_S, rd_C, put_S, List.replicate_succ, List.replicate_zero, List.set_cons_zero, List.set_cons_succ, List.getElem?_cons_zero, List.getElem?_cons_succ, Option.getD_some, map_c, map_n, Nat.reduceSub, List.cons_append, List.nil_append]
    refine CallK.of (s61 _ _ _ _) ?_
    by_cases h1 : 0 ≤ L ∧ L ≤ len f
    · have hE : dE f L = 0 := by simp [dE, h0, h1]
      obtain ⟨n, rfl⟩ : ∃ n : Nat, L = n := ⟨L.toNat, by omega⟩
      simp (maxSteps := 4000000) -implicitDefEqProofs -dsimp (disch := omega) only [↓AW_skip, ↓AW_ops, ↓AW_seq, ↓AW_cond, ↓AOps_nil, ↓AOps_pu, ↓AOps_call, on_some, extK_same, condB_f, ↓then_normal, pval, rd_S, rd_C, put_S, List.replicate_succ, List.replicate_zero, List.set_cons_zero, List.set_cons_succ, List.getElem?_cons_zero, List.getElem?_cons_succ, Option.getD_some, map_c, map_n, Nat.reduceSub, List.cons_append, List.nil_append, Bool.not_true, decide_true, and_true, h1]
      refine CallK.of (s78 _ _) ?_
      simp (maxSteps := 4000000) -implicitDefEqProofs -dsimp (disch := omega) only [↓AOps_pu, ↓AOps_call, on_some, extK_same, pval, rd_S, rd_C, put_S, List.replicate_succ, List.replicate_zero, List.set_cons_zero, List.set_cons_succ, List.getElem?_cons_zero, Option.getD_some, map_c, map_n, Nat.reduceSub, List.cons_append, List.nil_append]
      refine CallK.of (s78 _ _) ?_
      simp (maxSteps := 4000000) -implicitDefEqProofs -dsimp (disch := omega) only [↓AOps_pu, ↓AOps_call, on_some, extK_same, pval, rd_S, put_S, List.replicate_succ, List.replicate_zero, List.set_cons_zero, List.set_cons_succ, List.getElem?_cons_zero, List.getElem?_cons_succ, Option.getD_some, map_c, map_n, Nat.reduceSub, List.cons_append, List.nil_append]
      refine CallK.of (s78 _ _) ?_
      simp (maxSteps := 4000000) -implicitDefEqProofs -dsimp (disch := omega) only [↓AOps_call, extK_same, rd_S, put_S, List.replicate_succ, List.replicate_zero, List.set_cons_zero, List.set_cons_succ, List.getElem?_cons_zero, List.getElem?_cons_succ, Option.getD_some, map_c, map_n, Nat.reduceSub, List.cons_append, List.nil_append]
      have h73 := s73n hf hg 0 n (by omega)
      rw [show (((0 : Nat) : Int) + (n : Int)) = (n : Int) by omega] at h73
      refine CallK.of h73 ?_
      simp (maxSteps := 4000000) -implicitDefEqProofs -dsimp (disch := omega) only [↓AW_ops, ↓AW_seq, ↓AW_block, ↓AOps_nil, ↓AOps_pu, on_some, extK_same, ↓then_normal, pval, rd_S, rd_C, put_S, ↓AW_toLoop, chkd, bput, AV.cells?, splice, eq_self, List.replicate_succ, List.replicate_zero, List.set_cons_zero, List.set_cons_succ, List.getElem?_cons_zero, List.getElem?_cons_succ, List.drop_succ_cons, List.drop_nil, List.take_zero, Option.getD_some, List.length_cons, List.length_nil, Nat.reduceAdd, Nat.reduceSub, Nat.reduceLeDiff, Nat.zero_add, List.cons_append, List.nil_append, List.append_nil, if_true, if_false, ne_eq, not_true_eq_false]
      refine LoopK.by 57 (fun k : Nat => (k : Int) + n ≤ len f) (fun k => [(0, v), (1, I n), (4, .agg [I 0, I 0]), (5, .agg [I 0, I 0]), (8, R (((bst (units f) n k).1 : Int) : Rat)), (9, R (((bst (units f) n k).2 : Int) : Rat)), (10, I (k + 1))]) (fun _ => A) (fun k => (len f).toNat - k) 0 (by omega) rfl (by simp [Has, rd_s, bst]) rfl ?_
      intro k hk
      have hbb := bst_at (units f) n k
      have hsb := sm_bounds hub (by omega) n (bst (units f) n k).1
      have hsk := sm_bounds hub (by omega) n (k + 1)
      simp (maxSteps := 4000000) -implicitDefEqProofs -dsimp (disch := omega) only [↓AW_ops, ↓AW_seq, ↓AOps_pu, ↓AOps_call, on_some, pval, rd_S, put_S, mk, List.foldl_cons, List.foldl_nil, List.replicate_succ, List.replicate_zero, List.set_cons_zero, List.set_cons_succ, List.getElem?_cons_zero, List.getElem?_cons_succ, Option.getD_some, map_c, map_n, bin_add, w64]
      refine CallK.of (s77 hf hg) ?_
      simp (maxSteps := 4000000) -implicitDefEqProofs -dsimp (disch := omega) only [↓AW_cond, ↓AOps_nil, ↓AOps_pu, on_some, extK_same, ↓then_normal, pval, rd_S, put_S, mk, List.foldl_cons, List.foldl_nil, List.replicate_succ, List.replicate_zero, List.set_cons_zero, List.set_cons_succ, List.getElem?_cons_zero, List.getElem?_cons_succ, Option.getD_some, bin_leq]
      by_cases h2 : (k : Int) + 1 + n ≤ len f
      · simp (maxSteps := 4000000) -implicitDefEqProofs -dsimp (disch := omega) only [↓AW_skip, ↓AW_ops, ↓AW_seq, ↓AW_block, ↓AOps_pu, ↓AOps_call, on_some, condB_t, ↓then_normal, pval, rd_S, put_S, mk, List.foldl_cons, List.foldl_nil, List.replicate_succ, List.replicate_zero, List.set_cons_zero, List.set_cons_succ, List.getElem?_cons_zero, List.getElem?_cons_succ, Option.getD_some, map_c, map_n, decide_true, h2]
        refine CallK.of (s78 _ _) ?_
        simp (maxSteps := 4000000) -implicitDefEqProofs -dsimp (disch := omega) only [↓AOps_pu, ↓AOps_call, on_some, extK_same, pval, rd_S, put_S, mk, List.foldl_cons, List.foldl_nil, List.replicate_succ, List.replicate_zero, List.set_cons_zero, List.set_cons_succ, List.getElem?_cons_zero, List.getElem?_cons_succ, Option.getD_some, map_c, map_n, bin_add, w64]
        refine CallK.of (s78 _ _) ?_
        simp (maxSteps := 4000000) -implicitDefEqProofs -dsimp (disch := omega) only [↓AOps_call, extK_same, rd_S, put_S, mk, List.foldl_cons, List.foldl_nil, List.replicate_succ, List.replicate_zero, List.set_cons_zero, List.set_cons_succ, List.getElem?_cons_zero, List.getElem?_cons_succ, Option.getD_some, map_c, map_n]
        have h73 := s73n hf hg (k + 1) n (by omega)
        rw [Int.natCast_add] at h73
        refine CallK.of h73 ?_
        simp (maxSteps := 4000000) -implicitDefEqProofs -dsimp (disch := omega) only [↓AW_ops, ↓AW_seq, ↓AOps_nil, ↓AOps_pu, ↓AOps_call, on_some, extK_same, ↓then_normal, pval, rd_S, rd_C, put_S, chkd, bput, bgot, AV.cells?, splice, partA, eq_self, mk, List.foldl_cons, List.foldl_nil, List.replicate_succ, List.replicate_zero, List.set_cons_zero, List.set_cons_succ, List.getElem?_cons_zero, List.getElem?_cons_succ, List.drop_zero, List.drop_succ_cons, List.drop_nil, List.take_zero, List.take_succ_cons, List.take_nil, Option.getD_some, map_c, map_n, List.length_cons, List.length_nil, Nat.reduceAdd, Nat.reduceLeDiff, Nat.reduceEqDiff, Nat.zero_add, List.nil_append, List.append_nil, if_true, if_false, ne_eq, not_true_eq_false]
        refine CallK.of (s72 _ _ _ (Sm_int (by omega)) (Sm_int (by omega))) ?_
        by_cases h3 : (bst (units f) n k).2 < sm (units f) n (k + 1)
        · have hn := (sub_pos_iff ((sm (units f) n (k + 1) : Int) : Rat) (((bst (units f) n k).2 : Int) : Rat)).2 (Rat.intCast_lt_intCast.2 h3)
          have hbs : bst (units f) n (k + 1) = (k + 1, sm (units f) n (k + 1)) := by rw [bst, if_pos h3]
          simp (maxSteps := 4000000) -implicitDefEqProofs -dsimp (disch := omega) only [↓AW_ops, ↓AW_cond, ↓AOps_nil, ↓AOps_pu, ↓AOps_call, on_some, extK_same, condB_t, ↓then_normal, pval, rd_S, rd_C, put_S, mk, List.foldl_cons, List.foldl_nil, List.replicate_succ, List.replicate_zero, List.set_cons_zero, List.set_cons_succ, List.getElem?_cons_zero, List.getElem?_cons_succ, Option.getD_some, map_c, map_n, bin_gtr, decide_true, hn]
          refine CallK.of (s78 _ _) ?_
          simp (maxSteps := 4000000) -implicitDefEqProofs -dsimp (disch := omega) only [↓AW_ops, ↓AOps_nil, ↓AOps_pu, on_some, extK_same, ↓then_normal, ↓inBlock_normal, pval, rd_S, rd_C, put_S, chkd, bput, bgot, AV.cells?, splice, partA, eq_self, mk, List.foldl_cons, List.foldl_nil, List.replicate_succ, List.replicate_zero, List.set_cons_zero, List.set_cons_succ, List.getElem?_cons_zero, List.getElem?_cons_succ, List.drop_zero, List.drop_succ_cons, List.drop_nil, List.take_zero, List.take_succ_cons, List.take_nil, Option.getD_some, List.length_cons, List.length_nil, Nat.reduceAdd, Nat.reduceLeDiff, Nat.reduceEqDiff, Nat.zero_add, List.nil_append, List.append_nil, bin_add, w64, if_true, if_false, true_and, ne_eq, not_true_eq_false]
          exact ⟨k + 1, by omega, by simp [Has, rd_s, hbs], by omega⟩
        · have hn : ¬ 0 < (((sm (units f) n (k + 1) : Int) : Rat) - (((bst (units f) n k).2 : Int) : Rat)).num := fun x => h3 (Rat.intCast_lt_intCast.1 ((sub_pos_iff _ _).1 x))
          have hbs : bst (units f) n (k + 1) = bst (units f) n k := by rw [bst, if_neg h3]
          simp (maxSteps := 4000000) -implicitDefEqProofs -dsimp (disch := omega) only [↓AW_skip, ↓AW_ops, ↓AW_cond, ↓AOps_nil, ↓AOps_pu, on_some, extK_same, condB_f, ↓then_normal, ↓inBlock_normal, pval, rd_S, rd_C, put_S, eq_self, mk, List.foldl_cons, List.foldl_nil, List.replicate_succ, List.replicate_zero, List.set_cons_zero, List.set_cons_succ, List.getElem?_cons_zero, List.getElem?_cons_succ, Option.getD_some, List.length_cons, List.length_nil, Nat.reduceAdd, Nat.zero_add, bin_add, bin_gtr, w64, decide_false, true_and, hn]
          exact ⟨k + 1, by omega, by simp [Has, rd_s, hbs], by omega⟩
      · have hk2 : (len f - (n : Int)).toNat = k := by omega
        simp (maxSteps := 4000000) -implicitDefEqProofs -dsimp (disch := omega) only [↓AW_ops, ↓AW_seq, ↓AW_exit, ↓AW_ret, ↓AOps_nil, ↓AOps_pu, on_some, condB_f, ↓then_normal, ↓then_exit, ↓inBlock_exit, ↓Fin_ret, pval, rd_S, rd_C, put_S, resV, resL, chkd, bput, bgot, AV.cells?, splice, partA, eq_self, mk, List.foldl_cons, List.foldl_nil, List.replicate_succ, List.replicate_zero, List.set_cons_zero, List.set_cons_succ, List.getElem?_cons_zero, List.getElem?_cons_succ, List.drop_zero, List.drop_succ_cons, List.drop_nil, List.take_zero, List.take_succ_cons, List.take_nil, Option.getD_some, List.length_cons, List.length_nil, Nat.reduceAdd, Nat.reduceLeDiff, Nat.reduceEqDiff, Nat.zero_add, List.nil_append, List.append_nil, if_true, if_false, decide_false, ne_eq, not_true_eq_false, h2]
        exact gc_same (by simp [dP, dW, hE, hk2])
    · simp (maxSteps := 4000000) -implicitDefEqProofs -dsimp (disch := omega) only [↓AW_ops, ↓AW_seq, ↓AW_cond, ↓AW_ret, ↓AOps_nil, ↓AOps_pu, on_some, extK_same, condB_t, ↓then_normal, ↓then_ret, ↓Fin_ret, pval, rd_S, rd_C, put_S, resV, resL, chkd, bput, bgot, AV.cells?, splice, partA, fillA, eq_self, List.replicate_succ, List.replicate_zero, List.set_cons_zero, List.set_cons_succ, List.getElem?_cons_zero, List.getElem?_cons_succ, List.drop_zero, List.drop_succ_cons, List.drop_nil, List.take_zero, List.take_succ_cons, List.take_nil, Option.getD_some, Option.map_some, map_n, List.length_cons, List.length_nil, Nat.reduceAdd, Nat.reduceSub, Nat.reduceLeDiff, Nat.reduceEqDiff, Nat.zero_add, List.cons_append, List.nil_append, List.append_nil, if_true, if_false, Bool.not_false, decide_false, ne_eq, not_true_eq_false, h1]
      have hE : dE f L = 1 := by simp [dE, h0, h1]
      exact gc_same (by simp [dP, dW, hE, zeroR])
  · simp (maxSteps := 4000000) -implicitDefEqProofs -dsimp (disch := omega) only [↓AW_ops, ↓AW_seq, ↓AW_cond, ↓AW_ret, ↓AOps_nil, ↓AOps_pu, on_some, extK_same, condB_t, ↓then_normal, ↓then_ret, ↓Fin_ret, pval, rd_S, rd_C, put_S, resV, resL, chkd, bput, bgot, AV.cells?, splice, partA, fillA, eq_self, List.replicate_succ, List.replicate_zero, List.set_cons_zero, List.set_cons_succ, List.getElem?_cons_zero, List.getElem?_cons_succ, List.drop_zero, List.drop_succ_cons, List.drop_nil, List.take_zero, List.take_succ_cons, List.take_nil, Option.getD_some, Option.map_some, map_n, List.length_cons, List.length_nil, Nat.reduceAdd, Nat.reduceSub, Nat.reduceLeDiff, Nat.reduceEqDiff, Nat.zero_add, List.cons_append, List.nil_append, List.append_nil, bin_neq, if_true, if_false, decide_true, ne_eq, not_true_eq_false, not_false_eq_true, h0]
    have hE : dE f L = vE f := by simp [dE, h0]
    exact gc_same (by simp [dP, dW, hE, h0, zeroR])

theorem s29 {f : List (Int × Int)} {v : AV} {A : AHeap} (hf : L2 A v f) (L : Int) (hL : W L) : ACalls Try.prog 29 [v, I L] A (.tuple [dP f L, dW f L, I (dE f L)]) A := by
  refine acalls hmix Try.func29 (by kernel_rfl) t29 2 rfl (by decide) ?_
  dsimp only [m29]
  simp (maxSteps := 4000000) -implicitDefEqProofs -dsimp (disch := omega) only [↓AW_ops, ↓AW_seq, ↓AOps_nil, ↓AOps_pu, ↓AOps_call, on_some, ↓then_normal, pval, rd_S, rd_C, put_S, AV.cells?, List.replicate_succ, List.replicate_zero, List.set_cons_zero, List.set_cons_succ, List.getElem?_cons_zero, List.getElem?_cons_succ, Option.getD_some, map_c, map_n, Nat.reduceSub, List.cons_append, List.nil_append]
  refine CallK.of (s38 hf) ?_
  by_cases h0 : vE f = 0
  · have hg := (good_of h0).1
    have hlb := len_bound hg
    have hlu := len_units hg.2
    have hub := units_le hg.2
    have hu := Ls_out A e1_len (units f)
    have hp := pre_out A ((units f).flatMap e1) (units f).length
    simp (maxSteps := 4000000) -implicitDefEqProofs -dsimp (disch := omega) only [↓AW_skip, ↓AW_ops, ↓AW_seq, ↓AW_cond, ↓AOps_nil, ↓AOps_pu, ↓AOps_call, on_some, extK_same, condB_f, ↓then_normal, pval, rd_S, rd_C, put_S, eq_self, List.replicate_succ, List.replicate_zero, List.set_cons_zero, List.set_cons_succ, List.getElem?_cons_zero, List.getElem?_cons_succ, Option.getD_some, map_c, map_n, Nat.reduceSub, List.cons_append, List.nil_append, bin_neq, decide_false, not_true_eq_false, h0]
    refine CallK.of (s68 hf hg) ?_
    generalize outV 1 A (units f).length = u at *
    generalize outH A ((units f).flatMap e1) (units f).length = A1 at *
    simp (maxSteps := 4000000) -implicitDefEqProofs -dsimp (disch := omega) only [↓AW_ops, ↓AW_seq, ↓AOps_nil, ↓AOps_pu, ↓AOps_call, on_some, extK_false, ↓then_normal, pval, rd_S, rd_C, put_S, List.replicate_succ, List.replicate_zero, List.set_cons_zero, List.set_cons_succ, List.getElem?_cons_zero, List.getElem?_cons_succ, Option.getD_some, map_c, map_n, Nat.reduceSub, List.cons_append, List.nil_append, hu.len, hlu]
    refine CallK.of (s66 _ _ _ _) ?_
    by_cases h1 : 0 ≤ L ∧ L ≤ len f
    · have hE : dE f L = 0 := by simp [dE, h0, h1]
      obtain ⟨n, rfl⟩ : ∃ n : Nat, L = n := ⟨L.toNat, by omega⟩
      simp (maxSteps := 4000000) -implicitDefEqProofs -dsimp (disch := omega) only [↓AW_skip, ↓AW_ops, ↓AW_seq, ↓AW_cond, ↓AW_block, ↓AOps_nil, ↓AOps_pu, on_some, extK_same, condB_f, ↓then_normal, pval, rd_S, rd_C, put_S, ↓AW_toLoop, List.replicate_succ, List.replicate_zero, List.set_cons_zero, List.set_cons_succ, List.getElem?_cons_zero, List.getElem?_cons_succ, Option.getD_some, Nat.reduceSub, List.cons_append, List.nil_append, Bool.not_true, decide_true, and_true, Int.reduceNeg, h1]
      refine LoopK.by 61 (fun x : Nat × Int × Int => (x.1 : Int) + n ≤ len f + 1 ∧ ((x.1 = 0 ∧ x.2.1 = 0 ∧ x.2.2 = -1) ∨ ∃ k, x.1 = k + 1 ∧ x.2.1 = ((bst (units f) n k).1 : Int) ∧ x.2.2 = (bst (units f) n k).2)) (fun x => [(1, I n), (4, .agg [I 0, I 0]), (5, .agg [I 0, I 0]), (8, u), (9, I x.2.1), (10, I x.2.2), (11, I x.1)]) (fun _ => A1) (fun x => (len f).toNat + 1 - x.1) (0, 0, -1) ⟨by simp only; omega, .inl ⟨rfl, rfl, rfl⟩⟩ rfl (by simp [Has, rd_s]) rfl ?_
      rintro ⟨a, pl, be⟩ ⟨ha, hst⟩
      simp only at ha hst
      by_cases h2 : (a : Int) + n ≤ len f
      · simp (maxSteps := 4000000) -implicitDefEqProofs -dsimp (disch := omega) only [↓AW_skip, ↓AW_ops, ↓AW_seq, ↓AW_cond, ↓AW_block, ↓AOps_nil, ↓AOps_pu, on_some, condB_t, ↓then_normal, pval, rd_S, rd_C, put_S, ↓AW_toLoop, mk, List.foldl_cons, List.foldl_nil, List.replicate_succ, List.replicate_zero, List.set_cons_zero, List.set_cons_succ, List.getElem?_cons_zero, List.getElem?_cons_succ, Option.getD_some, bin_add, bin_leq, w64, decide_true, h2, hu.len, hlu]
        refine LoopK.by 61 (fun i : Nat => a ≤ i ∧ i ≤ a + n) (fun i => [(1, I n), (4, .agg [I 0, I 0]), (5, .agg [I 0, I 0]), (8, u), (9, I pl), (10, I be), (11, I a), (12, I (((units f).take i).sum - ((units f).take a).sum)), (13, I i)]) (fun _ => A1) (fun i => a + n - i) a ⟨by omega, by omega⟩ rfl (by simp [Has, rd_s]) rfl ?_
        rintro i ⟨hia, hin⟩
        have hti := take_sumB hub i
        have hta := take_sumB hub a
        by_cases h3 : i < a + n
        · have h3' : (i : Int) < a + n := by omega
          have hlt : i < (units f).length := by omega
          obtain ⟨z, hz⟩ : ∃ z, (units f)[i]? = some z := ⟨_, List.getElem?_eq_getElem hlt⟩
          have hbz := hub z (List.mem_of_getElem? hz)
          simp (maxSteps := 4000000) -implicitDefEqProofs -dsimp (disch := omega) only [↓AW_skip, ↓AW_ops, ↓AW_seq, ↓AW_cond, ↓AW_block, ↓AOps_nil, ↓AOps_pu, ↓AOps_ld, on_some, condB_t, ↓then_normal, ↓inBlock_normal, pval, lval, rd_S, rd_C, put_S, partA, eq_self, mk, List.foldl_cons, List.foldl_nil, List.replicate_succ, List.replicate_zero, List.set_cons_zero, List.set_cons_succ, List.getElem?_cons_zero, List.getElem?_cons_succ, List.drop_zero, List.take_succ_cons, List.take_nil, Option.getD_some, List.length_cons, List.length_nil, Nat.reduceAdd, Nat.reduceLeDiff, Nat.zero_add, bin_add, bin_lss, w64, if_true, if_false, Bool.false_eq_true, decide_true, Go.Eng.e1, true_and, h3', hu.idx hlt, hu.ld0 hz 1 false (by decide)]
          exact ⟨i + 1, ⟨by omega, by omega⟩, by simp [Has, rd_s, List.take_add_one, hz]; omega, by omega⟩
        · have hi : i = a + n := by omega
          subst hi
          have hirr : ¬ (((a + n : Nat) : Int) < a + n) := by omega
          have hsm : ((units f).take (a + n)).sum - ((units f).take a).sum = sm (units f) n a := rfl
          have hsk := sm_bounds hub (by omega) n a
          rw [hsm]
          by_cases h4 : be < sm (units f) n a
          · simp (maxSteps := 4000000) -implicitDefEqProofs -dsimp (disch := omega) only [↓AW_ops, ↓AW_seq, ↓AW_cond, ↓AW_exit, ↓AOps_nil, ↓AOps_pu, ↓AOps_call, on_some, condB_t, condB_f, ↓then_normal, ↓then_exit, ↓inBlock_normal, ↓inBlock_exit, pval, rd_S, rd_C, put_S, eq_self, mk, List.foldl_cons, List.foldl_nil, List.replicate_succ, List.replicate_zero, List.set_cons_zero, List.set_cons_succ, List.getElem?_cons_zero, List.getElem?_cons_succ, Option.getD_some, map_c, map_n, List.length_cons, List.length_nil, Nat.reduceAdd, Nat.reduceEqDiff, Nat.zero_add, bin_add, bin_lss, bin_gtr, w64, if_true, if_false, decide_true, decide_false, true_and, reduceCtorEq, Int.reduceNeg, hirr, h4]
            refine ⟨(a + 1, (a : Int), sm (units f) n a), ⟨by simp only; omega, .inr ⟨a, rfl, ?_⟩⟩, by simp [Has, rd_s], by simp only; omega⟩
            simp only
            rcases hst with ⟨rfl, rfl, rfl⟩ | ⟨k, rfl, rfl, rfl⟩
            · exact ⟨rfl, rfl⟩
            · rw [bst, if_pos h4]
              exact ⟨rfl, rfl⟩
          · simp (maxSteps := 4000000) -implicitDefEqProofs -dsimp (disch := omega) only [↓AW_skip, ↓AW_ops, ↓AW_seq, ↓AW_cond, ↓AW_exit, ↓AOps_nil, ↓AOps_pu, ↓AOps_call, on_some, condB_f, ↓then_normal, ↓then_exit, ↓inBlock_normal, ↓inBlock_exit, pval, rd_S, rd_C, put_S, eq_self, mk, List.foldl_cons, List.foldl_nil, List.replicate_succ, List.replicate_zero, List.set_cons_zero, List.set_cons_succ, List.getElem?_cons_zero, List.getElem?_cons_succ, Option.getD_some, map_c, map_n, List.length_cons, List.length_nil, Nat.reduceAdd, Nat.reduceEqDiff, Nat.zero_add, bin_add, bin_lss, bin_gtr, w64, if_true, if_false, decide_false, true_and, reduceCtorEq, Int.reduceNeg, hirr, h4]
            refine ⟨(a + 1, pl, be), ⟨by simp only; omega, .inr ⟨a, rfl, ?_⟩⟩, by simp [Has, rd_s], by simp only; omega⟩
            simp only
            rcases hst with ⟨rfl, rfl, rfl⟩ | ⟨k, rfl, rfl, rfl⟩
            · omega
            · rw [bst, if_neg h4]
              exact ⟨rfl, rfl⟩
      · rcases hst with ⟨rfl, rfl, rfl⟩ | ⟨k, rfl, rfl, rfl⟩
        · omega
        · have hk2 : (len f - (n : Int)).toNat = k := by omega
          simp (maxSteps := 4000000) -implicitDefEqProofs -dsimp (disch := omega) only [↓AW_ops, ↓AW_seq, ↓AW_cond, ↓AW_exit, ↓AOps_nil, ↓AOps_pu, ↓AOps_call, on_some, condB_f, ↓then_normal, ↓then_exit, ↓inBlock_exit, pval, rd_S, put_S, eq_self, mk, List.foldl_cons, List.foldl_nil, List.replicate_succ, List.replicate_zero, List.set_cons_zero, List.set_cons_succ, List.getElem?_cons_zero, List.getElem?_cons_succ, Option.getD_some, map_c, map_n, bin_add, bin_leq, w64, if_true, decide_false, h2, hu.len, hlu]
          refine CallK.of (s30 _ _) ?_
          simp (maxSteps := 4000000) -implicitDefEqProofs -dsimp (disch := omega) only [↓AOps_pu, ↓AOps_call, on_some, extK_same, pval, rd_S, put_S, mk, List.foldl_cons, List.foldl_nil, List.replicate_succ, List.replicate_zero, List.set_cons_zero, List.set_cons_succ, List.getElem?_cons_zero, List.getElem?_cons_succ, Option.getD_some, map_c, map_n]
          refine CallK.of (s30 _ _) ?_
          simp (maxSteps := 4000000) -implicitDefEqProofs -dsimp (disch := omega) only [↓AW_ret, ↓AOps_nil, ↓AOps_pu, on_some, extK_same, ↓then_normal, ↓Fin_ret, pval, rd_S, rd_C, put_S, resV, resL, chkd, bput, bgot, AV.cells?, splice, partA, eq_self, mk, List.foldl_cons, List.foldl_nil, List.replicate_succ, List.replicate_zero, List.set_cons_zero, List.set_cons_succ, List.getElem?_cons_zero, List.getElem?_cons_succ, List.drop_zero, List.drop_succ_cons, List.drop_nil, List.take_zero, List.take_succ_cons, List.take_nil, Option.getD_some, List.length_cons, List.length_nil, Nat.reduceAdd, Nat.reduceLeDiff, Nat.reduceEqDiff, Nat.zero_add, List.nil_append, List.append_nil, if_true, if_false, ne_eq, not_true_eq_false]
          exact gc_val hp (by simp [dP, dW, hE, hk2, ren])
    · simp (maxSteps := 4000000) -implicitDefEqProofs -dsimp (disch := omega) only [↓AW_ops, ↓AW_seq, ↓AW_cond, ↓AW_ret, ↓AOps_nil, ↓AOps_pu, on_some, extK_same, condB_t, ↓then_normal, ↓then_ret, ↓Fin_ret, pval, rd_S, rd_C, put_S, resV, resL, chkd, bput, bgot, AV.cells?, splice, partA, fillA, eq_self, List.replicate_succ, List.replicate_zero, List.set_cons_zero, List.set_cons_succ, List.getElem?_cons_zero, List.getElem?_cons_succ, List.drop_zero, List.drop_succ_cons, List.drop_nil, List.take_zero, List.take_succ_cons, List.take_nil, Option.getD_some, Option.map_some, map_n, List.length_cons, List.length_nil, Nat.reduceAdd, Nat.reduceSub, Nat.reduceLeDiff, Nat.reduceEqDiff, Nat.zero_add, List.cons_append, List.nil_append, List.append_nil, if_true, if_false, Bool.not_false, decide_false, ne_eq, not_true_eq_false, h1]
      have hE : dE f L = 1 := by simp [dE, h0, h1]
      exact gc_val hp (by simp [dP, dW, hE, zeroR, ren])
  · simp (maxSteps := 4000000) -implicitDefEqProofs -dsimp (disch := omega) only [↓AW_ops, ↓AW_seq, ↓AW_cond, ↓AW_ret, ↓AOps_nil, ↓AOps_pu, on_some, extK_same, condB_t, ↓then_normal, ↓then_ret, ↓Fin_ret, pval, rd_S, rd_C, put_S, resV, resL, chkd, bput, bgot, AV.cells?, splice, partA, fillA, eq_self, List.replicate_succ, List.replicate_zero, List.set_cons_zero, List.set_cons_succ, List.getElem?_cons_zero, List.getElem?_cons_succ, List.drop_zero, List.drop_succ_cons, List.drop_nil, List.take_zero, List.take_succ_cons, List.take_nil, Option.getD_some, Option.map_some, map_n, List.length_cons, List.length_nil, Nat.reduceAdd, Nat.reduceSub, Nat.reduceLeDiff, Nat.reduceEqDiff, Nat.zero_add, List.cons_append, List.nil_append, List.append_nil, bin_neq, if_true, if_false, decide_true, ne_eq, not_true_eq_false, not_false_eq_true, h0]
    have hE : dE f L = vE f := by simp [dE, h0]
    exact gc_same (by simp [dP, dW, hE, h0, zeroR])

end Go.Proofs.Ytnnbggcckabhdaa
