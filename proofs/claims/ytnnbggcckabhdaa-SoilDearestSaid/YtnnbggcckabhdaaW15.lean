/- Soil: no piece is worth more than the dearest. No conditions. -/
import Derived.Test.YtnnbggcckabhdaaW14
namespace Go.Proofs.Ytnnbggcckabhdaa
open Go Go.Eng

theorem floor_ex {q : Rat} (h0 : 0 ≤ q) : ∃ K : Nat, ((K : Int) : Rat) ≤ q ∧ q < (((K : Int) + 1 : Int) : Rat) := by
  have hn := Rat.num_nonneg.2 h0
  have hd := den_pos q
  have hd0 : ¬ (q.den : Int) = 0 := by omega
  have hx := Int.mul_ediv_add_emod q.num q.den
  have hy := Int.emod_lt_of_pos q.num hd
  have hy0 := Int.emod_nonneg q.num hd0
  have hk0 : 0 ≤ q.num / q.den := Int.ediv_nonneg hn (by omega)
  obtain ⟨K, hK⟩ : ∃ K : Nat, q.num / q.den = (K : Int) := ⟨_, (Int.toNat_of_nonneg hk0).symm⟩
  rw [Int.mul_comm, hK] at hx
  refine ⟨K, ?_, ?_⟩
  · rw [Rat.le_iff]
    show (K : Int) * (q.den : Int) ≤ q.num * (1 : Int)
    omega
  · rw [Rat.lt_iff]
    show q.num * (1 : Int) < ((K : Int) + 1) * (q.den : Int)
    rw [Int.add_mul]
    omega

theorem take_sum_succ {us : List Int} {k : Nat} {u : Int} (h : us[k]? = some u) : (us.take (k + 1)).sum = (us.take k).sum + u := by
  rw [List.take_add_one, h]; simp

theorem piece_max {us : List Int} (q : Rat) (n : Nat) (h0 : 0 ≤ q) (h1 : q + ((n : Int) : Rat) ≤ ((us.length : Int) : Rat)) :
    ∃ a : Nat, a + n ≤ us.length ∧ upToU 0 us (q + ((n : Int) : Rat)) - upToU 0 us q ≤ ((sm us n a : Int) : Rat) := by
  obtain ⟨K, k1, k2⟩ := floor_ex h0
  have hKn : K + n ≤ us.length := by
    have : (((K : Int) + n : Int) : Rat) ≤ ((us.length : Int) : Rat) := by rw [Rat.intCast_add]; grind
    have := Rat.intCast_le_intCast.1 this
    omega
  have e1 := upToU_at q us 0 K (by rw [Int.zero_add]; exact k1) (by rw [Int.zero_add]; exact k2) (by omega)
  have e2 := upToU_at (q + ((n : Int) : Rat)) us 0 (K + n) (by rw [Int.zero_add, Int.natCast_add, Rat.intCast_add]; grind) (by
    rw [Int.zero_add, Int.natCast_add, show ((K : Int) + n + 1 : Int) = ((K : Int) + 1) + n by omega, Rat.intCast_add]; grind) hKn
  rw [Int.zero_add] at e1 e2
  rw [Int.natCast_add, Rat.intCast_add] at e2
  by_cases hend : K + n = us.length
  · refine ⟨K, hKn, ?_⟩
    have hq : q = ((K : Int) : Rat) := by
      have : ((us.length : Int) : Rat) = ((K : Int) : Rat) + ((n : Int) : Rat) := by rw [← Rat.intCast_add]; congr 1; omega
      grind
    have hn : us[K + n]? = none := by rw [List.getElem?_eq_none]; omega
    rw [hn] at e2
    simp only at e2
    have e3 : upToU 0 us q = (((us.take K).sum : Int) : Rat) := by
      rw [e1]
      split
      · rw [hq]; grind
      · grind
    rw [e2, e3]
    show _ ≤ (((us.take (K + n)).sum - (us.take K).sum : Int) : Rat)
    rw [Rat.intCast_sub]
    grind
  · have hlt : K + n < us.length := by omega
    obtain ⟨w, hw⟩ : ∃ w, us[K + n]? = some w := ⟨_, List.getElem?_eq_getElem hlt⟩
    obtain ⟨u, hu⟩ : ∃ u, us[K]? = some u := ⟨_, List.getElem?_eq_getElem (by omega)⟩
    rw [hw] at e2
    rw [hu] at e1
    simp only at e1 e2
    have hs0 : sm us n K = (us.take (K + n)).sum - (us.take K).sum := rfl
    have hs1 : sm us n (K + 1) = (us.take (K + n)).sum + w - ((us.take K).sum + u) := by
      unfold sm
      rw [show K + 1 + n = K + n + 1 by omega, take_sum_succ hw, take_sum_succ hu]
    have t0 : 0 ≤ q - ((K : Int) : Rat) := by grind
    have t1 : q - ((K : Int) : Rat) ≤ 1 := by rw [Rat.intCast_add] at k2; have := int1; grind
    have e4 : upToU 0 us (q + ((n : Int) : Rat)) - upToU 0 us q = ((sm us n K : Int) : Rat) + (q - ((K : Int) : Rat)) * (((w - u : Int)) : Rat) := by
      rw [e1, e2, hs0]
      simp only [Rat.intCast_sub]
      grind
    rw [e4]
    by_cases hwu : w ≤ u
    · refine ⟨K, hKn, ?_⟩
      have : ((w - u : Int) : Rat) ≤ 0 := by rw [← int0]; exact Rat.intCast_le_intCast.2 (by omega)
      have := Rat.mul_nonneg t0 (show 0 ≤ -(((w - u : Int) : Int) : Rat) by grind)
      grind
    · refine ⟨K + 1, by omega, ?_⟩
      have hwu' : 0 ≤ ((w - u : Int) : Rat) := by rw [← int0]; exact Rat.intCast_le_intCast.2 (by omega)
      have := Rat.mul_le_mul_of_nonneg_right t1 hwu'
      have e5 : ((sm us n (K + 1) : Int) : Rat) = ((sm us n K : Int) : Rat) + ((w - u : Int) : Rat) := by
        rw [← Rat.intCast_add]; congr 1; rw [hs1, hs0]; omega
      rw [e5]
      grind

theorem s27raw (x y n : Int) (A : AHeap) (hx : -35184372088832 ≤ x ∧ x ≤ 35184372088832) (hy : 1 ≤ y ∧ y ≤ 1073741824) (hn : 0 ≤ n ∧ n ≤ 1000) : ACalls Try.prog 27 [.agg [I x, I y], .agg [I n, I 1]] A (R (((x + n * y : Int) : Rat) / (y : Rat))) A := by
  refine acalls hmix Try.func27 (by kernel_rfl) t27 2 rfl (by decide) ?_
  have hm := mul_bound (x := n) (y := y) (X := 1000) (Y := 1073741824) (by omega) (by omega)
  have hg : (Int.gcd y 1 : Int) = 1 := by simp
  dsimp only [m27]
  simp (maxSteps := 4000000) -implicitDefEqProofs -dsimp (disch := omega) only [↓AW_ops, ↓AW_seq, ↓AOps_nil, ↓AOps_pu, ↓AOps_call, on_some, ↓then_normal, pval, rd_S, rd_C, put_S, chkd, isAdr, bgot, AV.cells?, partA, eq_self, List.replicate_succ, List.replicate_zero, List.set_cons_zero, List.set_cons_succ, List.getElem?_cons_zero, List.getElem?_cons_succ, List.drop_zero, List.drop_succ_cons, List.take_succ_cons, List.take_nil, Option.getD_some, map_c, map_n, List.length_cons, List.length_nil, Nat.reduceAdd, Nat.reduceSub, Nat.reduceLeDiff, Nat.zero_add, List.cons_append, List.nil_append, if_true, if_false, Bool.false_eq_true]
  refine CallK.of (s76 _ ⟨by omega, by omega⟩ (by omega) (by omega) (by omega)) ?_
  rw [hg]
  simp (maxSteps := 4000000) -implicitDefEqProofs -dsimp (disch := omega) only [↓AW_ops, ↓AW_seq, ↓AOps_nil, ↓AOps_pu, ↓AOps_call, on_some, extK_same, ↓then_normal, pval, rd_S, put_S, chkd, isAdr, bgot, AV.cells?, partA, eq_self, List.replicate_succ, List.replicate_zero, List.set_cons_zero, List.set_cons_succ, List.getElem?_cons_zero, List.getElem?_cons_succ, List.drop_zero, List.drop_succ_cons, List.take_zero, List.take_succ_cons, List.take_nil, Option.getD_some, map_c, map_n, List.length_cons, List.length_nil, Nat.reduceAdd, Nat.reduceSub, Nat.reduceLeDiff, Nat.zero_add, List.cons_append, List.nil_append, bin_add, bin_mul, bin_quo, w64, if_true, if_false, Bool.false_eq_true, Int.reduceEq, Int.tdiv_one, Int.mul_one]
  refine CallK.of (s69R _ ⟨by omega, by omega⟩ (by omega) (by omega) (by omega)) ?_
  simp (maxSteps := 4000000) -implicitDefEqProofs -dsimp (disch := omega) only [↓AW_ret, ↓AOps_nil, ↓AOps_pu, on_some, extK_same, ↓then_normal, ↓Fin_ret, pval, rd_S, put_S, resV, resL, chkd, bput, bgot, AV.cells?, splice, partA, eq_self, List.replicate_succ, List.replicate_zero, List.set_cons_zero, List.set_cons_succ, List.getElem?_cons_zero, List.getElem?_cons_succ, List.drop_zero, List.drop_succ_cons, List.drop_nil, List.take_zero, List.take_succ_cons, List.take_nil, Option.getD_some, List.length_cons, List.length_nil, Nat.reduceAdd, Nat.reduceSub, Nat.reduceLeDiff, Nat.reduceEqDiff, Nat.zero_add, List.cons_append, List.nil_append, List.append_nil, if_true, if_false, ne_eq, not_true_eq_false]
  exact gc_same rfl

set_option maxRecDepth 100000 in
set_option maxHeartbeats 4000000 in
theorem s6 {f : List (Int × Int)} {v : AV} {A : AHeap} (hf : L2 A v f) (L x y : Int) (hL : W L) (hx : W x) : ACalls Try.prog 6 [v, I L, .agg [I x, I y]] A (B true) A := by
  refine acalls hmix Try.func6 (by kernel_rfl) t6 3 rfl (by decide) ?_
  dsimp only [m6]
  simp (maxSteps := 4000000) -implicitDefEqProofs -dsimp (disch := omega) only [↓AW_ops, ↓AW_seq, ↓AOps_nil, ↓AOps_pu, ↓AOps_call, on_some, ↓then_normal, pval, rd_S, rd_C, put_S, AV.cells?, List.replicate_succ, List.replicate_zero, List.set_cons_zero, List.set_cons_succ, List.getElem?_cons_zero, List.getElem?_cons_succ, Option.getD_some, map_c, map_n, Nat.reduceSub, List.cons_append, List.nil_append]
  refine CallK.of (s18 hf (L2_nil A)) ?_
  by_cases h : (100 : Int) < f.length
  · simp (maxSteps := 4000000) -implicitDefEqProofs -dsimp (disch := omega) only [↓AW_ops, ↓AW_seq, ↓AW_cond, ↓AOps_nil, ↓AOps_call, extK_same, condB_t, ↓then_normal, rd_S, put_S, List.replicate_succ, List.replicate_zero, List.set_cons_zero, List.set_cons_succ, List.getElem?_cons_zero, List.getElem?_cons_succ, Option.getD_some, map_n, List.length_nil, Nat.reduceSub, List.cons_append, List.nil_append, decide_true, h, true_or]
    refine CallK.of (known A) ?_
    simp (maxSteps := 4000000) -implicitDefEqProofs -dsimp (disch := omega) only [↓AW_ret, ↓AOps_nil, ↓AOps_pu, on_some, extK_same, ↓then_normal, ↓then_ret, ↓Fin_ret, pval, rd_S, put_S, resV, resL, List.replicate_succ, List.replicate_zero, List.set_cons_zero, List.set_cons_succ, List.getElem?_cons_zero, List.getElem?_cons_succ, Option.getD_some, List.length_nil, Nat.reduceSub, List.cons_append, List.nil_append]
    exact gc_same rfl
  · simp (maxSteps := 4000000) -implicitDefEqProofs -dsimp (disch := omega) only [↓AW_skip, ↓AW_ops, ↓AW_seq, ↓AW_cond, ↓AOps_nil, ↓AOps_pu, ↓AOps_call, on_some, extK_same, condB_f, ↓then_normal, pval, rd_S, put_S, List.replicate_succ, List.replicate_zero, List.set_cons_zero, List.set_cons_succ, List.getElem?_cons_zero, List.getElem?_cons_succ, Option.getD_some, map_c, map_n, List.length_nil, Nat.reduceSub, List.cons_append, List.nil_append, decide_false, Int.reduceLT, h, false_or, Int.cast_ofNat_Int]
    refine CallK.of (s28 hf L hL) ?_
    by_cases h0 : dE f L = 0
    · have hv : vE f = 0 := by
        unfold dE at h0
        split at h0
        · assumption
        · exact h0
      have hL2 : 0 ≤ L ∧ L ≤ len f := by
        unfold dE at h0
        rw [if_pos hv] at h0
        split at h0
        · assumption
        · cases h0
      have hg := (good_of hv).1
      have hlb := len_bound hg
      have hlu := len_units hg.2
      have hub := units_le hg.2
      obtain ⟨n, rfl⟩ : ∃ n : Nat, L = n := ⟨L.toNat, by omega⟩
      obtain ⟨p, hp⟩ : ∃ p, dP f n = R p := ⟨_, by unfold dP; rw [if_pos h0]⟩
      obtain ⟨b, hb, hbv⟩ : ∃ b, dW f n = R b ∧ b = (((bst (units f) n (len f - (n : Int)).toNat).2 : Int) : Rat) := ⟨_, by unfold dW; rw [if_pos h0]; rfl, rfl⟩
      have hbd : ¬ (b.den : Int) < 1 := by have := den_pos b; omega
      have hbb := bst_at (units f) n (len f - (n : Int)).toNat
      have hsb := sm_bounds hub (by omega) n (bst (units f) n (len f - (n : Int)).toNat).1
      have hbn : b.num.natAbs ≤ 2400000000 ∧ (b.den : Int) ≤ 1000000 := by
        rw [hbv]
        refine ⟨?_, by show (1 : Int) ≤ 1000000; decide⟩
        show ((bst (units f) n (len f - (n : Int)).toNat).2).natAbs ≤ 2400000000
        omega
      simp (maxSteps := 4000000) -implicitDefEqProofs -dsimp (disch := omega) only [↓AW_ops, ↓AW_seq, ↓AOps_nil, ↓AOps_pu, ↓AOps_call, on_some, extK_same, ↓then_normal, pval, rd_S, rd_C, put_S, chkd, bput, AV.cells?, splice, eq_self, List.replicate_succ, List.replicate_zero, List.set_cons_zero, List.set_cons_succ, List.getElem?_cons_zero, List.getElem?_cons_succ, List.drop_succ_cons, List.drop_nil, List.take_zero, Option.getD_some, map_c, map_n, List.length_cons, List.length_nil, Nat.reduceAdd, Nat.reduceSub, Nat.reduceLeDiff, Nat.zero_add, List.cons_append, List.nil_append, List.append_nil, if_true, if_false, ne_eq, not_true_eq_false, hp, hb, h0]
      refine CallK.of (s29 hf n hL) ?_
      simp (maxSteps := 4000000) -implicitDefEqProofs -dsimp (disch := omega) only [↓AW_skip, ↓AW_ops, ↓AW_seq, ↓AW_cond, ↓AOps_nil, ↓AOps_pu, ↓AOps_guard, on_some, extK_same, guardB_ff, condB_f, ↓then_normal, pval, rd_S, rd_C, put_S, chkd, isAdr, bput, bgot, AV.cells?, splice, partA, eqc, beq_self_eq_true, eq_self, List.replicate_succ, List.replicate_zero, List.set_cons_zero, List.set_cons_succ, List.getElem?_cons_zero, List.getElem?_cons_succ, List.drop_zero, List.drop_succ_cons, List.drop_nil, List.take_zero, List.take_succ_cons, List.take_nil, Option.getD_some, Option.map_some, List.length_cons, List.length_nil, Nat.reduceAdd, Nat.reduceSub, Nat.reduceLeDiff, Nat.reduceEqDiff, Nat.zero_add, List.cons_append, List.nil_append, List.append_nil, bin_neq, bin_lss, if_true, if_false, Bool.false_eq_true, Bool.not_true, Bool.true_and, decide_false, ne_eq, not_true_eq_false, hp, hb, h0, hbd]
      by_cases hy : y < 1
      · simp (maxSteps := 4000000) -implicitDefEqProofs -dsimp (disch := omega) only [↓AW_ops, ↓AW_seq, ↓AW_cond, ↓AOps_nil, ↓AOps_pu, ↓AOps_call, ↓AOps_guard, on_some, guardB_tf, skipS_some, condB_t, ↓then_normal, pval, rd_S, rd_C, put_S, eq_self, List.replicate_succ, List.replicate_zero, List.set_cons_zero, List.set_cons_succ, List.getElem?_cons_zero, List.getElem?_cons_succ, Option.getD_some, map_n, List.length_nil, Nat.reduceSub, List.cons_append, List.nil_append, if_true, decide_true, hy]
        refine CallK.of (known A) ?_
        simp (maxSteps := 4000000) -implicitDefEqProofs -dsimp (disch := omega) only [↓AW_ret, ↓AOps_nil, ↓AOps_pu, on_some, extK_same, skipS_some, ↓then_normal, ↓then_ret, ↓Fin_ret, pval, rd_S, put_S, resV, resL, List.replicate_succ, List.replicate_zero, List.set_cons_zero, List.set_cons_succ, List.getElem?_cons_zero, List.getElem?_cons_succ, Option.getD_some, List.length_nil, Nat.reduceSub, List.cons_append, List.nil_append]
        exact gc_same rfl
      · simp (maxSteps := 4000000) -implicitDefEqProofs -dsimp (disch := omega) only [↓AOps_pu, ↓AOps_ha, ↓AOps_call, ↓AOps_guard, on_some, extK_app, guardB_ff, pval, hval, rd_S, put_S, chkd, bgot, AV.cells?, splice, partA, fillA, repl, eq_self, List.replicate_succ, List.replicate_zero, List.set_cons_zero, List.set_cons_succ, List.getElem?_cons_zero, List.getElem?_cons_succ, List.drop_zero, List.drop_succ_cons, List.drop_nil, List.take_zero, List.take_succ_cons, List.take_nil, Option.getD_some, map_c, map_n, List.length_cons, List.length_nil, Nat.reduceAdd, Nat.reduceSub, Nat.reduceLeDiff, Nat.reduceEqDiff, Nat.zero_add, List.cons_append, List.nil_append, List.append_nil, if_true, if_false, decide_false, and_true, hy]
        refine CallK.of (s23 (L2_one A (x, y)) (by simp)) ?_
        by_cases hfr : fairR (x, y)
        · have hall : ∀ r ∈ [(x, y)], fairR r := by simpa using hfr
          rw [decide_eq_true hall]
          obtain ⟨⟨y1, y2⟩, x1, x2⟩ := id hfr
          simp only at y1 y2 x1 x2
          have hf2 := hf.mono (pre_app A [.cells true [I x, I y]])
          have hm := mul_bound (x := (n : Int)) (y := y) (X := 1000) (Y := 1073741824) (by omega) (by omega)
          simp (maxSteps := 4000000) -implicitDefEqProofs -dsimp (disch := omega) only [↓AW_skip, ↓AW_ops, ↓AW_seq, ↓AW_cond, ↓AOps_nil, ↓AOps_pu, ↓AOps_call, ↓AOps_guard, on_some, extK_same, guardB_ff, condB_f, ↓then_normal, pval, rd_S, rd_C, put_S, chkd, bgot, partA, eq_self, List.replicate_succ, List.replicate_zero, List.set_cons_zero, List.set_cons_succ, List.getElem?_cons_zero, List.getElem?_cons_succ, List.drop_zero, List.take_succ_cons, List.take_nil, Option.getD_some, map_c, map_n, List.length_cons, List.length_nil, Nat.reduceAdd, Nat.reduceSub, Nat.reduceLeDiff, Nat.reduceEqDiff, Nat.zero_add, List.cons_append, List.nil_append, if_true, if_false, Bool.false_eq_true, Bool.not_true, decide_false, hy]
          refine CallK.of (show ACalls Try.prog 30 [I n] _ (.agg [I n, I 1]) _ from s30 n _) ?_
          simp (maxSteps := 4000000) -implicitDefEqProofs -dsimp (disch := omega) only [↓AOps_call, extK_same, rd_S, put_S, List.replicate_succ, List.replicate_zero, List.set_cons_zero, List.set_cons_succ, List.getElem?_cons_zero, List.getElem?_cons_succ, Option.getD_some, map_c, map_n, List.length_nil, Nat.reduceSub, List.cons_append, List.nil_append]
          refine CallK.of (s27raw x y n _ ⟨x1, x2⟩ ⟨y1, y2⟩ (by omega)) ?_
          have hrl := ratio_le (x + n * y) y (by omega)
          have hqv : qr ((((x + n * y : Int) : Rat) / (y : Rat)).num, ((((x + n * y : Int) : Rat) / (y : Rat)).den : Int)) = ((x + n * y : Int) : Rat) / (y : Rat) := (R_self _).symm
          generalize hq : ((x + n * y : Int) : Rat) / (y : Rat) = q at *
          simp (maxSteps := 4000000) -implicitDefEqProofs -dsimp (disch := omega) only [↓AOps_call, extK_same, rd_S, put_S, List.replicate_succ, List.replicate_zero, List.set_cons_zero, List.set_cons_succ, List.getElem?_cons_zero, List.getElem?_cons_succ, Option.getD_some, map_c, map_n, List.length_nil, Nat.reduceSub, List.cons_append, List.nil_append]
          refine CallK.of (s25 hf2 (x, y) (q.num, q.den) hx (by constructor <;> simp only <;> omega)) ?_
          by_cases hw : wE f (x, y) (q.num, (q.den : Int)) = 0
          · obtain ⟨w, hwR, hwv, hw0, hwn⟩ := wV_num hw
            obtain ⟨_, w1, w2, w3⟩ := wE_0 hw
            have hwd : (0 : Int) < w.den := den_pos w
            have hbd2 : (0 : Int) < b.den := den_pos b
            have hr := isP_R w1
            have hr2 := isP_R w2
            have hqq : q = qr (x, y) + ((n : Int) : Rat) := by
              rw [← hq, Rat.intCast_add, Rat.intCast_mul]
              have := cast_ne (show y ≠ 0 by omega)
              show _ = (x : Rat) / (y : Rat) + ((n : Int) : Rat)
              generalize (x : Rat) = X at *
              generalize (y : Rat) = Y at *
              grind
            have hle : w ≤ b := by
              rw [hwv, hqv, hbv]
              have hp0 := hr.2.le
              have hq1 := hr2.2.le
              rw [hqv] at hq1
              rw [← upTo_units _ f 0 hg.2, ← upTo_units _ f 0 hg.2, hqq]
              obtain ⟨a, a1, a2⟩ := piece_max (us := units f) (qr (x, y)) n hp0.1 (by rw [hlu, ← hqq]; exact hq1.2)
              refine Rat.le_trans a2 (Rat.intCast_le_intCast.2 (bst_max _ _ _ _ (by omega)))
            have hnlt : ¬ b < w := Rat.not_lt.2 hle
            simp (maxSteps := 4000000) -implicitDefEqProofs -dsimp (disch := omega) only [↓AW_ops, ↓AW_seq, ↓AOps_nil, ↓AOps_pu, ↓AOps_ha, ↓AOps_call, ↓AOps_guard, on_some, extK_app, extK_same, guardB_tt, guardB_ff, ↓then_normal, pval, hval, rd_S, rd_C, put_S, chkd, isAdr, bput, bgot, AV.cells?, splice, partA, fillA, repl, eq_self, List.replicate_succ, List.replicate_zero, List.set_cons_zero, List.set_cons_succ, List.getElem?_cons_zero, List.getElem?_cons_succ, List.drop_zero, List.drop_succ_cons, List.drop_nil, List.take_zero, List.take_succ_cons, List.take_nil, Option.getD_some, map_c, map_n, List.length_cons, List.length_nil, Nat.reduceAdd, Nat.reduceSub, Nat.reduceLeDiff, Nat.reduceEqDiff, Nat.zero_add, List.cons_append, List.nil_append, List.append_nil, bin_neq, bin_gtr, if_true, if_false, Bool.false_eq_true, decide_true, decide_false, and_true, ne_eq, not_true_eq_false, hwR, hw, hwd, hbd2]
            refine CallK.of (s23 (L2_two _ (w.num, w.den) (b.num, b.den)) (by simp)) ?_
            have hfair : ∀ r' ∈ [(w.num, (w.den : Int)), (b.num, (b.den : Int))], fairR r' := by
              simp only [List.mem_cons, List.not_mem_nil, or_false]
              rintro r' (rfl | rfl)
              · exact fair_num hwn
              · exact fair_num hbn
            rw [decide_eq_true hfair]
            simp (maxSteps := 4000000) -implicitDefEqProofs -dsimp (disch := omega) only [↓AOps_pu, ↓AOps_call, ↓AOps_guard, on_some, extK_same, guardB_tt, guardB_ff, pval, rd_S, rd_C, put_S, chkd, bgot, partA, eq_self, List.replicate_succ, List.replicate_zero, List.set_cons_zero, List.set_cons_succ, List.getElem?_cons_zero, List.getElem?_cons_succ, List.drop_zero, List.take_succ_cons, List.take_nil, Option.getD_some, map_c, map_n, List.length_cons, List.length_nil, Nat.reduceAdd, Nat.reduceSub, Nat.reduceLeDiff, Nat.reduceEqDiff, Nat.zero_add, List.cons_append, List.nil_append, if_true, if_false]
            refine CallK.of (s24g b w _ (Fit_of 2400000000 2400000000 1000000 1000000 hbn.1 (by omega) hwn.1 (by omega) (by decide) (by decide))) ?_
            simp (maxSteps := 4000000) -implicitDefEqProofs -dsimp (disch := omega) only [↓AOps_pu, ↓AOps_call, ↓AOps_guard, on_some, extK_same, guardB_tt, guardB_ff, pval, rd_S, rd_C, put_S, eq_self, List.replicate_succ, List.replicate_zero, List.set_cons_zero, List.set_cons_succ, List.getElem?_cons_zero, List.getElem?_cons_succ, Option.getD_some, map_n, List.length_nil, Nat.reduceSub, List.cons_append, List.nil_append, if_true, if_false, Bool.false_eq_true, Bool.not_false, decide_false, hnlt]
            refine CallK.of (known _) ?_
            simp (maxSteps := 4000000) -implicitDefEqProofs -dsimp (disch := omega) only [↓AW_ret, ↓AOps_nil, ↓AOps_pu, on_some, extK_same, ↓then_normal, ↓Fin_ret, pval, rd_S, rd_C, put_S, resV, resL, eq_self, List.replicate_succ, List.replicate_zero, List.set_cons_zero, List.set_cons_succ, List.getElem?_cons_zero, List.getElem?_cons_succ, Option.getD_some, List.length_nil, Nat.reduceSub, List.cons_append, List.nil_append, if_true]
            exact gc_val ((pre_app A _).trans (pre_app _ _)) rfl
          · obtain ⟨k1, k2, hm1⟩ := wV_agg f (x, y) (q.num, (q.den : Int))
            simp (maxSteps := 4000000) -implicitDefEqProofs -dsimp (disch := omega) only [↓AW_ops, ↓AW_seq, ↓AOps_nil, ↓AOps_pu, ↓AOps_call, ↓AOps_guard, on_some, extK_same, guardB_tt, guardB_tf, guardB_undef, skipS_some, ↓then_normal, pval, rd_S, rd_C, put_S, chkd, bput, AV.cells?, splice, eq_self, List.replicate_succ, List.replicate_zero, List.set_cons_zero, List.set_cons_succ, List.getElem?_cons_zero, List.getElem?_cons_succ, List.drop_succ_cons, List.drop_nil, List.take_zero, Option.getD_some, map_n, List.length_cons, List.length_nil, Nat.reduceAdd, Nat.reduceSub, Nat.reduceLeDiff, Nat.zero_add, List.cons_append, List.nil_append, List.append_nil, bin_neq, if_true, if_false, decide_true, ne_eq, not_true_eq_false, not_false_eq_true, hm1, hw]
            refine CallK.of (known _) ?_
            simp (maxSteps := 4000000) -implicitDefEqProofs -dsimp (disch := omega) only [↓AW_ret, ↓AOps_nil, ↓AOps_pu, on_some, extK_same, skipS_some, ↓then_normal, ↓Fin_ret, pval, rd_S, rd_C, put_S, resV, resL, eq_self, List.replicate_succ, List.replicate_zero, List.set_cons_zero, List.set_cons_succ, List.getElem?_cons_zero, List.getElem?_cons_succ, Option.getD_some, List.length_nil, Nat.reduceSub, List.cons_append, List.nil_append, if_true]
            exact gc_val (pre_app A _) rfl
        · have hall : ¬ ∀ r ∈ [(x, y)], fairR r := by simpa using hfr
          rw [decide_eq_false hall]
          simp (maxSteps := 4000000) -implicitDefEqProofs -dsimp (disch := omega) only [↓AW_ops, ↓AW_seq, ↓AW_cond, ↓AOps_nil, ↓AOps_pu, ↓AOps_call, ↓AOps_guard, on_some, extK_same, guardB_ff, condB_t, ↓then_normal, pval, rd_S, rd_C, put_S, List.replicate_succ, List.replicate_zero, List.set_cons_zero, List.set_cons_succ, List.getElem?_cons_zero, List.getElem?_cons_succ, Option.getD_some, map_n, List.length_nil, Nat.reduceSub, List.cons_append, List.nil_append, if_false, Bool.false_eq_true, Bool.not_false, decide_false, hy]
          refine CallK.of (known _) ?_
          simp (maxSteps := 4000000) -implicitDefEqProofs -dsimp (disch := omega) only [↓AW_ret, ↓AOps_nil, ↓AOps_pu, on_some, extK_same, ↓then_normal, ↓then_ret, ↓Fin_ret, pval, rd_S, put_S, resV, resL, List.replicate_succ, List.replicate_zero, List.set_cons_zero, List.set_cons_succ, List.getElem?_cons_zero, List.getElem?_cons_succ, Option.getD_some, List.length_nil, Nat.reduceSub, List.cons_append, List.nil_append]
          exact gc_val (pre_app A _) rfl
    · have hp : dP f L = zeroR := by unfold dP; rw [if_neg h0]
      have hb : dW f L = zeroR := by unfold dW; rw [if_neg h0]
      simp (maxSteps := 4000000) -implicitDefEqProofs -dsimp (disch := omega) only [↓AW_ops, ↓AW_seq, ↓AOps_nil, ↓AOps_pu, ↓AOps_call, on_some, extK_same, ↓then_normal, pval, rd_S, rd_C, put_S, chkd, bput, AV.cells?, splice, eq_self, List.replicate_succ, List.replicate_zero, List.set_cons_zero, List.set_cons_succ, List.getElem?_cons_zero, List.getElem?_cons_succ, List.drop_succ_cons, List.drop_nil, List.take_zero, Option.getD_some, map_c, map_n, List.length_cons, List.length_nil, Nat.reduceAdd, Nat.reduceSub, Nat.reduceLeDiff, Nat.zero_add, List.cons_append, List.nil_append, List.append_nil, if_true, if_false, ne_eq, not_true_eq_false, hp, hb, zeroR]
      refine CallK.of (s29 hf L hL) ?_
      simp (maxSteps := 4000000) -implicitDefEqProofs -dsimp (disch := omega) only [↓AW_skip, ↓AW_ops, ↓AW_seq, ↓AW_cond, ↓AOps_nil, ↓AOps_pu, ↓AOps_call, ↓AOps_guard, on_some, extK_same, guardB_tf, guardB_ff, skipS_some, condB_t, condB_f, ↓then_normal, pval, rd_S, rd_C, put_S, chkd, bput, bgot, AV.cells?, splice, partA, eqc, beq_self_eq_true, eq_self, List.replicate_succ, List.replicate_zero, List.set_cons_zero, List.set_cons_succ, List.getElem?_cons_zero, List.getElem?_cons_succ, List.drop_zero, List.drop_succ_cons, List.drop_nil, List.take_zero, List.take_succ_cons, List.take_nil, Option.getD_some, Option.map_some, map_n, List.length_cons, List.length_nil, Nat.reduceAdd, Nat.reduceSub, Nat.reduceLeDiff, Nat.reduceEqDiff, Nat.zero_add, List.cons_append, List.nil_append, List.append_nil, bin_neq, if_true, if_false, Bool.false_eq_true, Bool.not_true, Bool.true_and, decide_true, decide_false, ne_eq, not_true_eq_false, not_false_eq_true, hp, hb, h0, zeroR]
      refine CallK.of (known A) ?_
      simp (maxSteps := 4000000) -implicitDefEqProofs -dsimp (disch := omega) only [↓AW_ret, ↓AOps_nil, ↓AOps_pu, on_some, extK_same, skipS_some, ↓then_normal, ↓then_ret, ↓Fin_ret, pval, rd_S, put_S, resV, resL, List.replicate_succ, List.replicate_zero, List.set_cons_zero, List.set_cons_succ, List.getElem?_cons_zero, List.getElem?_cons_succ, Option.getD_some, List.length_nil, Nat.reduceSub, List.cons_append, List.nil_append]
      exact gc_same rfl

end Go.Proofs.Ytnnbggcckabhdaa
