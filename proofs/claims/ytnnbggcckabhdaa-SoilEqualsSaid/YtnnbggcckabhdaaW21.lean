/- Soil: what 'SoilEquals' does. No conditions. -/
import Derived.Test.YtnnbggcckabhdaaW20
namespace Go.Proofs.Ytnnbggcckabhdaa
open Go Go.Eng

theorem eqA_num {f : List (Int × Int)} (hg : good f) {n k : Nat} (hn : 0 < n ∧ n ≤ 8) (hk : k ≤ n) : (eqA f n k).num.natAbs ≤ 19200 ∧ (eqA f n k).den ≤ 160 := by
  obtain ⟨_, a2, _, a4⟩ := eqA_facts hg hn hk
  have hlb := len_bound hg
  have h := num_le (M := 120) (den_pos _) (Dv_self (eqA f n k)) (int_neg_le_zero (by omega) a2.1) (Rat.le_trans a2.2 (Rat.intCast_le_intCast.2 hlb.2))
  omega

theorem eqA_mono {f : List (Int × Int)} (hg : good f) {n k : Nat} (hn : 0 < n ∧ n ≤ 8) (hk : k + 1 ≤ n) : eqA f n k ≤ eqA f n (k + 1) := by
  obtain ⟨_, a2, _, _⟩ := eqA_facts hg hn (show k ≤ n by omega)
  exact (plc_worth hg a2.1 a2.2 (eqW_le hg hn.1 (by omega)).1 (eqA_step hg hn hk)).1

theorem eqL_facts {f : List (Int × Int)} {n : Int} : (eqL f n).length ≤ 7 ∧ (∀ r ∈ eqL f n, fairR r) ∧ (∀ k a b, (eqL f n)[k]? = some a → (eqL f n)[k + 1]? = some b → ∃ p q : Rat, a = pR p ∧ b = pR q ∧ Sm p ∧ Sm q ∧ p ≤ q) := by
  unfold eqL
  by_cases hE : eqE f n = 0
  · have hv : vE f = 0 := by
      unfold eqE at hE
      split at hE
      · assumption
      · exact hE
    have hn : 1 ≤ n ∧ n ≤ 8 := by
      unfold eqE at hE
      rw [if_pos hv] at hE
      split at hE
      · assumption
      · cases hE
    have hg := (good_of hv).1
    have hm : 0 < n.toNat ∧ n.toNat ≤ 8 := by omega
    rw [if_pos hE]
    refine ⟨by simp; omega, fun r hr => ?_, fun k a b ha hb => ?_⟩
    · obtain ⟨k, hk, rfl⟩ := List.mem_map.1 hr
      have hk := List.mem_range.1 hk
      have := eqA_num hg hm (show k + 1 ≤ n.toNat by omega)
      have := den_pos (eqA f n.toNat (k + 1))
      exact ⟨by simp only; omega, by simp only; omega⟩
    · rw [List.getElem?_map] at ha hb
      obtain ⟨x, hx, rfl⟩ := Option.map_eq_some_iff.1 ha
      obtain ⟨y, hy, rfl⟩ := Option.map_eq_some_iff.1 hb
      have hx1 := List.getElem?_eq_some_iff.1 hx
      have hy1 := List.getElem?_eq_some_iff.1 hy
      obtain ⟨hx2, hx3⟩ := hx1
      obtain ⟨hy2, hy3⟩ := hy1
      simp at hx2 hy2 hx3 hy3
      subst hx3
      subst hy3
      have n1 := eqA_num hg hm (show k + 1 ≤ n.toNat by omega)
      have n2 := eqA_num hg hm (show k + 1 + 1 ≤ n.toNat by omega)
      exact ⟨_, _, rfl, rfl, ⟨by omega, by omega⟩, ⟨by omega, by omega⟩, eqA_mono hg hm (by omega)⟩
  · rw [if_neg hE]
    exact ⟨by simp, by simp, fun k a b ha => by simp at ha⟩

set_option maxRecDepth 100000 in
set_option maxHeartbeats 4000000 in
theorem s3 {f : List (Int × Int)} {v : AV} {A : AHeap} (hf : L2 A v f) (n : Int) (hn : W n) : ACalls Try.prog 3 [v, I n] A (B true) A := by
  refine acalls hmix Try.func3 (by kernel_rfl) t3 2 rfl (by decide) ?_
  dsimp only [m3]
  simp (maxSteps := 4000000) -implicitDefEqProofs -dsimp (disch := omega) only [↓AW_ops, ↓AW_seq, ↓AOps_nil, ↓AOps_pu, ↓AOps_call, on_some, ↓then_normal, pval, rd_S, rd_C, put_S, List.replicate_succ, List.replicate_zero, List.set_cons_zero, List.set_cons_succ, List.getElem?_cons_zero, List.getElem?_cons_succ, Option.getD_some, map_c, map_n, Nat.reduceSub, List.cons_append, List.nil_append]
  refine CallK.of (s18 hf (L2_nil A)) ?_
  by_cases h : (100 : Int) < f.length
  · simp (maxSteps := 4000000) -implicitDefEqProofs -dsimp (disch := omega) only [↓AW_ops, ↓AW_seq, ↓AW_cond, ↓AOps_nil, ↓AOps_call, extK_same, condB_t, ↓then_normal, rd_S, put_S, List.replicate_succ, List.replicate_zero, List.set_cons_zero, List.set_cons_succ, List.getElem?_cons_zero, List.getElem?_cons_succ, Option.getD_some, map_n, List.length_nil, Nat.reduceSub, List.cons_append, List.nil_append, decide_true, h, true_or]
    refine CallK.of (known A) ?_
    simp (maxSteps := 4000000) -implicitDefEqProofs -dsimp (disch := omega) only [↓AW_ret, ↓AOps_nil, ↓AOps_pu, on_some, extK_same, ↓then_normal, ↓then_ret, ↓Fin_ret, pval, rd_S, put_S, resV, resL, List.replicate_succ, List.replicate_zero, List.set_cons_zero, List.set_cons_succ, List.getElem?_cons_zero, List.getElem?_cons_succ, Option.getD_some, List.length_nil, Nat.reduceSub, List.cons_append, List.nil_append]
    exact gc_same rfl
  · obtain ⟨l1, l2, l3⟩ := eqL_facts (f := f) (n := n)
    simp (maxSteps := 4000000) -implicitDefEqProofs -dsimp (disch := omega) only [↓AW_skip, ↓AW_ops, ↓AW_seq, ↓AW_cond, ↓AOps_nil, ↓AOps_pu, ↓AOps_call, on_some, extK_same, condB_f, ↓then_normal, pval, rd_S, put_S, List.replicate_succ, List.replicate_zero, List.set_cons_zero, List.set_cons_succ, List.getElem?_cons_zero, List.getElem?_cons_succ, Option.getD_some, map_c, map_n, List.length_nil, Nat.reduceSub, List.cons_append, List.nil_append, decide_false, Int.reduceLT, h, false_or, Int.cast_ofNat_Int]
    refine CallK.of (s20 hf n hn) ?_
    have p1 := pre_out A ((eqL f n).flatMap Go.Eng.e2) (eqL f n).length
    have hL1 := Ls_out A e2_len (eqL f n)
    generalize outH A ((eqL f n).flatMap Go.Eng.e2) (eqL f n).length = A1 at *
    generalize outV 2 A (eqL f n).length = y1 at *
    simp (maxSteps := 4000000) -implicitDefEqProofs -dsimp (disch := omega) only [↓AW_ops, ↓AW_seq, ↓AOps_nil, ↓AOps_pu, ↓AOps_call, on_some, extK_false, ↓then_normal, pval, rd_S, put_S, List.replicate_succ, List.replicate_zero, List.set_cons_zero, List.set_cons_succ, List.getElem?_cons_zero, List.getElem?_cons_succ, Option.getD_some, map_c, map_n, List.length_nil, Nat.reduceSub, List.cons_append, List.nil_append]
    refine CallK.of (s21 (hf.mono p1) n hn) ?_
    have p2 := pre_out A1 ((eqL f n).flatMap Go.Eng.e2) (eqL f n).length
    have hL2 := Ls_out A1 e2_len (eqL f n)
    generalize outH A1 ((eqL f n).flatMap Go.Eng.e2) (eqL f n).length = A2 at *
    generalize outV 2 A1 (eqL f n).length = y2 at *
    have hL := hL1.mono p2
    simp (maxSteps := 4000000) -implicitDefEqProofs -dsimp (disch := omega) only [↓AW_ops, ↓AW_seq, ↓AOps_nil, ↓AOps_pu, ↓AOps_call, ↓AOps_guard, on_some, extK_false, guardB_ff, ↓then_normal, pval, rd_S, put_S, eq_self, List.replicate_succ, List.replicate_zero, List.set_cons_zero, List.set_cons_succ, List.getElem?_cons_zero, List.getElem?_cons_succ, Option.getD_some, map_c, map_n, List.length_nil, Nat.reduceSub, List.cons_append, List.nil_append, bin_neq, decide_false, not_true_eq_false]
    refine CallK.of (s22 hL hL2 (by omega)) ?_
    simp (maxSteps := 4000000) -implicitDefEqProofs -dsimp (disch := omega) only [↓AW_skip, ↓AW_ops, ↓AW_seq, ↓AW_cond, ↓AW_block, ↓AOps_nil, ↓AOps_pu, ↓AOps_guard, on_some, extK_same, guardB_ff, condB_f, ↓then_normal, pval, rd_S, rd_C, put_S, ↓AW_toLoop, eq_self, List.replicate_succ, List.replicate_zero, List.set_cons_zero, List.set_cons_succ, List.getElem?_cons_zero, List.getElem?_cons_succ, Option.getD_some, List.length_nil, Nat.reduceSub, List.cons_append, List.nil_append, if_false, Bool.false_eq_true, Bool.not_true, decide_true]
    refine LoopK.by 73 (fun i : Nat => 1 ≤ i) (fun i => [(5, y1), (9, I i)]) (fun _ => A2) (fun i => (eqL f n).length - i) 1 (by omega) rfl (by simp [Has, rd_s]) rfl ?_
    intro i h1
    by_cases hlt : i < (eqL f n).length
    · obtain ⟨b, hz⟩ : ∃ z, (eqL f n)[i]? = some z := ⟨_, List.getElem?_eq_getElem hlt⟩
      have hlt' : (i : Int) < (eqL f n).length := by omega
      obtain ⟨k, rfl⟩ : ∃ k, i = k + 1 := ⟨i - 1, by omega⟩
      obtain ⟨a, hza⟩ : ∃ a, (eqL f n)[k]? = some a := ⟨_, List.getElem?_eq_getElem (by omega)⟩
      obtain ⟨p, q, rfl, rfl, hp, hq, hpq⟩ := l3 k a b hza hz
      have hidx := hL.idxI (k := .i64) (i := ((k + 1 : Nat) : Int) - 1) (by omega) (by omega)
      have ek : (((k + 1 : Nat) : Int) - 1).toNat = k := by omega
      rw [ek] at hidx
      have hdp : ¬ (p.den : Int) < 1 := by have := den_pos p; omega
      have hdq : ¬ (q.den : Int) < 1 := by have := den_pos q; omega
      have hnl := Rat.not_lt.2 hpq
      simp (maxSteps := 4000000) -implicitDefEqProofs -dsimp (disch := omega) only [↓AW_skip, ↓AW_ops, ↓AW_seq, ↓AW_cond, ↓AW_block, ↓AOps_nil, ↓AOps_pu, ↓AOps_ld, ↓AOps_call, ↓AOps_guard, on_some, guardB_ff, condB_t, ↓then_normal, pval, lval, rd_S, rd_C, put_S, partA, eq_self, mk, List.foldl_cons, List.foldl_nil, List.replicate_succ, List.replicate_zero, List.set_cons_zero, List.set_cons_succ, List.getElem?_cons_zero, List.getElem?_cons_succ, List.drop_zero, List.drop_succ_cons, List.take_succ_cons, List.take_nil, Option.getD_some, map_c, map_n, List.length_cons, List.length_nil, Nat.reduceAdd, Nat.reduceLeDiff, Nat.zero_add, bin_sub, bin_lss, w64, if_true, if_false, Bool.false_eq_true, decide_true, decide_false, Go.Eng.e2, hlt', hL.len, hL.idx hlt, hL.ld hz 1 1 false (by decide), hidx, hL.ld hza 1 1 false (by decide), hdp, hdq]
      refine CallK.of (s23 hL (by omega)) ?_
      rw [decide_eq_true l2]
      simp (maxSteps := 4000000) -implicitDefEqProofs -dsimp (disch := omega) only [↓AOps_pu, ↓AOps_ld, ↓AOps_call, ↓AOps_guard, on_some, extK_same, guardB_ff, pval, lval, rd_S, rd_C, put_S, partA, eq_self, mk, List.foldl_cons, List.foldl_nil, List.replicate_succ, List.replicate_zero, List.set_cons_zero, List.set_cons_succ, List.getElem?_cons_zero, List.getElem?_cons_succ, List.drop_zero, List.take_succ_cons, List.take_nil, Option.getD_some, map_c, map_n, List.length_cons, List.length_nil, Nat.reduceAdd, Nat.reduceLeDiff, Nat.reduceEqDiff, Nat.zero_add, bin_sub, w64, if_true, if_false, Bool.false_eq_true, Bool.not_true, Go.Eng.e2, hL.idx hlt, hL.ld0 hz 2 true (by decide), hidx, hL.ld0 hza 2 true (by decide)]
      refine CallK.of (s24 q p _ hq hp) ?_
      simp (maxSteps := 4000000) -implicitDefEqProofs -dsimp (disch := omega) only [↓AW_skip, ↓AW_ops, ↓AW_cond, ↓AOps_nil, ↓AOps_pu, on_some, extK_same, condB_f, ↓then_normal, ↓inBlock_normal, pval, rd_S, rd_C, put_S, eq_self, mk, List.foldl_cons, List.foldl_nil, List.replicate_succ, List.replicate_zero, List.set_cons_zero, List.set_cons_succ, List.getElem?_cons_zero, List.getElem?_cons_succ, Option.getD_some, List.length_cons, List.length_nil, Nat.reduceAdd, Nat.zero_add, bin_add, w64, if_false, Bool.false_eq_true, decide_false, true_and, hnl]
      exact ⟨k + 1 + 1, by omega, by simp [Has, rd_s], by omega⟩
    · have hlt' : ¬ ((i : Int) < (eqL f n).length) := by omega
      simp (maxSteps := 4000000) -implicitDefEqProofs -dsimp (disch := omega) only [↓AW_ops, ↓AW_seq, ↓AW_cond, ↓AW_exit, ↓AOps_nil, ↓AOps_pu, ↓AOps_call, on_some, condB_f, ↓then_normal, ↓then_exit, ↓inBlock_exit, pval, rd_S, put_S, eq_self, mk, List.foldl_cons, List.foldl_nil, List.replicate_succ, List.replicate_zero, List.set_cons_zero, List.set_cons_succ, List.getElem?_cons_zero, List.getElem?_cons_succ, Option.getD_some, map_n, bin_lss, if_true, decide_false, hlt', hL.len]
      refine CallK.of (known _) ?_
      simp (maxSteps := 4000000) -implicitDefEqProofs -dsimp (disch := omega) only [↓AW_ret, ↓AOps_nil, ↓AOps_pu, on_some, extK_same, ↓then_normal, ↓Fin_ret, pval, rd_S, put_S, resV, resL, mk, List.foldl_cons, List.foldl_nil, List.replicate_succ, List.replicate_zero, List.set_cons_zero, List.set_cons_succ, List.getElem?_cons_zero, List.getElem?_cons_succ, Option.getD_some]
      exact gc_val (p1.trans p2) rfl

end Go.Proofs.Ytnnbggcckabhdaa
