/- Soil: what is asked. No conditions. -/
import Derived.Test.YtnnbggcckabhdaaW7
namespace Go.Proofs.Ytnnbggcckabhdaa
open Go Go.Eng

/-- A place of a field, as it may be asked. -/
def isP (f : List (Int × Int)) (r : Int × Int) : Prop := ((1 ≤ r.2 ∧ r.2 ≤ 1000) ∧ Int.gcd r.1 r.2 = 1) ∧ (0 ≤ r.1 ∧ r.1 ≤ len f * r.2)
instance (f : List (Int × Int)) (r : Int × Int) : Decidable (isP f r) := by unfold isP; exact inferInstance
def aE (f : List (Int × Int)) (ps : List (Int × Int)) : Int := if vE f = 0 then (if ∀ r ∈ ps, isP f r then 0 else 1) else vE f

theorem vI_gcd {r : Int × Int} {m : Int} (h : vI r m) : Int.gcd r.1 r.2 = 1 := by
  obtain ⟨_, h⟩ := h
  split at h
  · rw [h]; simp
  · exact h

theorem aE_bad {f ps : List (Int × Int)} (h0 : vE f = 0) {r : Int × Int} (hr : r ∈ ps) (hb : ¬ isP f r) : aE f ps = 1 := by
  unfold aE
  rw [if_pos h0, if_neg (fun h => hb (h r hr))]

theorem s74 {f ps : List (Int × Int)} {v u : AV} {A : AHeap} (hf : L2 A v f) (hp : L2 A u ps) (hl : ps.length ≤ 100) (hw : ∀ r ∈ ps, W r.1) : ACalls Try.prog 74 [v, u] A (I (aE f ps)) A := by
  refine acalls hmix Try.func74 (by kernel_rfl) t74 2 rfl (by decide) ?_
  dsimp only [m74]
  simp (maxSteps := 4000000) -implicitDefEqProofs -dsimp (disch := omega) only [↓AW_ops, ↓AW_seq, ↓AOps_nil, ↓AOps_pu, ↓AOps_call, on_some, ↓then_normal, pval, rd_S, rd_C, put_S, List.replicate_succ, List.replicate_zero, List.set_cons_zero, List.set_cons_succ, List.getElem?_cons_zero, List.getElem?_cons_succ, Option.getD_some, map_c, map_n, Nat.reduceSub, List.cons_append, List.nil_append]
  refine CallK.of (s38 hf) ?_
  by_cases h0 : vE f = 0
  · have hg := (good_of h0).1
    simp (maxSteps := 4000000) -implicitDefEqProofs -dsimp (disch := omega) only [↓AW_skip, ↓AW_ops, ↓AW_seq, ↓AW_cond, ↓AW_block, ↓AOps_nil, ↓AOps_pu, on_some, extK_same, condB_f, ↓then_normal, pval, rd_S, rd_C, put_S, ↓AW_toLoop, eq_self, List.replicate_succ, List.replicate_zero, List.set_cons_zero, List.set_cons_succ, List.getElem?_cons_zero, List.getElem?_cons_succ, Option.getD_some, Nat.reduceSub, List.cons_append, List.nil_append, bin_neq, decide_false, not_true_eq_false, h0]
    refine LoopK.by 34 (fun x : Nat × AHeap => x.1 ≤ ps.length ∧ A <+: x.2 ∧ ∀ r ∈ ps.take x.1, isP f r) (fun x => [(0, v), (1, u), (6, I x.1)]) (fun x => x.2) (fun x => ps.length - x.1) (0, A) ⟨by omega, List.prefix_refl _, by simp⟩ rfl (by simp [Has, rd_s]) rfl ?_
    rintro ⟨i, A1⟩ ⟨hi, hA, hall⟩
    simp only at hi hA hall
    have hf1 := hf.mono hA
    have hp1 := hp.mono hA
    by_cases hlt : i < ps.length
    · obtain ⟨r, hr⟩ : ∃ r, ps[i]? = some r := ⟨_, List.getElem?_eq_getElem hlt⟩
      have hlt' : (i : Int) < ps.length := by omega
      have hm := List.mem_of_getElem? hr
      simp (maxSteps := 4000000) -implicitDefEqProofs -dsimp (disch := omega) only [↓AW_skip, ↓AW_ops, ↓AW_seq, ↓AW_cond, ↓AW_block, ↓AOps_nil, ↓AOps_pu, ↓AOps_ld, ↓AOps_call, on_some, condB_t, ↓then_normal, pval, lval, rd_S, rd_C, put_S, partA, eq_self, mk, List.foldl_cons, List.foldl_nil, List.replicate_succ, List.replicate_zero, List.set_cons_zero, List.set_cons_succ, List.getElem?_cons_zero, List.getElem?_cons_succ, List.drop_zero, List.take_succ_cons, List.take_nil, Option.getD_some, map_c, map_n, List.length_cons, List.length_nil, Nat.reduceAdd, Nat.reduceLeDiff, Nat.reduceEqDiff, Nat.zero_add, bin_lss, if_true, if_false, decide_true, e2, hlt', hp1.len, hp1.idx hlt, hp1.ld0 hr 2 true (by decide)]
      refine CallK.of (s81 r 1000 _ (hw r hm) (by omega)) ?_
      by_cases h1 : vI r 1000
      · simp (maxSteps := 4000000) -implicitDefEqProofs -dsimp (disch := omega) only [↓AOps_pu, ↓AOps_call, ↓AOps_guard, on_some, extK_same, guardB_ff, pval, rd_S, put_S, mk, List.foldl_cons, List.foldl_nil, List.replicate_succ, List.replicate_zero, List.set_cons_zero, List.set_cons_succ, List.getElem?_cons_zero, List.getElem?_cons_succ, Option.getD_some, map_c, map_n, Bool.not_true, decide_true, h1]
        refine CallK.of (s68 hf1 hg) ?_
        have hu := Ls_out A1 e1_len (units f)
        have hpre := pre_out A1 ((units f).flatMap e1) (units f).length
        have hp2 := hp1.mono hpre
        simp (maxSteps := 4000000) -implicitDefEqProofs -dsimp (disch := omega) only [↓AOps_pu, ↓AOps_ld, ↓AOps_call, ↓AOps_guard, on_some, guardB_ff, pval, lval, rd_S, put_S, partA, eq_self, mk, List.foldl_cons, List.foldl_nil, List.replicate_succ, List.replicate_zero, List.set_cons_zero, List.set_cons_succ, List.getElem?_cons_zero, List.getElem?_cons_succ, List.drop_zero, List.take_succ_cons, List.take_nil, Option.getD_some, map_c, map_n, List.length_cons, List.length_nil, Nat.reduceAdd, Nat.reduceLeDiff, Nat.reduceEqDiff, Nat.zero_add, if_true, if_false, e2, extK_of hpre, hp2.idx hlt, hp2.ld0 hr 2 true (by decide)]
        have hlu := len_units hg.2
        have hlb := len_bound hg
        refine CallK.of (s99 hu (by omega) r (hw r hm) ⟨h1.1.1, by have := h1.1.2; omega⟩ (vI_gcd h1)) ?_
        rw [hlu]
        by_cases h2 : 0 ≤ r.1 ∧ r.1 ≤ len f * r.2
        · simp (maxSteps := 4000000) -implicitDefEqProofs -dsimp (disch := omega) only [↓AW_skip, ↓AW_ops, ↓AW_cond, ↓AOps_nil, ↓AOps_pu, ↓AOps_guard, on_some, extK_same, guardB_ff, condB_f, ↓then_normal, ↓inBlock_normal, pval, rd_S, rd_C, put_S, eq_self, mk, List.foldl_cons, List.foldl_nil, List.replicate_succ, List.replicate_zero, List.set_cons_zero, List.set_cons_succ, List.getElem?_cons_zero, List.getElem?_cons_succ, Option.getD_some, List.length_cons, List.length_nil, Nat.reduceAdd, Nat.zero_add, bin_add, w64, if_false, Bool.false_eq_true, Bool.not_true, decide_true, true_and, and_true, h2]
          refine ⟨(i + 1, _), ⟨hlt, hA.trans hpre, fun y hy => ?_⟩, by simp [Has, rd_s], rfl, by simp only; omega⟩
          rw [List.take_add_one, hr] at hy
          rcases List.mem_append.1 hy with hy | hy
          · exact hall y hy
          · have : y = r := by simpa using hy
            subst this
            exact ⟨⟨h1.1, vI_gcd h1⟩, h2⟩
        · simp (maxSteps := 4000000) -implicitDefEqProofs -dsimp (disch := omega) only [↓AW_ops, ↓AW_seq, ↓AW_cond, ↓AW_ret, ↓AOps_nil, ↓AOps_pu, ↓AOps_guard, on_some, extK_same, guardB_ff, condB_t, ↓then_normal, ↓then_ret, ↓inBlock_ret, ↓Fin_ret, pval, rd_S, rd_C, put_S, resV, resL, mk, List.foldl_cons, List.foldl_nil, List.replicate_succ, List.replicate_zero, List.set_cons_zero, List.set_cons_succ, List.getElem?_cons_zero, List.getElem?_cons_succ, Option.getD_some, if_false, Bool.false_eq_true, Bool.not_false, decide_false, h2]
          exact gc_val (hA.trans hpre) (by rw [aE_bad h0 hm (fun h => h2 h.2)]; rfl)
      · simp (maxSteps := 4000000) -implicitDefEqProofs -dsimp (disch := omega) only [↓AW_ops, ↓AW_seq, ↓AW_cond, ↓AW_ret, ↓AOps_nil, ↓AOps_pu, ↓AOps_guard, on_some, extK_same, guardB_tf, skipS_some, condB_t, ↓then_normal, ↓then_ret, ↓inBlock_ret, ↓Fin_ret, pval, rd_S, rd_C, put_S, resV, resL, eq_self, mk, List.foldl_cons, List.foldl_nil, List.replicate_succ, List.replicate_zero, List.set_cons_zero, List.set_cons_succ, List.getElem?_cons_zero, List.getElem?_cons_succ, Option.getD_some, if_true, Bool.not_false, decide_false, h1]
        refine gc_val hA ?_
        rw [aE_bad h0 hm (fun h => h1 ⟨h.1.1, ?_⟩)]
        · rfl
        · rw [if_neg (by have := h.2.1; omega)]; exact h.1.2
    · have hlt' : ¬ ((i : Int) < ps.length) := by omega
      simp (maxSteps := 4000000) -implicitDefEqProofs -dsimp (disch := omega) only [↓AW_ops, ↓AW_seq, ↓AW_cond, ↓AW_exit, ↓AW_ret, ↓AOps_nil, ↓AOps_pu, on_some, condB_f, ↓then_normal, ↓then_exit, ↓inBlock_exit, ↓Fin_ret, pval, rd_S, rd_C, put_S, resV, resL, eq_self, mk, List.foldl_cons, List.foldl_nil, List.replicate_succ, List.replicate_zero, List.set_cons_zero, List.set_cons_succ, List.getElem?_cons_zero, List.getElem?_cons_succ, Option.getD_some, bin_lss, if_true, decide_false, hlt', hp1.len]
      rw [List.take_of_length_le (by omega)] at hall
      refine gc_val hA ?_
      rw [show aE f ps = 0 by unfold aE; rw [if_pos h0, if_pos hall]]
      rfl
  · simp (maxSteps := 4000000) -implicitDefEqProofs -dsimp (disch := omega) only [↓AW_ops, ↓AW_seq, ↓AW_cond, ↓AW_ret, ↓AOps_nil, ↓AOps_pu, on_some, extK_same, condB_t, ↓then_normal, ↓then_ret, ↓Fin_ret, pval, rd_S, rd_C, put_S, resV, resL, List.replicate_succ, List.replicate_zero, List.set_cons_zero, List.set_cons_succ, List.getElem?_cons_zero, List.getElem?_cons_succ, Option.getD_some, Nat.reduceSub, List.cons_append, List.nil_append, bin_neq, decide_true, not_false_eq_true, h0]
    exact gc_same (by simp [aE, h0])

end Go.Proofs.Ytnnbggcckabhdaa
