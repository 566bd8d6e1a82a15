/- Soil: what lies between two places that are asked for. No conditions. -/
import Derived.Test.YtnnbggcckabhdaaW11
namespace Go.Proofs.Ytnnbggcckabhdaa
open Go Go.Eng

abbrev qr (r : Int × Int) : Rat := (r.1 : Rat) / (r.2 : Rat)

theorem isP_R {f : List (Int × Int)} {r : Int × Int} (h : isP f r) : AV.agg [I r.1, I r.2] = R (qr r) ∧ Pl f (qr r) := by
  obtain ⟨⟨⟨h1, h2⟩, h3⟩, h4, h5⟩ := h
  have e := R_of (a := r.1) (b := r.2) (by omega) h3
  obtain ⟨e1, e2⟩ := R_inj e.symm
  exact ⟨e, ⟨by rw [e1]; exact h4, by rw [e1, e2]; exact h5⟩, by rw [e2]; omega⟩

theorem s71P {f : List (Int × Int)} {v : AV} {A : AHeap} (hf : L2 A v f) (hg : good f) (r : Int × Int) (h : W r.1) :
    ACalls Try.prog 71 [v, .agg [I r.1, I r.2], I 1000] A (B (decide (isP f r))) A := by
  have e := s71 hf hg r 1000 h (by omega)
  rw [show decide (isP f r) = decide (((1 ≤ r.2 ∧ r.2 ≤ 1000) ∧ Int.gcd r.1 r.2 = 1) ∧ (0 ≤ r.1 ∧ r.1 ≤ len f * r.2)) from decide_eq_decide.2 Iff.rfl]
  exact e

def wE (f : List (Int × Int)) (r s : Int × Int) : Int := if aE f [r, s] = 0 then (if qr s < qr r then 1 else 0) else aE f [r, s]
def wV (f : List (Int × Int)) (r s : Int × Int) : AV := if wE f r s = 0 then R (upTo 0 f (qr s) - upTo 0 f (qr r)) else zeroR
theorem wV_agg (f : List (Int × Int)) (r s : Int × Int) : ∃ a b, wV f r s = .agg [I a, I b] := by
  unfold wV zeroR R; split <;> exact ⟨_, _, rfl⟩

theorem aE2 {f : List (Int × Int)} {r s : Int × Int} (h0 : vE f = 0) : aE f [r, s] = if isP f r ∧ isP f s then 0 else 1 := by
  unfold aE
  rw [if_pos h0]
  congr 1
  simp

theorem wE_0 {f : List (Int × Int)} {r s : Int × Int} (h : wE f r s = 0) : vE f = 0 ∧ isP f r ∧ isP f s ∧ qr r ≤ qr s := by
  unfold wE at h
  split at h
  · rename_i h1
    split at h
    · cases h
    · rename_i h2
      have h0 : vE f = 0 := by
        unfold aE at h1
        split at h1
        · assumption
        · exact h1
      rw [aE2 h0] at h1
      split at h1
      · rename_i h3; exact ⟨h0, h3.1, h3.2, Rat.not_lt.1 h2⟩
      · cases h1
  · rename_i h1; exact absurd h h1

theorem wE_ok {f : List (Int × Int)} {r s : Int × Int} (h0 : vE f = 0) (h1 : isP f r) (h2 : isP f s) (h3 : qr r ≤ qr s) : wE f r s = 0 := by
  have := Rat.not_lt.2 h3
  simp [wE, aE2 h0, h1, h2, this]

theorem s25 {f : List (Int × Int)} {v : AV} {A : AHeap} (hf : L2 A v f) (r s : Int × Int) (hr : W r.1) (hs : W s.1) :
    ACalls Try.prog 25 [v, .agg [I r.1, I r.2], .agg [I s.1, I s.2]] A (.tuple [wV f r s, I (wE f r s)]) A := by
  refine acalls hmix Try.func25 (by kernel_rfl) t25 3 rfl (by decide) ?_
  dsimp only [m25]
  simp (maxSteps := 4000000) -implicitDefEqProofs -dsimp (disch := omega) only [↓AW_ops, ↓AW_seq, ↓AOps_nil, ↓AOps_pu, ↓AOps_call, on_some, ↓then_normal, pval, rd_S, rd_C, put_S, AV.cells?, List.replicate_succ, List.replicate_zero, List.set_cons_zero, List.set_cons_succ, List.getElem?_cons_zero, List.getElem?_cons_succ, Option.getD_some, map_c, map_n, Nat.reduceSub, List.cons_append, List.nil_append]
  refine CallK.of (s37 hf) ?_
  by_cases h0 : vE f = 0
  · have hg := (good_of h0).1
    simp (maxSteps := 4000000) -implicitDefEqProofs -dsimp (disch := omega) only [↓AW_skip, ↓AW_ops, ↓AW_seq, ↓AW_cond, ↓AOps_nil, ↓AOps_pu, ↓AOps_call, on_some, extK_same, condB_f, ↓then_normal, pval, rd_S, rd_C, put_S, chkd, bgot, partA, eq_self, List.replicate_succ, List.replicate_zero, List.set_cons_zero, List.set_cons_succ, List.getElem?_cons_zero, List.getElem?_cons_succ, List.drop_zero, List.take_succ_cons, List.take_nil, Option.getD_some, map_c, map_n, List.length_cons, List.length_nil, Nat.reduceAdd, Nat.reduceSub, Nat.reduceLeDiff, Nat.reduceEqDiff, Nat.zero_add, List.cons_append, List.nil_append, bin_neq, if_true, if_false, decide_false, not_true_eq_false, h0]
    refine CallK.of (s71P hf hg r hr) ?_
    by_cases h1 : isP f r
    · simp (maxSteps := 4000000) -implicitDefEqProofs -dsimp (disch := omega) only [↓AOps_pu, ↓AOps_call, ↓AOps_guard, on_some, extK_same, guardB_ff, pval, rd_S, rd_C, put_S, chkd, bgot, partA, eq_self, List.replicate_succ, List.replicate_zero, List.set_cons_zero, List.set_cons_succ, List.getElem?_cons_zero, List.getElem?_cons_succ, List.drop_zero, List.take_succ_cons, List.take_nil, Option.getD_some, map_c, map_n, List.length_cons, List.length_nil, Nat.reduceAdd, Nat.reduceSub, Nat.reduceLeDiff, Nat.reduceEqDiff, Nat.zero_add, List.cons_append, List.nil_append, if_true, if_false, Bool.not_true, decide_true, h1]
      refine CallK.of (s71P hf hg s hs) ?_
      by_cases h2 : isP f s
      · simp (maxSteps := 4000000) -implicitDefEqProofs -dsimp (disch := omega) only [↓AOps_pu, ↓AOps_call, ↓AOps_guard, on_some, extK_same, guardB_ff, pval, rd_S, rd_C, put_S, chkd, bgot, partA, eq_self, List.replicate_succ, List.replicate_zero, List.set_cons_zero, List.set_cons_succ, List.getElem?_cons_zero, List.getElem?_cons_succ, List.drop_zero, List.take_succ_cons, List.take_nil, Option.getD_some, map_c, map_n, List.length_cons, List.length_nil, Nat.reduceAdd, Nat.reduceSub, Nat.reduceLeDiff, Nat.reduceEqDiff, Nat.zero_add, List.cons_append, List.nil_append, if_true, if_false, Bool.false_eq_true, Bool.not_true, decide_true, h2]
        have wb : wE f r s = if qr s < qr r then 1 else 0 := by simp [wE, aE2 h0, h1, h2]
        have wv : wV f r s = if wE f r s = 0 then R (upTo 0 f (qr s) - upTo 0 f (qr r)) else zeroR := rfl
        obtain ⟨er, p1⟩ := isP_R h1
        obtain ⟨es, p2⟩ := isP_R h2
        rw [er, es]
        generalize qr r = p at *
        generalize qr s = q at *
        refine CallK.of (s72 p q _ (p1.sm hg) (p2.sm hg)) ?_
        by_cases h3 : q < p
        · have hn := (sub_pos_iff p q).2 h3
          simp (maxSteps := 4000000) -implicitDefEqProofs -dsimp (disch := omega) only [↓AW_ops, ↓AW_seq, ↓AW_cond, ↓AW_ret, ↓AOps_nil, ↓AOps_pu, ↓AOps_guard, on_some, extK_same, guardB_ff, condB_t, ↓then_normal, ↓then_ret, ↓Fin_ret, pval, rd_S, rd_C, put_S, resV, resL, chkd, bput, bgot, AV.cells?, splice, partA, fillA, eq_self, List.replicate_succ, List.replicate_zero, List.set_cons_zero, List.set_cons_succ, List.getElem?_cons_zero, List.getElem?_cons_succ, List.drop_zero, List.drop_succ_cons, List.drop_nil, List.take_zero, List.take_succ_cons, List.take_nil, Option.getD_some, Option.map_some, map_n, List.length_cons, List.length_nil, Nat.reduceAdd, Nat.reduceSub, Nat.reduceLeDiff, Nat.reduceEqDiff, Nat.zero_add, List.cons_append, List.nil_append, List.append_nil, bin_gtr, if_true, if_false, Bool.false_eq_true, decide_true, ne_eq, not_true_eq_false, hn]
          exact gc_same (by rw [wv, wb]; simp [h3, zeroR])
        · have hn : ¬ 0 < (p - q).num := fun x => h3 ((sub_pos_iff p q).1 x)
          simp (maxSteps := 4000000) -implicitDefEqProofs -dsimp (disch := omega) only [↓AW_skip, ↓AW_ops, ↓AW_seq, ↓AW_cond, ↓AOps_nil, ↓AOps_pu, ↓AOps_call, ↓AOps_guard, on_some, extK_same, guardB_ff, condB_f, ↓then_normal, pval, rd_S, rd_C, put_S, chkd, bgot, partA, eq_self, List.replicate_succ, List.replicate_zero, List.set_cons_zero, List.set_cons_succ, List.getElem?_cons_zero, List.getElem?_cons_succ, List.drop_zero, List.take_succ_cons, List.take_nil, Option.getD_some, map_c, map_n, List.length_cons, List.length_nil, Nat.reduceAdd, Nat.reduceSub, Nat.reduceLeDiff, Nat.reduceEqDiff, Nat.zero_add, List.cons_append, List.nil_append, bin_gtr, if_true, if_false, Bool.false_eq_true, decide_false, hn]
          refine CallK.of (s73 hf hg p q p1 p2 (Rat.not_lt.1 h3)) ?_
          simp (maxSteps := 4000000) -implicitDefEqProofs -dsimp (disch := omega) only [↓AW_ret, ↓AOps_nil, ↓AOps_pu, on_some, extK_same, ↓then_normal, ↓Fin_ret, pval, rd_S, rd_C, put_S, resV, resL, chkd, bput, bgot, AV.cells?, splice, partA, eq_self, List.replicate_succ, List.replicate_zero, List.set_cons_zero, List.set_cons_succ, List.getElem?_cons_zero, List.getElem?_cons_succ, List.drop_zero, List.drop_succ_cons, List.drop_nil, List.take_zero, List.take_succ_cons, List.take_nil, Option.getD_some, List.length_cons, List.length_nil, Nat.reduceAdd, Nat.reduceSub, Nat.reduceLeDiff, Nat.reduceEqDiff, Nat.zero_add, List.cons_append, List.nil_append, List.append_nil, if_true, if_false, ne_eq, not_true_eq_false]
          exact gc_same (by rw [wv, wb]; simp [h3])
      · simp (maxSteps := 4000000) -implicitDefEqProofs -dsimp (disch := omega) only [↓AW_ops, ↓AW_seq, ↓AW_cond, ↓AW_ret, ↓AOps_nil, ↓AOps_pu, ↓AOps_guard, on_some, extK_same, guardB_tf, guardB_ff, skipS_some, condB_t, ↓then_normal, ↓then_ret, ↓Fin_ret, pval, rd_S, rd_C, put_S, resV, resL, chkd, bput, bgot, AV.cells?, splice, partA, fillA, eq_self, List.replicate_succ, List.replicate_zero, List.set_cons_zero, List.set_cons_succ, List.getElem?_cons_zero, List.getElem?_cons_succ, List.drop_zero, List.drop_succ_cons, List.drop_nil, List.take_zero, List.take_succ_cons, List.take_nil, Option.getD_some, Option.map_some, map_n, List.length_cons, List.length_nil, Nat.reduceAdd, Nat.reduceSub, Nat.reduceLeDiff, Nat.reduceEqDiff, Nat.zero_add, List.cons_append, List.nil_append, List.append_nil, if_true, if_false, Bool.false_eq_true, Bool.not_false, decide_false, ne_eq, not_true_eq_false, h2]
        exact gc_same (by simp [wV, wE, aE2 h0, h2, zeroR])
    · simp (maxSteps := 4000000) -implicitDefEqProofs -dsimp (disch := omega) only [↓AW_ops, ↓AW_seq, ↓AW_cond, ↓AW_ret, ↓AOps_nil, ↓AOps_pu, ↓AOps_guard, on_some, extK_same, guardB_tf, skipS_some, condB_t, ↓then_normal, ↓then_ret, ↓Fin_ret, pval, rd_S, rd_C, put_S, resV, resL, chkd, bput, bgot, AV.cells?, splice, partA, fillA, eq_self, List.replicate_succ, List.replicate_zero, List.set_cons_zero, List.set_cons_succ, List.getElem?_cons_zero, List.getElem?_cons_succ, List.drop_zero, List.drop_succ_cons, List.drop_nil, List.take_zero, List.take_succ_cons, List.take_nil, Option.getD_some, Option.map_some, map_n, List.length_cons, List.length_nil, Nat.reduceAdd, Nat.reduceSub, Nat.reduceLeDiff, Nat.reduceEqDiff, Nat.zero_add, List.cons_append, List.nil_append, List.append_nil, if_true, if_false, Bool.not_false, decide_false, ne_eq, not_true_eq_false, h1]
      exact gc_same (by simp [wV, wE, aE2 h0, h1, zeroR])
  · simp (maxSteps := 4000000) -implicitDefEqProofs -dsimp (disch := omega) only [↓AW_ops, ↓AW_seq, ↓AW_cond, ↓AW_ret, ↓AOps_nil, ↓AOps_pu, on_some, extK_same, condB_t, ↓then_normal, ↓then_ret, ↓Fin_ret, pval, rd_S, rd_C, put_S, resV, resL, chkd, bput, bgot, AV.cells?, splice, partA, fillA, eq_self, List.replicate_succ, List.replicate_zero, List.set_cons_zero, List.set_cons_succ, List.getElem?_cons_zero, List.getElem?_cons_succ, List.drop_zero, List.drop_succ_cons, List.drop_nil, List.take_zero, List.take_succ_cons, List.take_nil, Option.getD_some, Option.map_some, map_n, List.length_cons, List.length_nil, Nat.reduceAdd, Nat.reduceSub, Nat.reduceLeDiff, Nat.reduceEqDiff, Nat.zero_add, List.cons_append, List.nil_append, List.append_nil, bin_neq, if_true, if_false, decide_true, ne_eq, not_true_eq_false, not_false_eq_true, h0]
    exact gc_same (by simp [wV, wE, aE, h0, zeroR])

theorem L2_two (A : AHeap) (r s : Int × Int) : L2 (A ++ [.cells true [I r.1, I r.2, I s.1, I s.2]]) (.sl 2 A.length 0 2 true) [r, s] := ⟨e2_len, by simp [slCells, cellsAt, e2]⟩
theorem L2_one (A : AHeap) (r : Int × Int) : L2 (A ++ [.cells true [I r.1, I r.2]]) (.sl 2 A.length 0 1 true) [r] := ⟨e2_len, by simp [slCells, cellsAt, e2]⟩

theorem s75P {f : List (Int × Int)} {u : AV} {A : AHeap} (hu : L1 A u (units f)) (hg : good f) (p q : Rat) (hp : Pl f p) (hq : Pl f q) : ACalls Try.prog 75 [u, R p, R q] A (R (upTo 0 f q - upTo 0 f p)) A := by
  have hl := len_units hg.2
  have hb := len_bound hg
  rw [← upTo_units p f 0 hg.2, ← upTo_units q f 0 hg.2]
  exact s75 hu (by omega) (units_le hg.2) p q (hp.sm hg) (hq.sm hg) hp.1.1 (by rw [hl]; exact hp.1.2) hq.1.1 (by rw [hl]; exact hq.1.2)

theorem s26 {f : List (Int × Int)} {v : AV} {A : AHeap} (hf : L2 A v f) (r s : Int × Int) (hr : W r.1) (hs : W s.1) :
    ACalls Try.prog 26 [v, .agg [I r.1, I r.2], .agg [I s.1, I s.2]] A (.tuple [wV f r s, I (wE f r s)]) A := by
  refine acalls hmix Try.func26 (by kernel_rfl) t26 3 rfl (by decide) ?_
  dsimp only [m26]
  simp (maxSteps := 4000000) -implicitDefEqProofs -dsimp (disch := omega) only [↓AW_ops, ↓AW_seq, ↓AOps_nil, ↓AOps_pu, ↓AOps_ha, ↓AOps_call, on_some, extK_app, ↓then_normal, pval, hval, rd_S, rd_C, put_S, chkd, bgot, AV.cells?, splice, partA, fillA, repl, eq_self, List.replicate_succ, List.replicate_zero, List.set_cons_zero, List.set_cons_succ, List.getElem?_cons_zero, List.getElem?_cons_succ, List.drop_zero, List.drop_succ_cons, List.drop_nil, List.take_zero, List.take_succ_cons, List.take_nil, Option.getD_some, map_c, map_n, List.length_cons, List.length_nil, Nat.reduceAdd, Nat.reduceSub, Nat.reduceLeDiff, Nat.reduceEqDiff, Nat.zero_add, List.cons_append, List.nil_append, List.append_nil, if_true, if_false, and_true]
  have hf2 := hf.mono (pre_app A [.cells true [I r.1, I r.2, I s.1, I s.2]])
  refine CallK.of (s74 hf2 (L2_two A r s) (by simp) (by simp; exact ⟨hr, hs⟩)) ?_
  by_cases ha : aE f [r, s] = 0
  · have h0 : vE f = 0 := by
      unfold aE at ha
      split at ha
      · assumption
      · exact ha
    have hg := (good_of h0).1
    have ha' := ha
    rw [aE2 h0] at ha'
    have h12 : isP f r ∧ isP f s := by
      split at ha'
      · assumption
      · cases ha'
    obtain ⟨h1, h2⟩ := h12
    have wb : wE f r s = if qr s < qr r then 1 else 0 := by simp [wE, ha]
    have wv : wV f r s = if wE f r s = 0 then R (upTo 0 f (qr s) - upTo 0 f (qr r)) else zeroR := rfl
    obtain ⟨er, p1⟩ := isP_R h1
    obtain ⟨es, p2⟩ := isP_R h2
    simp (maxSteps := 4000000) -implicitDefEqProofs -dsimp (disch := omega) only [↓AW_skip, ↓AW_ops, ↓AW_seq, ↓AW_cond, ↓AOps_nil, ↓AOps_pu, ↓AOps_call, on_some, extK_same, condB_f, ↓then_normal, pval, rd_S, rd_C, put_S, chkd, bgot, partA, eq_self, List.replicate_succ, List.replicate_zero, List.set_cons_zero, List.set_cons_succ, List.getElem?_cons_zero, List.getElem?_cons_succ, List.drop_zero, List.take_succ_cons, List.take_nil, Option.getD_some, map_c, map_n, List.length_cons, List.length_nil, Nat.reduceAdd, Nat.reduceSub, Nat.reduceLeDiff, Nat.reduceEqDiff, Nat.zero_add, List.cons_append, List.nil_append, bin_neq, if_true, if_false, decide_false, not_true_eq_false, ha]
    rw [er, es]
    generalize qr r = p at *
    generalize qr s = q at *
    refine CallK.of (s24 q p _ (p2.sm hg) (p1.sm hg)) ?_
    by_cases h3 : q < p
    · simp (maxSteps := 4000000) -implicitDefEqProofs -dsimp (disch := omega) only [↓AW_ops, ↓AW_seq, ↓AW_cond, ↓AW_ret, ↓AOps_nil, ↓AOps_pu, on_some, extK_same, condB_t, ↓then_normal, ↓then_ret, ↓Fin_ret, pval, rd_S, rd_C, put_S, resV, resL, chkd, bput, bgot, AV.cells?, splice, partA, fillA, eq_self, List.replicate_succ, List.replicate_zero, List.set_cons_zero, List.set_cons_succ, List.getElem?_cons_zero, List.getElem?_cons_succ, List.drop_zero, List.drop_succ_cons, List.drop_nil, List.take_zero, List.take_succ_cons, List.take_nil, Option.getD_some, Option.map_some, map_n, List.length_cons, List.length_nil, Nat.reduceAdd, Nat.reduceSub, Nat.reduceLeDiff, Nat.reduceEqDiff, Nat.zero_add, List.cons_append, List.nil_append, List.append_nil, if_true, if_false, decide_true, ne_eq, not_true_eq_false, h3]
      exact gc_val (pre_app A _) (by rw [wv, wb]; simp [h3, zeroR, ren])
    · simp (maxSteps := 4000000) -implicitDefEqProofs -dsimp (disch := omega) only [↓AW_skip, ↓AW_ops, ↓AW_seq, ↓AW_cond, ↓AOps_nil, ↓AOps_pu, ↓AOps_call, on_some, extK_same, condB_f, ↓then_normal, pval, rd_S, put_S, List.replicate_succ, List.replicate_zero, List.set_cons_zero, List.set_cons_succ, List.getElem?_cons_zero, List.getElem?_cons_succ, Option.getD_some, map_c, map_n, Nat.reduceSub, List.cons_append, List.nil_append, decide_false, h3]
      refine CallK.of (s68 hf2 hg) ?_
      have hu := Ls_out (A ++ [.cells true [I r.1, I r.2, I s.1, I s.2]]) e1_len (units f)
      have hpre := pre_out (A ++ [.cells true [I r.1, I r.2, I s.1, I s.2]]) ((units f).flatMap e1) (units f).length
      simp (maxSteps := 4000000) -implicitDefEqProofs -dsimp (disch := omega) only [↓AOps_pu, ↓AOps_call, on_some, extK_false, pval, rd_S, put_S, chkd, bgot, partA, eq_self, List.replicate_succ, List.replicate_zero, List.set_cons_zero, List.set_cons_succ, List.getElem?_cons_zero, List.getElem?_cons_succ, List.drop_zero, List.take_succ_cons, List.take_nil, Option.getD_some, map_c, map_n, List.length_cons, List.length_nil, Nat.reduceAdd, Nat.reduceSub, Nat.reduceLeDiff, Nat.reduceEqDiff, Nat.zero_add, List.cons_append, List.nil_append, if_true, if_false]
      refine CallK.of (s75P hu hg p q p1 p2) ?_
      simp (maxSteps := 4000000) -implicitDefEqProofs -dsimp (disch := omega) only [↓AW_ret, ↓AOps_nil, ↓AOps_pu, on_some, extK_same, ↓then_normal, ↓Fin_ret, pval, rd_S, rd_C, put_S, resV, resL, chkd, bput, bgot, AV.cells?, splice, partA, eq_self, List.replicate_succ, List.replicate_zero, List.set_cons_zero, List.set_cons_succ, List.getElem?_cons_zero, List.getElem?_cons_succ, List.drop_zero, List.drop_succ_cons, List.drop_nil, List.take_zero, List.take_succ_cons, List.take_nil, Option.getD_some, List.length_cons, List.length_nil, Nat.reduceAdd, Nat.reduceSub, Nat.reduceLeDiff, Nat.reduceEqDiff, Nat.zero_add, List.cons_append, List.nil_append, List.append_nil, if_true, if_false, ne_eq, not_true_eq_false]
      exact gc_val ((pre_app A _).trans hpre) (by rw [wv, wb]; simp [h3, ren])
  · simp (maxSteps := 4000000) -implicitDefEqProofs -dsimp (disch := omega) only [↓AW_ops, ↓AW_seq, ↓AW_cond, ↓AW_ret, ↓AOps_nil, ↓AOps_pu, on_some, extK_same, condB_t, ↓then_normal, ↓then_ret, ↓Fin_ret, pval, rd_S, rd_C, put_S, resV, resL, chkd, bput, bgot, AV.cells?, splice, partA, fillA, eq_self, List.replicate_succ, List.replicate_zero, List.set_cons_zero, List.set_cons_succ, List.getElem?_cons_zero, List.getElem?_cons_succ, List.drop_zero, List.drop_succ_cons, List.drop_nil, List.take_zero, List.take_succ_cons, List.take_nil, Option.getD_some, Option.map_some, map_n, List.length_cons, List.length_nil, Nat.reduceAdd, Nat.reduceSub, Nat.reduceLeDiff, Nat.reduceEqDiff, Nat.zero_add, List.cons_append, List.nil_append, List.append_nil, bin_neq, if_true, if_false, decide_true, ne_eq, not_true_eq_false, not_false_eq_true, ha]
    exact gc_val (pre_app A _) (by simp [wV, wE, ha, zeroR, ren])

set_option maxRecDepth 100000 in
set_option maxHeartbeats 4000000 in
theorem s4 {f : List (Int × Int)} {v : AV} {A : AHeap} (hf : L2 A v f) (a b c d : Int) (ha : W a) (hc : W c) : ACalls Try.prog 4 [v, .agg [I a, I b, I c, I d]] A (B true) A := by
  refine acalls hmix Try.func4 (by kernel_rfl) t4 2 rfl (by decide) ?_
  dsimp only [m4]
  simp (maxSteps := 4000000) -implicitDefEqProofs -dsimp (disch := omega) only [↓AW_ops, ↓AW_seq, ↓AOps_nil, ↓AOps_pu, ↓AOps_call, on_some, ↓then_normal, pval, rd_S, rd_C, put_S, AV.cells?, List.replicate_succ, List.replicate_zero, List.set_cons_zero, List.set_cons_succ, List.getElem?_cons_zero, List.getElem?_cons_succ, Option.getD_some, map_c, map_n, Nat.reduceSub, List.cons_append, List.nil_append]
  refine CallK.of (s18 hf (L2_nil A)) ?_
  by_cases h : (100 : Int) < f.length
  · simp (maxSteps := 4000000) -implicitDefEqProofs -dsimp (disch := omega) only [↓AW_ops, ↓AW_seq, ↓AW_cond, ↓AOps_nil, ↓AOps_call, extK_same, condB_t, ↓then_normal, rd_S, put_S, List.replicate_succ, List.replicate_zero, List.set_cons_zero, List.set_cons_succ, List.getElem?_cons_zero, List.getElem?_cons_succ, Option.getD_some, map_n, List.length_nil, Nat.reduceSub, List.cons_append, List.nil_append, decide_true, h, true_or]
    refine CallK.of (known A) ?_
    simp (maxSteps := 4000000) -implicitDefEqProofs -dsimp (disch := omega) only [↓AW_ret, ↓AOps_nil, ↓AOps_pu, on_some, extK_same, ↓then_normal, ↓then_ret, ↓Fin_ret, pval, rd_S, put_S, resV, resL, List.replicate_succ, List.replicate_zero, List.set_cons_zero, List.set_cons_succ, List.getElem?_cons_zero, List.getElem?_cons_succ, Option.getD_some, List.length_nil, Nat.reduceSub, List.cons_append, List.nil_append]
    exact gc_same rfl
  · obtain ⟨x, y, hm⟩ := wV_agg f (a, b) (c, d)
    simp (maxSteps := 4000000) -implicitDefEqProofs -dsimp (disch := omega) only [↓AW_skip, ↓AW_ops, ↓AW_seq, ↓AW_cond, ↓AOps_nil, ↓AOps_pu, ↓AOps_call, on_some, extK_same, condB_f, ↓then_normal, pval, rd_S, put_S, chkd, isAdr, bgot, AV.cells?, partA, eq_self, List.replicate_succ, List.replicate_zero, List.set_cons_zero, List.set_cons_succ, List.getElem?_cons_zero, List.getElem?_cons_succ, List.drop_zero, List.drop_succ_cons, List.take_zero, List.take_succ_cons, List.take_nil, Option.getD_some, map_c, map_n, List.length_cons, List.length_nil, Nat.reduceAdd, Nat.reduceSub, Nat.reduceLeDiff, Nat.reduceEqDiff, Nat.zero_add, List.cons_append, List.nil_append, if_true, if_false, decide_false, Int.reduceLT, h, false_or, Int.cast_ofNat_Int]
    refine CallK.of (s25 hf (a, b) (c, d) ha hc) ?_
    simp (maxSteps := 4000000) -implicitDefEqProofs -dsimp (disch := omega) only [↓AW_ops, ↓AW_seq, ↓AOps_nil, ↓AOps_pu, ↓AOps_call, on_some, extK_same, ↓then_normal, pval, rd_S, rd_C, put_S, chkd, isAdr, bput, bgot, AV.cells?, splice, partA, eq_self, List.replicate_succ, List.replicate_zero, List.set_cons_zero, List.set_cons_succ, List.getElem?_cons_zero, List.getElem?_cons_succ, List.drop_zero, List.drop_succ_cons, List.drop_nil, List.take_zero, List.take_succ_cons, List.take_nil, Option.getD_some, map_c, map_n, List.length_cons, List.length_nil, Nat.reduceAdd, Nat.reduceSub, Nat.reduceLeDiff, Nat.reduceEqDiff, Nat.zero_add, List.cons_append, List.nil_append, List.append_nil, if_true, if_false, ne_eq, not_true_eq_false, hm]
    refine CallK.of (s26 hf (a, b) (c, d) ha hc) ?_
    simp (maxSteps := 4000000) -implicitDefEqProofs -dsimp (disch := omega) only [↓AW_ops, ↓AW_seq, ↓AOps_nil, ↓AOps_pu, ↓AOps_call, ↓AOps_guard, on_some, extK_same, guardB_tt, ↓then_normal, pval, rd_S, rd_C, put_S, chkd, bput, bgot, AV.cells?, splice, partA, eqc, beq_self_eq_true, eq_self, List.replicate_succ, List.replicate_zero, List.set_cons_zero, List.set_cons_succ, List.getElem?_cons_zero, List.getElem?_cons_succ, List.drop_zero, List.drop_succ_cons, List.drop_nil, List.take_zero, List.take_succ_cons, List.take_nil, Option.getD_some, Option.map_some, map_n, List.length_cons, List.length_nil, Nat.reduceAdd, Nat.reduceSub, Nat.reduceLeDiff, Nat.reduceEqDiff, Nat.zero_add, List.cons_append, List.nil_append, List.append_nil, bin_eql, if_true, if_false, Bool.false_eq_true, Bool.true_and, decide_true, ne_eq, not_true_eq_false, hm]
    refine CallK.of (known A) ?_
    simp (maxSteps := 4000000) -implicitDefEqProofs -dsimp (disch := omega) only [↓AW_ret, ↓AOps_nil, ↓AOps_pu, on_some, extK_same, ↓then_normal, ↓Fin_ret, pval, rd_S, rd_C, put_S, resV, resL, eq_self, List.replicate_succ, List.replicate_zero, List.set_cons_zero, List.set_cons_succ, List.getElem?_cons_zero, List.getElem?_cons_succ, Option.getD_some, List.length_nil, Nat.reduceSub, List.cons_append, List.nil_append, if_true]
    exact gc_same rfl

end Go.Proofs.Ytnnbggcckabhdaa
