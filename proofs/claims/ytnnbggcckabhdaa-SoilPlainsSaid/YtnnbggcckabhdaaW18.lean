/- Soil: places that are asked for. No conditions. -/
import Derived.Test.YtnnbggcckabhdaaW17
namespace Go.Proofs.Ytnnbggcckabhdaa
open Go Go.Eng

/-- A worth that may be asked. -/
def isW (s : Int × Int) : Prop := ((1 ≤ s.2 ∧ s.2 ≤ 1000) ∧ Int.gcd s.1 s.2 = 1) ∧ 0 ≤ s.1
instance (s : Int × Int) : Decidable (isW s) := by unfold isW; exact inferInstance

theorem aE1 {f : List (Int × Int)} {r : Int × Int} (h0 : vE f = 0) : aE f [r] = if isP f r then 0 else 1 := by
  unfold aE
  rw [if_pos h0]
  congr 1
  simp

def plE (f : List (Int × Int)) (r s : Int × Int) : Int := if aE f [r] = 0 then (if isW s then (if (plc f (qr r) (qr s)).isSome then 0 else 8) else 1) else aE f [r]
def plV (f : List (Int × Int)) (r s : Int × Int) : AV := if plE f r s = 0 then oR (plc f (qr r) (qr s)) else zeroR

theorem oR_agg (o : Option Rat) : ∃ a b, oR o = .agg [I a, I b] := by
  cases o <;> exact ⟨_, _, rfl⟩
theorem plV_agg (f : List (Int × Int)) (r s : Int × Int) : ∃ a b, plV f r s = .agg [I a, I b] := by
  unfold plV; split
  · exact oR_agg _
  · exact ⟨_, _, rfl⟩

theorem isW_R {s : Int × Int} (h : isW s) : AV.agg [I s.1, I s.2] = R (qr s) ∧ (qr s).num = s.1 ∧ ((qr s).den : Int) = s.2 := by
  obtain ⟨⟨⟨h1, h2⟩, h3⟩, h4⟩ := h
  have e := R_of (a := s.1) (b := s.2) (by omega) h3
  exact ⟨e, R_inj e.symm⟩

theorem rat_le_lt {a b c : Rat} (h : a ≤ b) (k : b < c) : a < c := by grind

theorem rch_none (x : Rat) : ∀ (us : List Int) (b a : Int), (∀ u ∈ us, 0 ≤ u) → (((a + us.sum : Int) : Rat) < x) → rch b a us x = none
  | [], _, _, _, _ => rfl
  | u :: us, b, a, hu, h => by
    have h0 : 0 ≤ us.sum := by
      have : ∀ l : List Int, (∀ u ∈ l, 0 ≤ u) → 0 ≤ l.sum := by
        intro l
        induction l with
        | nil => intro _; simp
        | cons y l ih => intro h; have := ih (fun z hz => h z (by simp [hz])); have := h y (by simp); simp only [List.sum_cons]; omega
      exact this us (fun z hz => hu z (by simp [hz]))
    have hx : ¬ x ≤ ((a + u : Int) : Rat) := by
      refine Rat.not_le.2 (rat_le_lt (Rat.intCast_le_intCast.2 ?_) h)
      simp only [List.sum_cons]; omega
    rw [rch, if_neg hx]
    refine rch_none x us _ _ (fun z hz => hu z (by simp [hz])) ?_
    rw [show a + u + us.sum = a + (u :: us).sum by simp only [List.sum_cons]; omega]
    exact h

/-- Nothing is found for what is worth more than all. -/
theorem plc_none {f : List (Int × Int)} (hg : good f) {p w : Rat} (hp : 0 ≤ upTo 0 f p) (hw : ((tot f : Int) : Rat) < w) : plc f p w = none := by
  have ht := tot_bound hg
  have h0 : w.num ≠ 0 := by
    have : 0 < w := rat_le_lt (cast_nonneg ht.1) hw
    have h1 := num_pos_iff w |>.2 this
    omega
  unfold plc
  rw [if_neg h0]
  refine rch_none _ _ _ _ (fun u hu => (units_le hg.2 u hu).1) ?_
  rw [sum_units hg.2, Int.zero_add]
  grind

theorem qr_le {s : Int × Int} {n : Int} (hs : 0 < s.2) : qr s ≤ (n : Rat) ↔ s.1 ≤ n * s.2 := by
  have h1 : qr s * (s.2 : Rat) = (s.1 : Rat) := Rat.div_mul_cancel (cast_ne (by omega))
  constructor
  · intro h
    exact rat_le_int hs h1 h
  · intro h
    rcases Rat.le_total (a := qr s) (b := (n : Rat)) with h2 | h2
    · exact h2
    · have h3 := int_le_rat hs h1 h2
      have h4 : s.1 = n * s.2 := by omega
      have : qr s = (n : Rat) := by
        have hne := cast_ne (show s.2 ≠ 0 by omega)
        rw [h4, Rat.intCast_mul] at h1
        generalize (s.2 : Rat) = d at *
        generalize qr s = q at *
        grind
      rw [this]; exact Rat.le_refl

/-- What is known of a worth that is not too great. -/
theorem ask_facts {f : List (Int × Int)} (hg : good f) {r s : Int × Int} (h1 : isP f r) (h2 : isW s) :
    ∃ D : Int, (0 < D ∧ D ≤ 1048576) ∧ Dv D (upTo 0 f (qr r)) ∧ Dv D (qr s) ∧ 0 ≤ qr s := by
  obtain ⟨er, p1⟩ := isP_R h1
  obtain ⟨es, n1, n2⟩ := isW_R h2
  have d1 := (R_inj er.symm).2
  have k1 := h1.1.1
  have k2 := h2.1.1
  refine ⟨(qr r).den * (qr s).den, ⟨Int.mul_pos (den_pos _) (den_pos _), ?_⟩, (upTo_Dv (Dv_self _) f 0).dvd (Int.dvd_mul_right _ _), (Dv_self _).dvd (Int.dvd_mul_left _ _), ?_⟩
  · have : ((qr r).den : Int) * (qr s).den ≤ 1000 * 1000 := Int.mul_le_mul (by omega) (by omega) (by omega) (by omega)
    omega
  · exact Rat.num_nonneg.1 (by rw [n1]; exact h2.2)

theorem s39 {f : List (Int × Int)} {v : AV} {A : AHeap} (hf : L2 A v f) (r s : Int × Int) (hr : W r.1) (hs : W s.1) :
    ACalls Try.prog 39 [v, .agg [I r.1, I r.2], .agg [I s.1, I s.2]] A (.tuple [plV f r s, I (plE f r s)]) A := by
  refine acalls hmix Try.func39 (by kernel_rfl) t39 3 rfl (by decide) ?_
  dsimp only [m39]
  simp (maxSteps := 4000000) -implicitDefEqProofs -dsimp (disch := omega) only [↓AW_ops, ↓AW_seq, ↓AOps_nil, ↓AOps_pu, ↓AOps_call, on_some, ↓then_normal, pval, rd_S, rd_C, put_S, AV.cells?, List.replicate_succ, List.replicate_zero, List.set_cons_zero, List.set_cons_succ, List.getElem?_cons_zero, List.getElem?_cons_succ, Option.getD_some, map_c, map_n, Nat.reduceSub, List.cons_append, List.nil_append]
  refine CallK.of (s37 hf) ?_
  by_cases h0 : vE f = 0
  · have hg := (good_of h0).1
    have ht := tot_bound hg
    simp (maxSteps := 4000000) -implicitDefEqProofs -dsimp (disch := omega) only [↓AW_skip, ↓AW_ops, ↓AW_seq, ↓AW_cond, ↓AOps_nil, ↓AOps_pu, ↓AOps_call, on_some, extK_same, condB_f, ↓then_normal, pval, rd_S, rd_C, put_S, chkd, bgot, partA, eq_self, List.replicate_succ, List.replicate_zero, List.set_cons_zero, List.set_cons_succ, List.getElem?_cons_zero, List.getElem?_cons_succ, List.drop_zero, List.take_succ_cons, List.take_nil, Option.getD_some, map_c, map_n, List.length_cons, List.length_nil, Nat.reduceAdd, Nat.reduceSub, Nat.reduceLeDiff, Nat.reduceEqDiff, Nat.zero_add, List.cons_append, List.nil_append, bin_neq, if_true, if_false, decide_false, not_true_eq_false, h0]
    refine CallK.of (s71P hf hg r hr) ?_
    by_cases h1 : isP f r
    · simp (maxSteps := 4000000) -implicitDefEqProofs -dsimp (disch := omega) only [↓AOps_pu, ↓AOps_call, ↓AOps_guard, on_some, extK_same, guardB_ff, pval, rd_S, rd_C, put_S, chkd, bgot, partA, eq_self, List.replicate_succ, List.replicate_zero, List.set_cons_zero, List.set_cons_succ, List.getElem?_cons_zero, List.getElem?_cons_succ, List.drop_zero, List.take_succ_cons, List.take_nil, Option.getD_some, map_c, map_n, List.length_cons, List.length_nil, Nat.reduceAdd, Nat.reduceSub, Nat.reduceLeDiff, Nat.reduceEqDiff, Nat.zero_add, List.cons_append, List.nil_append, if_true, if_false, Bool.not_true, decide_true, h1]
      refine CallK.of (s79 s 1000 _ hs (by omega)) ?_
      by_cases h2 : (1 ≤ s.2 ∧ s.2 ≤ 1000) ∧ Int.gcd s.1 s.2 = 1
      · by_cases h3 : s.1 < 0
        · have hW : ¬ isW s := fun h => by have := h.2; omega
          simp (maxSteps := 4000000) -implicitDefEqProofs -dsimp (disch := omega) only [↓AW_ops, ↓AW_seq, ↓AW_cond, ↓AW_ret, ↓AOps_nil, ↓AOps_pu, ↓AOps_guard, on_some, extK_same, guardB_ff, condB_t, ↓then_normal, ↓then_ret, ↓Fin_ret, pval, rd_S, rd_C, put_S, resV, resL, chkd, isAdr, bput, bgot, AV.cells?, splice, partA, fillA, eq_self, List.replicate_succ, List.replicate_zero, List.set_cons_zero, List.set_cons_succ, List.getElem?_cons_zero, List.getElem?_cons_succ, List.drop_zero, List.drop_succ_cons, List.drop_nil, List.take_zero, List.take_succ_cons, List.take_nil, Option.getD_some, Option.map_some, map_n, List.length_cons, List.length_nil, Nat.reduceAdd, Nat.reduceSub, Nat.reduceLeDiff, Nat.reduceEqDiff, Nat.zero_add, List.cons_append, List.nil_append, List.append_nil, bin_lss, if_true, if_false, Bool.false_eq_true, Bool.not_true, decide_true, and_true, ne_eq, not_true_eq_false, h2, h3]
          exact gc_same (by simp [plV, plE, aE1 h0, h1, hW, zeroR])
        · have hW : isW s := ⟨h2, by omega⟩
          simp (maxSteps := 4000000) -implicitDefEqProofs -dsimp (disch := omega) only [↓AW_skip, ↓AW_ops, ↓AW_seq, ↓AW_cond, ↓AOps_nil, ↓AOps_pu, ↓AOps_call, ↓AOps_guard, on_some, extK_same, guardB_ff, condB_f, ↓then_normal, pval, rd_S, rd_C, put_S, chkd, isAdr, bgot, AV.cells?, partA, eq_self, List.replicate_succ, List.replicate_zero, List.set_cons_zero, List.set_cons_succ, List.getElem?_cons_zero, List.getElem?_cons_succ, List.drop_zero, List.drop_succ_cons, List.take_zero, List.take_succ_cons, List.take_nil, Option.getD_some, map_c, map_n, List.length_cons, List.length_nil, Nat.reduceAdd, Nat.reduceSub, Nat.reduceLeDiff, Nat.zero_add, List.cons_append, List.nil_append, bin_lss, if_true, if_false, Bool.false_eq_true, Bool.not_true, decide_true, decide_false, and_true, h2, h3]
          refine CallK.of (s65 hf hg) ?_
          have hm := mul_bound (x := tot f) (y := s.2) (X := 2400) (Y := 1000) (by omega) (by omega)
          have hcm : s.2 * tot f = tot f * s.2 := Int.mul_comm _ _
          obtain ⟨er, p1⟩ := isP_R h1
          obtain ⟨es, n1, n2⟩ := isW_R hW
          obtain ⟨D, hD, d1, d2, d3⟩ := ask_facts hg h1 hW
          have hbp := upTo_bounds hg 0 (qr r)
          have hle := qr_le (n := tot f) (s := s) (by omega)
          have hE : plE f r s = if (plc f (qr r) (qr s)).isSome then 0 else 8 := by simp [plE, aE1 h0, h1, hW]
          by_cases h4 : s.2 * tot f < s.1
          · simp (maxSteps := 4000000) -implicitDefEqProofs -dsimp (disch := omega) only [↓AW_ops, ↓AW_seq, ↓AW_cond, ↓AW_ret, ↓AOps_nil, ↓AOps_pu, on_some, extK_same, condB_t, ↓then_normal, ↓then_ret, ↓Fin_ret, pval, rd_S, rd_C, put_S, resV, resL, chkd, bput, bgot, AV.cells?, splice, partA, fillA, eq_self, List.replicate_succ, List.replicate_zero, List.set_cons_zero, List.set_cons_succ, List.getElem?_cons_zero, List.getElem?_cons_succ, List.drop_zero, List.drop_succ_cons, List.drop_nil, List.take_zero, List.take_succ_cons, List.take_nil, Option.getD_some, Option.map_some, map_n, List.length_cons, List.length_nil, Nat.reduceAdd, Nat.reduceSub, Nat.reduceLeDiff, Nat.reduceEqDiff, Nat.zero_add, List.cons_append, List.nil_append, List.append_nil, bin_mul, bin_gtr, w64, if_true, if_false, decide_true, ne_eq, not_true_eq_false, h4]
            have hn : plc f (qr r) (qr s) = none := plc_none hg hbp.1 (Rat.not_le.1 (fun h => by have := hle.1 h; omega))
            exact gc_same (by simp [plV, hE, hn, zeroR])
          · simp (maxSteps := 4000000) -implicitDefEqProofs -dsimp (disch := omega) only [↓AW_skip, ↓AW_ops, ↓AW_seq, ↓AW_cond, ↓AOps_nil, ↓AOps_pu, ↓AOps_call, on_some, extK_same, condB_f, ↓then_normal, pval, rd_S, put_S, chkd, bgot, partA, eq_self, List.replicate_succ, List.replicate_zero, List.set_cons_zero, List.set_cons_succ, List.getElem?_cons_zero, List.getElem?_cons_succ, List.drop_zero, List.take_succ_cons, List.take_nil, Option.getD_some, map_c, map_n, List.length_cons, List.length_nil, Nat.reduceAdd, Nat.reduceSub, Nat.reduceLeDiff, Nat.reduceEqDiff, Nat.zero_add, List.cons_append, List.nil_append, bin_mul, bin_gtr, w64, if_true, if_false, decide_false, h4]
            have hw1 : qr s ≤ ((10000 : Int) : Rat) := Rat.le_trans (hle.2 (by omega)) (Rat.intCast_le_intCast.2 (by omega))
            rw [er, es]
            refine CallK.of (s80 hf hg (qr r) (qr s) p1 D hD d1 d2 d3 hw1) ?_
            cases hpl : plc f (qr r) (qr s) with
            | some x =>
              have hE0 : plE f r s = 0 := by rw [hE, hpl]; rfl
              have hV : plV f r s = R x := by simp [plV, hE0, hpl, oR]
              rw [hE0, hV]
              simp (maxSteps := 4000000) -implicitDefEqProofs -dsimp (disch := omega) only [↓AW_skip, ↓AW_ops, ↓AW_seq, ↓AW_cond, ↓AW_ret, ↓AOps_nil, ↓AOps_pu, on_some, extK_same, condB_f, ↓then_normal, ↓Fin_ret, pval, rd_S, rd_C, put_S, resV, resL, chkd, bput, bgot, AV.cells?, splice, partA, eq_self, List.replicate_succ, List.replicate_zero, List.set_cons_zero, List.set_cons_succ, List.getElem?_cons_zero, List.getElem?_cons_succ, List.drop_zero, List.drop_succ_cons, List.drop_nil, List.take_zero, List.take_succ_cons, List.take_nil, Option.getD_some, List.length_cons, List.length_nil, Nat.reduceAdd, Nat.reduceSub, Nat.reduceLeDiff, Nat.reduceEqDiff, Nat.zero_add, List.cons_append, List.nil_append, List.append_nil, if_true, if_false, Bool.not_true, ne_eq, not_true_eq_false, oR, Option.isSome_some]
              exact gc_same rfl
            | none =>
              have hE0 : plE f r s = 8 := by rw [hE, hpl]; rfl
              have hV : plV f r s = zeroR := by simp [plV, hE0]
              rw [hE0, hV]
              simp (maxSteps := 4000000) -implicitDefEqProofs -dsimp (disch := omega) only [↓AW_ops, ↓AW_seq, ↓AW_cond, ↓AW_ret, ↓AOps_nil, ↓AOps_pu, on_some, extK_same, condB_t, ↓then_normal, ↓then_ret, ↓Fin_ret, pval, rd_S, rd_C, put_S, resV, resL, chkd, bput, bgot, AV.cells?, splice, partA, fillA, eq_self, List.replicate_succ, List.replicate_zero, List.set_cons_zero, List.set_cons_succ, List.getElem?_cons_zero, List.getElem?_cons_succ, List.drop_zero, List.drop_succ_cons, List.drop_nil, List.take_zero, List.take_succ_cons, List.take_nil, Option.getD_some, Option.map_some, map_n, List.length_cons, List.length_nil, Nat.reduceAdd, Nat.reduceSub, Nat.reduceLeDiff, Nat.reduceEqDiff, Nat.zero_add, List.cons_append, List.nil_append, List.append_nil, if_true, if_false, Bool.not_false, ne_eq, not_true_eq_false, oR, zeroR, Option.isSome_none]
              exact gc_same rfl
      · have hW : ¬ isW s := fun h => h2 h.1
        simp (maxSteps := 4000000) -implicitDefEqProofs -dsimp (disch := omega) only [↓AW_ops, ↓AW_seq, ↓AW_cond, ↓AW_ret, ↓AOps_nil, ↓AOps_pu, ↓AOps_guard, on_some, extK_same, guardB_tf, guardB_ff, skipS_some, condB_t, ↓then_normal, ↓then_ret, ↓Fin_ret, pval, rd_S, rd_C, put_S, resV, resL, chkd, bput, bgot, AV.cells?, splice, partA, fillA, eq_self, List.replicate_succ, List.replicate_zero, List.set_cons_zero, List.set_cons_succ, List.getElem?_cons_zero, List.getElem?_cons_succ, List.drop_zero, List.drop_succ_cons, List.drop_nil, List.take_zero, List.take_succ_cons, List.take_nil, Option.getD_some, Option.map_some, map_n, List.length_cons, List.length_nil, Nat.reduceAdd, Nat.reduceSub, Nat.reduceLeDiff, Nat.reduceEqDiff, Nat.zero_add, List.cons_append, List.nil_append, List.append_nil, if_true, if_false, Bool.false_eq_true, Bool.not_false, decide_false, ne_eq, not_true_eq_false, h2]
        exact gc_same (by simp [plV, plE, aE1 h0, h1, hW, zeroR])
    · simp (maxSteps := 4000000) -implicitDefEqProofs -dsimp (disch := omega) only [↓AW_ops, ↓AW_seq, ↓AW_cond, ↓AW_ret, ↓AOps_nil, ↓AOps_pu, ↓AOps_guard, on_some, extK_same, guardB_tf, skipS_some, condB_t, ↓then_normal, ↓then_ret, ↓Fin_ret, pval, rd_S, rd_C, put_S, resV, resL, chkd, bput, bgot, AV.cells?, splice, partA, fillA, eq_self, List.replicate_succ, List.replicate_zero, List.set_cons_zero, List.set_cons_succ, List.getElem?_cons_zero, List.getElem?_cons_succ, List.drop_zero, List.drop_succ_cons, List.drop_nil, List.take_zero, List.take_succ_cons, List.take_nil, Option.getD_some, Option.map_some, map_n, List.length_cons, List.length_nil, Nat.reduceAdd, Nat.reduceSub, Nat.reduceLeDiff, Nat.reduceEqDiff, Nat.zero_add, List.cons_append, List.nil_append, List.append_nil, if_true, if_false, Bool.not_false, decide_false, ne_eq, not_true_eq_false, h1]
      exact gc_same (by simp [plV, plE, aE1 h0, h1, zeroR])
  · simp (maxSteps := 4000000) -implicitDefEqProofs -dsimp (disch := omega) only [↓AW_ops, ↓AW_seq, ↓AW_cond, ↓AW_ret, ↓AOps_nil, ↓AOps_pu, on_some, extK_same, condB_t, ↓then_normal, ↓then_ret, ↓Fin_ret, pval, rd_S, rd_C, put_S, resV, resL, chkd, bput, bgot, AV.cells?, splice, partA, fillA, eq_self, List.replicate_succ, List.replicate_zero, List.set_cons_zero, List.set_cons_succ, List.getElem?_cons_zero, List.getElem?_cons_succ, List.drop_zero, List.drop_succ_cons, List.drop_nil, List.take_zero, List.take_succ_cons, List.take_nil, Option.getD_some, Option.map_some, map_n, List.length_cons, List.length_nil, Nat.reduceAdd, Nat.reduceSub, Nat.reduceLeDiff, Nat.reduceEqDiff, Nat.zero_add, List.cons_append, List.nil_append, List.append_nil, bin_neq, if_true, if_false, decide_true, ne_eq, not_true_eq_false, not_false_eq_true, h0]
    exact gc_same (by simp [plV, plE, aE, h0, zeroR])

theorem s40 {f : List (Int × Int)} {v : AV} {A : AHeap} (hf : L2 A v f) (r s : Int × Int) (hr : W r.1) (hs : W s.1) :
    ACalls Try.prog 40 [v, .agg [I r.1, I r.2], .agg [I s.1, I s.2]] A (.tuple [plV f r s, I (plE f r s)]) A := by
  refine acalls hmix Try.func40 (by kernel_rfl) t40 3 rfl (by decide) ?_
  dsimp only [m40]
  simp (maxSteps := 4000000) -implicitDefEqProofs -dsimp (disch := omega) only [↓AW_ops, ↓AW_seq, ↓AOps_nil, ↓AOps_pu, ↓AOps_ha, ↓AOps_call, on_some, extK_app, ↓then_normal, pval, hval, rd_S, rd_C, put_S, chkd, bgot, AV.cells?, splice, partA, fillA, repl, eq_self, List.replicate_succ, List.replicate_zero, List.set_cons_zero, List.set_cons_succ, List.getElem?_cons_zero, List.getElem?_cons_succ, List.drop_zero, List.drop_succ_cons, List.drop_nil, List.take_zero, List.take_succ_cons, List.take_nil, Option.getD_some, map_c, map_n, List.length_cons, List.length_nil, Nat.reduceAdd, Nat.reduceSub, Nat.reduceLeDiff, Nat.reduceEqDiff, Nat.zero_add, List.cons_append, List.nil_append, List.append_nil, if_true, if_false, and_true]
  have hf2 := hf.mono (pre_app A [.cells true [I r.1, I r.2]])
  refine CallK.of (s74 hf2 (L2_one A r) (by simp) (by simpa using hr)) ?_
  by_cases ha : aE f [r] = 0
  · have h0 : vE f = 0 := by
      unfold aE at ha
      split at ha
      · assumption
      · exact ha
    have hg := (good_of h0).1
    have ht := tot_bound hg
    have h1 : isP f r := by
      rw [aE1 h0] at ha
      split at ha
      · assumption
      · cases ha
    simp (maxSteps := 4000000) -implicitDefEqProofs -dsimp (disch := omega) only [↓AW_skip, ↓AW_ops, ↓AW_seq, ↓AW_cond, ↓AOps_nil, ↓AOps_pu, ↓AOps_call, on_some, extK_same, condB_f, ↓then_normal, pval, rd_S, rd_C, put_S, chkd, bgot, partA, eq_self, List.replicate_succ, List.replicate_zero, List.set_cons_zero, List.set_cons_succ, List.getElem?_cons_zero, List.getElem?_cons_succ, List.drop_zero, List.take_succ_cons, List.take_nil, Option.getD_some, map_c, map_n, List.length_cons, List.length_nil, Nat.reduceAdd, Nat.reduceSub, Nat.reduceLeDiff, Nat.reduceEqDiff, Nat.zero_add, List.cons_append, List.nil_append, bin_neq, if_true, if_false, decide_false, not_true_eq_false, ha]
    refine CallK.of (s81 s 1000 _ hs (by omega)) ?_
    by_cases h2 : vI s 1000
    · by_cases h3 : s.1 < 0
      · have hW : ¬ isW s := fun h => by have := h.2; omega
        simp (maxSteps := 4000000) -implicitDefEqProofs -dsimp (disch := omega) only [↓AW_ops, ↓AW_seq, ↓AW_cond, ↓AW_ret, ↓AOps_nil, ↓AOps_pu, ↓AOps_guard, on_some, extK_same, guardB_ff, condB_t, ↓then_normal, ↓then_ret, ↓Fin_ret, pval, rd_S, rd_C, put_S, resV, resL, chkd, isAdr, bput, bgot, AV.cells?, splice, partA, fillA, eq_self, List.replicate_succ, List.replicate_zero, List.set_cons_zero, List.set_cons_succ, List.getElem?_cons_zero, List.getElem?_cons_succ, List.drop_zero, List.drop_succ_cons, List.drop_nil, List.take_zero, List.take_succ_cons, List.take_nil, Option.getD_some, Option.map_some, map_n, List.length_cons, List.length_nil, Nat.reduceAdd, Nat.reduceSub, Nat.reduceLeDiff, Nat.reduceEqDiff, Nat.zero_add, List.cons_append, List.nil_append, List.append_nil, bin_lss, if_true, if_false, Bool.false_eq_true, Bool.not_true, decide_true, ne_eq, not_true_eq_false, h2, h3]
        exact gc_val (pre_app A _) (by simp [plV, plE, ha, hW, zeroR, ren])
      · have hW : isW s := ⟨⟨h2.1, vI_gcd h2⟩, by omega⟩
        have hd0 : ¬ s.2 = 0 := by have := h2.1.1; omega
        simp (maxSteps := 4000000) -implicitDefEqProofs -dsimp (disch := omega) only [↓AW_skip, ↓AW_ops, ↓AW_seq, ↓AW_cond, ↓AOps_nil, ↓AOps_pu, ↓AOps_call, ↓AOps_guard, on_some, extK_same, guardB_ff, condB_f, ↓then_normal, pval, rd_S, rd_C, put_S, chkd, isAdr, bgot, AV.cells?, partA, eq_self, List.replicate_succ, List.replicate_zero, List.set_cons_zero, List.set_cons_succ, List.getElem?_cons_zero, List.getElem?_cons_succ, List.drop_zero, List.drop_succ_cons, List.take_zero, List.take_succ_cons, List.take_nil, Option.getD_some, map_c, map_n, List.length_cons, List.length_nil, Nat.reduceAdd, Nat.reduceSub, Nat.reduceLeDiff, Nat.zero_add, List.cons_append, List.nil_append, bin_quo, bin_lss, if_true, if_false, Bool.false_eq_true, Bool.not_true, decide_true, decide_false, h2, h3, hd0]
        have htd : s.1.tdiv s.2 = s.1 / s.2 := Int.tdiv_eq_ediv_of_nonneg (by omega)
        have hww := tdiv_W hs (g := s.2) (by have := h2.1.1; omega)
        refine CallK.of (s70 hf2 hg) ?_
        obtain ⟨er, p1⟩ := isP_R h1
        obtain ⟨es, n1, n2⟩ := isW_R hW
        obtain ⟨D, hD, d1, d2, d3⟩ := ask_facts hg h1 hW
        have hbp := upTo_bounds hg 0 (qr r)
        have hE : plE f r s = if (plc f (qr r) (qr s)).isSome then 0 else 8 := by simp [plE, ha, hW]
        have hx := Int.mul_ediv_add_emod s.1 s.2
        have hy := Int.emod_lt_of_pos s.1 (show 0 < s.2 by have := h2.1.1; omega)
        have hy0 := Int.emod_nonneg s.1 hd0
        rw [htd]
        by_cases h4 : tot f < s.1 / s.2
        · simp (maxSteps := 4000000) -implicitDefEqProofs -dsimp (disch := omega) only [↓AW_ops, ↓AW_seq, ↓AW_cond, ↓AW_ret, ↓AOps_nil, ↓AOps_pu, on_some, extK_same, condB_t, ↓then_normal, ↓then_ret, ↓Fin_ret, pval, rd_S, rd_C, put_S, resV, resL, chkd, bput, bgot, AV.cells?, splice, partA, fillA, eq_self, List.replicate_succ, List.replicate_zero, List.set_cons_zero, List.set_cons_succ, List.getElem?_cons_zero, List.getElem?_cons_succ, List.drop_zero, List.drop_succ_cons, List.drop_nil, List.take_zero, List.take_succ_cons, List.take_nil, Option.getD_some, Option.map_some, map_n, List.length_cons, List.length_nil, Nat.reduceAdd, Nat.reduceSub, Nat.reduceLeDiff, Nat.reduceEqDiff, Nat.zero_add, List.cons_append, List.nil_append, List.append_nil, bin_gtr, w64, if_true, if_false, decide_true, ne_eq, not_true_eq_false, h4]
          have hn : plc f (qr r) (qr s) = none := plc_none hg hbp.1 (Rat.not_le.1 (fun h => by
            have h5 := (qr_le (n := tot f) (s := s) (by have := h2.1.1; omega)).1 h
            have h6 : s.2 * (tot f + 1) ≤ s.2 * (s.1 / s.2) := Int.mul_le_mul_of_nonneg_left (by omega) (by have := h2.1.1; omega)
            rw [Int.mul_add, Int.mul_comm s.2 (tot f)] at h6
            have := h2.1.1
            omega))
          exact gc_val (pre_app A _) (by simp [plV, hE, hn, zeroR, ren])
        · have hw1 : qr s ≤ ((10000 : Int) : Rat) := by
            rw [qr_le (by have := h2.1.1; omega)]
            have h6 : s.2 * (s.1 / s.2) ≤ s.2 * 2400 := Int.mul_le_mul_of_nonneg_left (by omega) (by have := h2.1.1; omega)
            have := h2.1.1
            omega
          simp (maxSteps := 4000000) -implicitDefEqProofs -dsimp (disch := omega) only [↓AW_skip, ↓AW_ops, ↓AW_seq, ↓AW_cond, ↓AOps_nil, ↓AOps_pu, ↓AOps_call, on_some, extK_same, condB_f, ↓then_normal, pval, rd_S, put_S, List.replicate_succ, List.replicate_zero, List.set_cons_zero, List.set_cons_succ, List.getElem?_cons_zero, List.getElem?_cons_succ, Option.getD_some, map_c, map_n, Nat.reduceSub, List.cons_append, List.nil_append, bin_gtr, w64, decide_false, h4]
          refine CallK.of (s68 hf2 hg) ?_
          have hu := Ls_out (A ++ [.cells true [I r.1, I r.2]]) e1_len (units f)
          have hpre := (pre_app A [.cells true [I r.1, I r.2]]).trans (pre_out (A ++ [.cells true [I r.1, I r.2]]) ((units f).flatMap Go.Eng.e1) (units f).length)
          simp (maxSteps := 4000000) -implicitDefEqProofs -dsimp (disch := omega) only [↓AOps_pu, ↓AOps_call, on_some, extK_false, pval, rd_S, put_S, chkd, bgot, partA, eq_self, List.replicate_succ, List.replicate_zero, List.set_cons_zero, List.set_cons_succ, List.getElem?_cons_zero, List.getElem?_cons_succ, List.drop_zero, List.take_succ_cons, List.take_nil, Option.getD_some, map_c, map_n, List.length_cons, List.length_nil, Nat.reduceAdd, Nat.reduceSub, Nat.reduceLeDiff, Nat.reduceEqDiff, Nat.zero_add, List.cons_append, List.nil_append, w64, if_true, if_false]
          rw [er, es]
          refine CallK.of (s67 hu hg (qr r) (qr s) p1 D hD d1 d2 d3 hw1) ?_
          cases hpl : plc f (qr r) (qr s) with
          | some x =>
            have hE0 : plE f r s = 0 := by rw [hE, hpl]; rfl
            have hV : plV f r s = R x := by simp [plV, hE0, hpl, oR]
            rw [hE0, hV]
            simp (maxSteps := 4000000) -implicitDefEqProofs -dsimp (disch := omega) only [↓AW_skip, ↓AW_ops, ↓AW_seq, ↓AW_cond, ↓AW_ret, ↓AOps_nil, ↓AOps_pu, on_some, extK_same, condB_f, ↓then_normal, ↓Fin_ret, pval, rd_S, rd_C, put_S, resV, resL, chkd, bput, bgot, AV.cells?, splice, partA, eq_self, List.replicate_succ, List.replicate_zero, List.set_cons_zero, List.set_cons_succ, List.getElem?_cons_zero, List.getElem?_cons_succ, List.drop_zero, List.drop_succ_cons, List.drop_nil, List.take_zero, List.take_succ_cons, List.take_nil, Option.getD_some, List.length_cons, List.length_nil, Nat.reduceAdd, Nat.reduceSub, Nat.reduceLeDiff, Nat.reduceEqDiff, Nat.zero_add, List.cons_append, List.nil_append, List.append_nil, w64, if_true, if_false, Bool.not_true, ne_eq, not_true_eq_false, oR, Option.isSome_some]
            exact gc_val hpre rfl
          | none =>
            have hE0 : plE f r s = 8 := by rw [hE, hpl]; rfl
            have hV : plV f r s = zeroR := by simp [plV, hE0]
            rw [hE0, hV]
            simp (maxSteps := 4000000) -implicitDefEqProofs -dsimp (disch := omega) only [↓AW_ops, ↓AW_seq, ↓AW_cond, ↓AW_ret, ↓AOps_nil, ↓AOps_pu, on_some, extK_same, condB_t, ↓then_normal, ↓then_ret, ↓Fin_ret, pval, rd_S, rd_C, put_S, resV, resL, chkd, bput, bgot, AV.cells?, splice, partA, fillA, eq_self, List.replicate_succ, List.replicate_zero, List.set_cons_zero, List.set_cons_succ, List.getElem?_cons_zero, List.getElem?_cons_succ, List.drop_zero, List.drop_succ_cons, List.drop_nil, List.take_zero, List.take_succ_cons, List.take_nil, Option.getD_some, Option.map_some, map_n, List.length_cons, List.length_nil, Nat.reduceAdd, Nat.reduceSub, Nat.reduceLeDiff, Nat.reduceEqDiff, Nat.zero_add, List.cons_append, List.nil_append, List.append_nil, w64, if_true, if_false, Bool.not_false, ne_eq, not_true_eq_false, oR, zeroR, Option.isSome_none]
            exact gc_val hpre rfl
    · have hW : ¬ isW s := fun h => h2 ⟨h.1.1, by rw [if_neg (by have := h.2; omega)]; exact h.1.2⟩
      simp (maxSteps := 4000000) -implicitDefEqProofs -dsimp (disch := omega) only [↓AW_ops, ↓AW_seq, ↓AW_cond, ↓AW_ret, ↓AOps_nil, ↓AOps_pu, ↓AOps_guard, on_some, extK_same, guardB_tf, skipS_some, condB_t, ↓then_normal, ↓then_ret, ↓Fin_ret, pval, rd_S, rd_C, put_S, resV, resL, chkd, bput, bgot, AV.cells?, splice, partA, fillA, eq_self, List.replicate_succ, List.replicate_zero, List.set_cons_zero, List.set_cons_succ, List.getElem?_cons_zero, List.getElem?_cons_succ, List.drop_zero, List.drop_succ_cons, List.drop_nil, List.take_zero, List.take_succ_cons, List.take_nil, Option.getD_some, Option.map_some, map_n, List.length_cons, List.length_nil, Nat.reduceAdd, Nat.reduceSub, Nat.reduceLeDiff, Nat.reduceEqDiff, Nat.zero_add, List.cons_append, List.nil_append, List.append_nil, if_true, if_false, Bool.not_false, decide_false, ne_eq, not_true_eq_false, h2]
      exact gc_val (pre_app A _) (by simp [plV, plE, ha, hW, zeroR, ren])
  · simp (maxSteps := 4000000) -implicitDefEqProofs -dsimp (disch := omega) only [↓AW_ops, ↓AW_seq, ↓AW_cond, ↓AW_ret, ↓AOps_nil, ↓AOps_pu, on_some, extK_same, condB_t, ↓then_normal, ↓then_ret, ↓Fin_ret, pval, rd_S, rd_C, put_S, resV, resL, chkd, bput, bgot, AV.cells?, splice, partA, fillA, eq_self, List.replicate_succ, List.replicate_zero, List.set_cons_zero, List.set_cons_succ, List.getElem?_cons_zero, List.getElem?_cons_succ, List.drop_zero, List.drop_succ_cons, List.drop_nil, List.take_zero, List.take_succ_cons, List.take_nil, Option.getD_some, Option.map_some, map_n, List.length_cons, List.length_nil, Nat.reduceAdd, Nat.reduceSub, Nat.reduceLeDiff, Nat.reduceEqDiff, Nat.zero_add, List.cons_append, List.nil_append, List.append_nil, bin_neq, if_true, if_false, decide_true, ne_eq, not_true_eq_false, not_false_eq_true, ha]
    exact gc_val (pre_app A _) (by simp [plV, plE, ha, zeroR, ren])

theorem zero_lt_agg {q : Rat} (h : q.num = 0) : q = 0 := Rat.num_eq_zero.1 h

/-- What lies up to the place is worth what was asked. -/
theorem plc_worth {f : List (Int × Int)} (hg : good f) {p w x : Rat} (hp0 : 0 ≤ p) (hp1 : p ≤ ((len f : Int) : Rat)) (hw0 : 0 ≤ w) (h : plc f p w = some x) :
    p ≤ x ∧ x ≤ ((len f : Int) : Rat) ∧ upTo 0 f x = upTo 0 f p + w := by
  unfold plc at h
  split at h
  · rename_i h0
    have : p = x := Option.some.inj h
    subst this
    rw [zero_lt_agg h0, Rat.add_zero]
    exact ⟨Rat.le_refl, hp1, rfl⟩
  · rename_i h0
    have hwp : 0 < w := by
      have := Rat.num_nonneg.2 hw0
      exact num_pos_iff w |>.1 (by omega)
    have hbp := upTo_bounds hg 0 p
    have hl := len_units hg.2
    obtain ⟨_, ⟨h2, h3⟩, h4⟩ := rch_some _ (units f) 0 0 x (units_le hg.2) (by have : ((0 : Int) : Rat) = 0 := rfl; grind) h
    rw [upTo_units x f 0 hg.2] at h4
    have h5 : upTo 0 f x = upTo 0 f p + w := by rw [h4]; have : ((0 : Int) : Rat) = 0 := rfl; grind
    refine ⟨?_, by rw [Int.zero_add, hl] at h3; exact h3, h5⟩
    rcases Rat.le_total (a := p) (b := x) with h6 | h6
    · exact h6
    · have := upTo_mono h6 f 0 hg.2
      grind

set_option maxRecDepth 100000 in
set_option maxHeartbeats 4000000 in
theorem s8 {f : List (Int × Int)} {v : AV} {A : AHeap} (hf : L2 A v f) (r s : Int × Int) (hr : W r.1) (hs : W s.1) : ACalls Try.prog 8 [v, .agg [I r.1, I r.2], .agg [I s.1, I s.2]] A (B true) A := by
  refine acalls hmix Try.func8 (by kernel_rfl) t8 3 rfl (by decide) ?_
  dsimp only [m8]
  simp (maxSteps := 4000000) -implicitDefEqProofs -dsimp (disch := omega) only [↓AW_ops, ↓AW_seq, ↓AOps_nil, ↓AOps_pu, ↓AOps_call, on_some, ↓then_normal, pval, rd_S, rd_C, put_S, AV.cells?, List.replicate_succ, List.replicate_zero, List.set_cons_zero, List.set_cons_succ, List.getElem?_cons_zero, List.getElem?_cons_succ, Option.getD_some, map_c, map_n, Nat.reduceSub, List.cons_append, List.nil_append]
  refine CallK.of (s18 hf (L2_nil A)) ?_
  by_cases h : (100 : Int) < f.length
  · simp (maxSteps := 4000000) -implicitDefEqProofs -dsimp (disch := omega) only [↓AW_ops, ↓AW_seq, ↓AW_cond, ↓AOps_nil, ↓AOps_call, extK_same, condB_t, ↓then_normal, rd_S, put_S, List.replicate_succ, List.replicate_zero, List.set_cons_zero, List.set_cons_succ, List.getElem?_cons_zero, List.getElem?_cons_succ, Option.getD_some, map_n, List.length_nil, Nat.reduceSub, List.cons_append, List.nil_append, decide_true, h, true_or]
    refine CallK.of (known A) ?_
    simp (maxSteps := 4000000) -implicitDefEqProofs -dsimp (disch := omega) only [↓AW_ret, ↓AOps_nil, ↓AOps_pu, on_some, extK_same, ↓then_normal, ↓then_ret, ↓Fin_ret, pval, rd_S, put_S, resV, resL, List.replicate_succ, List.replicate_zero, List.set_cons_zero, List.set_cons_succ, List.getElem?_cons_zero, List.getElem?_cons_succ, Option.getD_some, List.length_nil, Nat.reduceSub, List.cons_append, List.nil_append]
    exact gc_same rfl
  · simp (maxSteps := 4000000) -implicitDefEqProofs -dsimp (disch := omega) only [↓AW_skip, ↓AW_ops, ↓AW_seq, ↓AW_cond, ↓AOps_nil, ↓AOps_pu, ↓AOps_call, on_some, extK_same, condB_f, ↓then_normal, pval, rd_S, put_S, chkd, bgot, partA, eq_self, List.replicate_succ, List.replicate_zero, List.set_cons_zero, List.set_cons_succ, List.getElem?_cons_zero, List.getElem?_cons_succ, List.drop_zero, List.take_succ_cons, List.take_nil, Option.getD_some, map_c, map_n, List.length_cons, List.length_nil, Nat.reduceAdd, Nat.reduceSub, Nat.reduceLeDiff, Nat.reduceEqDiff, Nat.zero_add, List.cons_append, List.nil_append, if_true, if_false, decide_false, Int.reduceLT, h, false_or, Int.cast_ofNat_Int]
    obtain ⟨a, b, hab⟩ := plV_agg f r s
    refine CallK.of (s39 hf r s hr hs) ?_
    simp (maxSteps := 4000000) -implicitDefEqProofs -dsimp (disch := omega) only [↓AW_ops, ↓AW_seq, ↓AOps_nil, ↓AOps_pu, ↓AOps_call, on_some, extK_same, ↓then_normal, pval, rd_S, rd_C, put_S, chkd, bput, bgot, AV.cells?, splice, partA, eq_self, List.replicate_succ, List.replicate_zero, List.set_cons_zero, List.set_cons_succ, List.getElem?_cons_zero, List.getElem?_cons_succ, List.drop_zero, List.drop_succ_cons, List.drop_nil, List.take_zero, List.take_succ_cons, List.take_nil, Option.getD_some, map_c, map_n, List.length_cons, List.length_nil, Nat.reduceAdd, Nat.reduceSub, Nat.reduceLeDiff, Nat.reduceEqDiff, Nat.zero_add, List.cons_append, List.nil_append, List.append_nil, if_true, if_false, ne_eq, not_true_eq_false, hab]
    refine CallK.of (s40 hf r s hr hs) ?_
    simp (maxSteps := 4000000) -implicitDefEqProofs -dsimp (disch := omega) only [↓AW_skip, ↓AW_ops, ↓AW_seq, ↓AW_cond, ↓AOps_nil, ↓AOps_pu, ↓AOps_guard, on_some, extK_same, guardB_ff, condB_f, ↓then_normal, pval, rd_S, rd_C, put_S, chkd, bput, bgot, AV.cells?, splice, partA, eqc, beq_self_eq_true, eq_self, List.replicate_succ, List.replicate_zero, List.set_cons_zero, List.set_cons_succ, List.getElem?_cons_zero, List.getElem?_cons_succ, List.drop_zero, List.drop_succ_cons, List.drop_nil, List.take_zero, List.take_succ_cons, List.take_nil, Option.getD_some, Option.map_some, List.length_cons, List.length_nil, Nat.reduceAdd, Nat.reduceSub, Nat.reduceLeDiff, Nat.reduceEqDiff, Nat.zero_add, List.cons_append, List.nil_append, List.append_nil, bin_neq, if_true, if_false, Bool.false_eq_true, Bool.not_true, Bool.true_and, decide_false, ne_eq, not_true_eq_false, decide_not, hab]
    by_cases hE : plE f r s = 0
    · by_cases hd : 1000 < b
      · simp (maxSteps := 4000000) -implicitDefEqProofs -dsimp (disch := omega) only [↓AW_ops, ↓AW_seq, ↓AW_cond, ↓AOps_nil, ↓AOps_pu, ↓AOps_call, ↓AOps_guard, on_some, guardB_ff, condB_t, ↓then_normal, pval, rd_S, rd_C, put_S, chkd, isAdr, bgot, AV.cells?, partA, eq_self, List.replicate_succ, List.replicate_zero, List.set_cons_zero, List.set_cons_succ, List.getElem?_cons_zero, List.getElem?_cons_succ, List.drop_zero, List.drop_succ_cons, List.take_succ_cons, List.take_nil, Option.getD_some, map_n, List.length_cons, List.length_nil, Nat.reduceAdd, Nat.reduceSub, Nat.reduceLeDiff, Nat.zero_add, List.cons_append, List.nil_append, bin_gtr, if_true, if_false, Bool.false_eq_true, Bool.not_true, decide_true, hE, hd]
        refine CallK.of (known A) ?_
        simp (maxSteps := 4000000) -implicitDefEqProofs -dsimp (disch := omega) only [↓AW_ret, ↓AOps_nil, ↓AOps_pu, on_some, extK_same, ↓then_normal, ↓then_ret, ↓Fin_ret, pval, rd_S, put_S, resV, resL, List.replicate_succ, List.replicate_zero, List.set_cons_zero, List.set_cons_succ, List.getElem?_cons_zero, List.getElem?_cons_succ, Option.getD_some, List.length_nil, Nat.reduceSub, List.cons_append, List.nil_append]
        exact gc_same rfl
      · have h0 : aE f [r] = 0 := by
          unfold plE at hE
          split at hE
          · assumption
          · exact hE
        have hv : vE f = 0 := by
          unfold aE at h0
          split at h0
          · assumption
          · exact h0
        have hg := (good_of hv).1
        have h1 : isP f r := by
          rw [aE1 hv] at h0
          split at h0
          · assumption
          · cases h0
        have h2 : isW s := by
          unfold plE at hE
          rw [if_pos h0] at hE
          split at hE
          · assumption
          · cases hE
        obtain ⟨x, hx⟩ : ∃ x, plc f (qr r) (qr s) = some x := by
          unfold plE at hE
          rw [if_pos h0, if_pos h2] at hE
          split at hE
          · rename_i h3; exact Option.isSome_iff_exists.1 h3
          · cases hE
        have hxR : R x = .agg [I a, I b] := by rw [← hab, plV, if_pos hE, hx]; rfl
        obtain ⟨xn, xd⟩ := R_inj hxR
        obtain ⟨er, p1⟩ := isP_R h1
        obtain ⟨es, n1, n2⟩ := isW_R h2
        obtain ⟨D, hD, d1, d2, d3⟩ := ask_facts hg h1 h2
        obtain ⟨w1, w2, w3⟩ := plc_worth hg p1.le.1 p1.le.2 d3 hx
        have hqx : qr (a, b) = x := by
          show (a : Rat) / (b : Rat) = x
          rw [← xn, ← xd]; exact (R_self x).symm
        have hax : isP f (a, b) := by
          have hlx := Pl.of (f := f) (Rat.le_trans p1.le.1 w1) w2 (by omega)
          have hxd := x.den_pos
          refine ⟨⟨⟨by simp only; omega, by simp only; omega⟩, ?_⟩, by simp only; rw [← xn, ← xd]; exact hlx.1⟩
          simp only
          rw [← xn, ← xd]
          have := x.reduced
          simpa [Int.gcd] using this
        have hwE : wE f r (a, b) = 0 := wE_ok hv h1 hax (by rw [hqx]; exact w1)
        have hwV : wV f r (a, b) = .agg [I s.1, I s.2] := by
          rw [wV, if_pos hwE, hqx, w3, es]
          congr 1
          grind
        have hwa : W a := by
          have hlx := Pl.of (f := f) (Rat.le_trans p1.le.1 w1) w2 (by omega)
          have := (hlx.sm hg).1
          omega
        simp (maxSteps := 4000000) -implicitDefEqProofs -dsimp (disch := omega) only [↓AW_skip, ↓AW_ops, ↓AW_seq, ↓AW_cond, ↓AOps_nil, ↓AOps_pu, ↓AOps_call, ↓AOps_guard, on_some, guardB_ff, condB_f, ↓then_normal, pval, rd_S, rd_C, put_S, chkd, isAdr, bgot, AV.cells?, partA, eq_self, List.replicate_succ, List.replicate_zero, List.set_cons_zero, List.set_cons_succ, List.getElem?_cons_zero, List.getElem?_cons_succ, List.drop_zero, List.drop_succ_cons, List.take_succ_cons, List.take_nil, Option.getD_some, map_c, map_n, List.length_cons, List.length_nil, Nat.reduceAdd, Nat.reduceSub, Nat.reduceLeDiff, Nat.reduceEqDiff, Nat.zero_add, List.cons_append, List.nil_append, bin_gtr, if_true, if_false, Bool.false_eq_true, Bool.not_true, decide_true, decide_false, hE, hd]
        refine CallK.of (s25 hf r (a, b) hr hwa) ?_
        simp (maxSteps := 4000000) -implicitDefEqProofs -dsimp (disch := omega) only [↓AW_ops, ↓AW_seq, ↓AOps_nil, ↓AOps_pu, ↓AOps_call, ↓AOps_guard, on_some, extK_same, guardB_tt, ↓then_normal, pval, rd_S, rd_C, put_S, chkd, bput, bgot, AV.cells?, splice, partA, eqc, beq_self_eq_true, eq_self, List.replicate_succ, List.replicate_zero, List.set_cons_zero, List.set_cons_succ, List.getElem?_cons_zero, List.getElem?_cons_succ, List.drop_zero, List.drop_succ_cons, List.drop_nil, List.take_zero, List.take_succ_cons, List.take_nil, Option.getD_some, Option.map_some, map_n, List.length_cons, List.length_nil, Nat.reduceAdd, Nat.reduceSub, Nat.reduceLeDiff, Nat.reduceEqDiff, Nat.zero_add, List.cons_append, List.nil_append, List.append_nil, bin_eql, if_true, if_false, Bool.false_eq_true, Bool.true_and, decide_true, ne_eq, not_true_eq_false, hwE, hwV]
        refine CallK.of (known A) ?_
        simp (maxSteps := 4000000) -implicitDefEqProofs -dsimp (disch := omega) only [↓AW_ret, ↓AOps_nil, ↓AOps_pu, on_some, extK_same, ↓then_normal, ↓Fin_ret, pval, rd_S, rd_C, put_S, resV, resL, eq_self, List.replicate_succ, List.replicate_zero, List.set_cons_zero, List.set_cons_succ, List.getElem?_cons_zero, List.getElem?_cons_succ, Option.getD_some, List.length_nil, Nat.reduceSub, List.cons_append, List.nil_append, if_true]
        exact gc_same rfl
    · simp (maxSteps := 4000000) -implicitDefEqProofs -dsimp (disch := omega) only [↓AW_ops, ↓AW_seq, ↓AW_cond, ↓AOps_nil, ↓AOps_pu, ↓AOps_call, ↓AOps_guard, on_some, guardB_tf, skipS_some, condB_t, ↓then_normal, pval, rd_S, rd_C, put_S, eq_self, List.replicate_succ, List.replicate_zero, List.set_cons_zero, List.set_cons_succ, List.getElem?_cons_zero, List.getElem?_cons_succ, Option.getD_some, map_n, List.length_nil, Nat.reduceSub, List.cons_append, List.nil_append, if_true, Bool.not_false, decide_false, hE]
      refine CallK.of (known A) ?_
      simp (maxSteps := 4000000) -implicitDefEqProofs -dsimp (disch := omega) only [↓AW_ret, ↓AOps_nil, ↓AOps_pu, on_some, extK_same, skipS_some, ↓then_normal, ↓then_ret, ↓Fin_ret, pval, rd_S, put_S, resV, resL, List.replicate_succ, List.replicate_zero, List.set_cons_zero, List.set_cons_succ, List.getElem?_cons_zero, List.getElem?_cons_succ, Option.getD_some, List.length_nil, Nat.reduceSub, List.cons_append, List.nil_append]
      exact gc_same rfl

end Go.Proofs.Ytnnbggcckabhdaa
