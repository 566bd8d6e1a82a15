/- Soil: the place of a worth, as the program finds it. No conditions. -/
import Derived.Test.YtnnbggcckabhdaaW16
namespace Go.Proofs.Ytnnbggcckabhdaa
open Go Go.Eng

theorem split_f {α : Type} {l : List α} {i : Nat} {z : α} (hz : l[i]? = some z) : l = l.take i ++ z :: l.drop (i + 1) := by
  have hi : i < l.length := (List.getElem?_eq_some_iff.1 hz).1
  have := (List.getElem?_eq_some_iff.1 hz).2
  rw [← this, List.getElem_cons_drop, List.take_append_drop]

theorem tot_take {f : List (Int × Int)} {i : Nat} {z : Int × Int} (hz : f[i]? = some z) : tot (f.take (i + 1)) = tot (f.take i) + z.1 * z.2 := sumZ_take hz

/-- What lies before a place in a zone. -/
theorem cum_in {f : List (Int × Int)} (hg : good f) {i : Nat} {z : Int × Int} (hz : f[i]? = some z) {x : Rat} (h0 : ((len (f.take i) : Int) : Rat) ≤ x) (h1 : x ≤ ((len (f.take i) + z.1 : Int) : Rat)) :
    upTo 0 f x = ((tot (f.take i) : Int) : Rat) + (x - ((len (f.take i) : Int) : Rat)) * (z.2 : Rat) := by
  have hvz := (vz_iff z).1 (all_get hg.2 hz)
  have hd : ∀ y ∈ f.drop (i + 1), 1 ≤ y.1 := fun y hy => all_pos hg.2 y (List.mem_of_mem_drop hy)
  have e : upTo 0 f x = upTo 0 (f.take i ++ z :: f.drop (i + 1)) x := by rw [← split_f hz]
  rw [e, upTo_append, Int.zero_add, upTo_full x _ 0 (all_pos (good_take hg i).2) (by rw [Int.zero_add]; exact h0), upTo, upTo_none x _ _ hd h1, Rat.add_zero]
  have : clamp x ((len (f.take i) : Int) : Rat) ((len (f.take i) + z.1 : Int) : Rat) = x := by unfold clamp; grind
  rw [this]

theorem s80 {f : List (Int × Int)} {v : AV} {A : AHeap} (hf : L2 A v f) (hg : good f) (p w : Rat) (hp : Pl f p) (D : Int) (hD : 0 < D ∧ D ≤ 1048576) (hDp : Dv D (upTo 0 f p)) (hDw : Dv D w) (hw0 : 0 ≤ w) (hw1 : w ≤ ((10000 : Int) : Rat)) :
    ACalls Try.prog 80 [v, R p, R w] A (.tuple [oR (plc f p w), B (plc f p w).isSome]) A := by
  refine acalls hmix Try.func80 (by kernel_rfl) t80 3 rfl (by decide) ?_
  have hlb := len_bound hg
  have hn0 := Rat.num_nonneg.2 hw0
  by_cases hz : w.num = 0
  · dsimp only [m80]
    simp (maxSteps := 4000000) -implicitDefEqProofs -dsimp (disch := omega) only [↓AW_ops, ↓AW_seq, ↓AW_cond, ↓AW_ret, ↓AOps_nil, ↓AOps_pu, on_some, condB_t, ↓then_normal, ↓then_ret, ↓Fin_ret, pval, rd_S, rd_C, put_S, resV, resL, chkd, isAdr, bput, bgot, AV.cells?, splice, partA, eq_self, List.replicate_succ, List.replicate_zero, List.set_cons_zero, List.set_cons_succ, List.getElem?_cons_zero, List.getElem?_cons_succ, List.drop_zero, List.drop_succ_cons, List.drop_nil, List.take_zero, List.take_succ_cons, List.take_nil, Option.getD_some, List.length_cons, List.length_nil, Nat.reduceAdd, Nat.reduceSub, Nat.reduceLeDiff, Nat.reduceEqDiff, Nat.zero_add, List.cons_append, List.nil_append, List.append_nil, bin_eql, if_true, if_false, Bool.false_eq_true, decide_true, ne_eq, not_true_eq_false, hz]
    exact gc_same (by simp [plc, hz, oR])
  · have hwp : 0 < w := num_pos_iff w |>.1 (by omega)
    dsimp only [m80]
    simp (maxSteps := 4000000) -implicitDefEqProofs -dsimp (disch := omega) only [↓AW_skip, ↓AW_ops, ↓AW_seq, ↓AW_cond, ↓AW_block, ↓AOps_nil, ↓AOps_pu, on_some, condB_f, ↓then_normal, pval, rd_S, rd_C, put_S, ↓AW_toLoop, chkd, isAdr, bgot, AV.cells?, partA, eq_self, List.replicate_succ, List.replicate_zero, List.set_cons_zero, List.set_cons_succ, List.getElem?_cons_zero, List.getElem?_cons_succ, List.drop_zero, List.take_zero, List.take_succ_cons, Option.getD_some, List.length_cons, List.length_nil, Nat.reduceAdd, Nat.reduceSub, Nat.reduceLeDiff, Nat.zero_add, List.cons_append, List.nil_append, bin_eql, if_true, if_false, Bool.false_eq_true, decide_false, hz, hf.len]
    have hbp := upTo_bounds hg 0 p
    have hpl0 := hp.le
    have hSp := hp.sm hg
    have hpl : plc f p w = rz 0 0 f (upTo 0 f p + w) := by
      unfold plc
      rw [if_neg hz, rch_units _ f 0 0 hg.2 (by have : ((0 : Int) : Rat) = 0 := rfl; grind)]
    rw [hpl]
    have hDx := hDp.add hDw
    have hxp : upTo 0 f p < upTo 0 f p + w := by grind
    have hx1 : upTo 0 f p + w ≤ ((12400 : Int) : Rat) := by
      have : ((12400 : Int) : Rat) = ((2400 : Int) : Rat) + ((10000 : Int) : Rat) := by rw [← Rat.intCast_add]; rfl
      grind
    have hwx : w = upTo 0 f p + w - upTo 0 f p := by grind
    generalize upTo 0 f p + w = x at *
    have hx0 : 0 < x := by grind
    refine LoopK.by 62 (fun y : Nat × Rat => y.1 ≤ f.length ∧ y.2 = x - upTo 0 f (if ((len (f.take y.1) : Int) : Rat) < p then p else ((len (f.take y.1) : Int) : Rat)) ∧ ((tot (f.take y.1) : Int) : Rat) < x ∧ rz 0 0 f x = rz (len (f.take y.1)) (tot (f.take y.1)) (f.drop y.1) x)
      (fun y => [(4, R p), (5, R y.2), (6, .agg [I 0, I 0]), (8, I (len (f.take y.1))), (18, v), (19, I f.length), (20, I y.1)]) (fun _ => A) (fun y => f.length - y.1) (0, w) ⟨by simp, ?_, by simpa [tot, sumZ] using hx0, by simp [len, tot, sumZ]⟩ rfl (by simp [Has, rd_s, len, sumZ]) rfl ?_
    · have h0 : ∀ b : Rat, b = 0 → w = x - upTo 0 f (if b < p then p else b) := by
        rintro b rfl
        by_cases h : 0 < p
        · rw [if_pos h]; exact hwx
        · rw [if_neg h]
          have : p = 0 := by grind
          rw [this] at hwx; exact hwx
      exact h0 _ (by simp [len, sumZ])
    rintro ⟨i, left⟩ ⟨hi, hlf, hax, hrz⟩
    simp only at hi hlf hax hrz
    by_cases hlt : i < f.length
    · obtain ⟨z, hz⟩ : ∃ z, f[i]? = some z := ⟨_, List.getElem?_eq_getElem hlt⟩
      have hlt' : (i : Int) < f.length := by omega
      have hl6 := hg.1
      have hgt := good_take hg i
      have hgt' := good_take hg (i + 1)
      have hvz := all_get hg.2 hz
      have hz' := (vz_iff z).1 hvz
      have hlbt := len_bound hgt
      have hlbt' := len_bound hgt'
      have hlt2 := len_take hz
      have htt := tot_take hz
      have hdr : f.drop i = z :: f.drop (i + 1) := by
        have := (List.getElem?_eq_some_iff.1 hz).2
        rw [← this]; exact List.drop_eq_getElem_cons hlt
      rw [hdr, rz] at hrz
      rw [hlt2] at hlbt'
      have hbe : ((len (f.take i) : Int) : Rat) < ((len (f.take i) + z.1 : Int) : Rat) := Rat.intCast_lt_intCast.2 (by omega)
      have hce := cum_in hg hz (Rat.le_of_lt hbe) Rat.le_refl
      have hcev : upTo 0 f ((len (f.take i) + z.1 : Int) : Rat) = ((tot (f.take i) + z.1 * z.2 : Int) : Rat) := by
        rw [hce]
        simp only [Rat.intCast_add, Rat.intCast_mul]
        grind
      have hSb : Sm ((len (f.take i) : Int) : Rat) := Sm_int (by omega)
      have hSe : Sm ((len (f.take i) + z.1 : Int) : Rat) := Sm_int (by omega)
      have hend : ((len (f.take i) + z.1 : Int) : Rat) ≤ ((120 : Int) : Rat) := Rat.intCast_le_intCast.2 (by omega)
      have hb0 := cast_nonneg hlbt.1
      simp (maxSteps := 4000000) -implicitDefEqProofs -dsimp (disch := omega) only [↓AW_skip, ↓AW_ops, ↓AW_seq, ↓AW_cond, ↓AW_block, ↓AOps_nil, ↓AOps_pu, ↓AOps_ld, ↓AOps_call, on_some, condB_t, ↓then_normal, pval, lval, rd_S, rd_C, put_S, chkd, bput, bgot, AV.cells?, splice, partA, eq_self, mk, List.foldl_cons, List.foldl_nil, List.replicate_succ, List.replicate_zero, List.set_cons_zero, List.set_cons_succ, List.getElem?_cons_zero, List.getElem?_cons_succ, List.drop_zero, List.drop_succ_cons, List.drop_nil, List.take_zero, List.take_succ_cons, List.take_nil, Option.getD_some, map_c, map_n, List.length_cons, List.length_nil, Nat.reduceAdd, Nat.reduceLeDiff, Nat.reduceEqDiff, Nat.zero_add, List.nil_append, List.append_nil, bin_lss, if_true, if_false, decide_true, Go.Eng.e2, ne_eq, not_true_eq_false, hlt', hf.idx hlt, hf.ld0 hz 2 true (by decide)]
      refine CallK.of (s78 _ _) ?_
      simp (maxSteps := 4000000) -implicitDefEqProofs -dsimp (disch := omega) only [↓AOps_call, extK_same, rd_S, put_S, mk, List.foldl_cons, List.foldl_nil, List.replicate_succ, List.replicate_zero, List.set_cons_zero, List.set_cons_succ, List.getElem?_cons_zero, List.getElem?_cons_succ, Option.getD_some, map_c, map_n]
      refine CallK.of (s107 _ _ _ hSp hSb) ?_
      simp (maxSteps := 4000000) -implicitDefEqProofs -dsimp (disch := omega) only [↓AOps_pu, ↓AOps_call, on_some, extK_same, pval, rd_S, put_S, chkd, isAdr, bgot, AV.cells?, partA, eq_self, mk, List.foldl_cons, List.foldl_nil, List.replicate_succ, List.replicate_zero, List.set_cons_zero, List.set_cons_succ, List.getElem?_cons_zero, List.getElem?_cons_succ, List.drop_zero, List.take_zero, List.take_succ_cons, Option.getD_some, map_c, map_n, List.length_cons, List.length_nil, Nat.reduceAdd, Nat.reduceLeDiff, Nat.zero_add, bin_add, w64, if_true, if_false, Bool.false_eq_true]
      refine CallK.of (s78 _ _) ?_
      simp (maxSteps := 4000000) -implicitDefEqProofs -dsimp (disch := omega) only [↓AW_ops, ↓AW_seq, ↓AOps_nil, ↓AOps_pu, ↓AOps_call, on_some, extK_same, ↓then_normal, pval, rd_S, rd_C, put_S, chkd, isAdr, bput, bgot, AV.cells?, splice, partA, eq_self, mk, List.foldl_cons, List.foldl_nil, List.replicate_succ, List.replicate_zero, List.set_cons_zero, List.set_cons_succ, List.getElem?_cons_zero, List.getElem?_cons_succ, List.drop_zero, List.drop_succ_cons, List.drop_nil, List.take_zero, List.take_succ_cons, List.take_nil, Option.getD_some, map_c, map_n, List.length_cons, List.length_nil, Nat.reduceAdd, Nat.reduceLeDiff, Nat.reduceEqDiff, Nat.zero_add, List.nil_append, List.append_nil, bin_add, w64, if_true, if_false, Bool.false_eq_true, ne_eq, not_true_eq_false]
      have hlo : ((len (f.take i) : Int) : Rat) ≤ (if ((len (f.take i) : Int) : Rat) < p then p else ((len (f.take i) : Int) : Rat)) := by split <;> grind
      have hSlo : Sm (if ((len (f.take i) : Int) : Rat) < p then p else ((len (f.take i) : Int) : Rat)) := by split <;> assumption
      have hDlo : Dv p.den (if ((len (f.take i) : Int) : Rat) < p then p else ((len (f.take i) : Int) : Rat)) := by
        split
        · exact Dv_self p
        · exact Dv_int _ _
      have hplo : p ≤ (if ((len (f.take i) : Int) : Rat) < p then p else ((len (f.take i) : Int) : Rat)) := by split <;> grind
      have hor : (if ((len (f.take i) : Int) : Rat) < p then p else ((len (f.take i) : Int) : Rat)) = p ∨ (if ((len (f.take i) : Int) : Rat) < p then p else ((len (f.take i) : Int) : Rat)) = ((len (f.take i) : Int) : Rat) := by split <;> simp
      generalize hlod : (if ((len (f.take i) : Int) : Rat) < p then p else ((len (f.take i) : Int) : Rat)) = lo at *
      refine CallK.of (s72 lo _ _ hSlo hSe) ?_
      by_cases h1 : lo < ((len (f.take i) + z.1 : Int) : Rat)
      · have hn1 : ¬ 0 ≤ (lo - ((len (f.take i) + z.1 : Int) : Rat)).num := by have := (sub_neg_iff lo _).2 h1; omega
        have hclo := cum_in hg hz hlo (Rat.le_of_lt h1)
        have hDclo : Dv D (upTo 0 f lo) := by
          rcases hor with h | h
          · rw [h]; exact hDp
          · rw [hclo, h]
            have : ((len (f.take i) : Int) : Rat) - ((len (f.take i) : Int) : Rat) = 0 := by grind
            rw [this, Rat.zero_mul, Rat.add_zero]
            exact Dv_int _ _
        have hbc := upTo_bounds hg 0 lo
        have hmono := upTo_mono (Rat.le_of_lt h1) f 0 hg.2
        have hbce := upTo_bounds hg 0 ((len (f.take i) + z.1 : Int) : Rat)
        have hall : (((len (f.take i) + z.1 : Int) : Rat) - lo) * (z.2 : Rat) = upTo 0 f ((len (f.take i) + z.1 : Int) : Rat) - upTo 0 f lo := by
          rw [hce, hclo]; grind
        have hDd := (Dv_int p.den (len (f.take i) + z.1)).sub hDlo
        have hd0 : 0 ≤ ((len (f.take i) + z.1 : Int) : Rat) - lo := by grind
        have hd1 : ((len (f.take i) + z.1 : Int) : Rat) - lo ≤ ((120 : Int) : Rat) := by grind
        have hSd : Sm (((len (f.take i) + z.1 : Int) : Rat) - lo) := Sm_of (M := 120) (den_pos p) hp.2 (by omega) hDd (int_neg_le_zero (by omega) hd0) hd1
        have hDall : Dv D ((((len (f.take i) + z.1 : Int) : Rat) - lo) * (z.2 : Rat)) := by
          rw [hall, hcev]; exact (Dv_int _ _).sub hDclo
        have hall0 : 0 ≤ (((len (f.take i) + z.1 : Int) : Rat) - lo) * (z.2 : Rat) := by rw [hall]; grind
        have hall1 : (((len (f.take i) + z.1 : Int) : Rat) - lo) * (z.2 : Rat) ≤ ((2400 : Int) : Rat) := by rw [hall]; grind
        have hSall : Sm ((((len (f.take i) + z.1 : Int) : Rat) - lo) * (z.2 : Rat)) := Sm_of (M := 2400) hD.1 hD.2 (by omega) hDall (int_neg_le_zero (by omega) hall0) hall1
        have hDl : Dv D left := by rw [hlf]; exact hDx.sub hDclo
        have hl0 : 0 < left := by
          rw [hlf]
          rcases hor with h | h
          · rw [h]; grind
          · rw [hclo, h]
            have : ((len (f.take i) : Int) : Rat) - ((len (f.take i) : Int) : Rat) = 0 := by grind
            rw [this, Rat.zero_mul, Rat.add_zero]
            grind
        have hl1 : left ≤ ((12400 : Int) : Rat) := by rw [hlf]; grind
        have hSl : Sm left := Sm_of (M := 12400) hD.1 hD.2 (by omega) hDl (int_neg_le_zero (by omega) (Rat.le_of_lt hl0)) hl1
        simp (maxSteps := 4000000) -implicitDefEqProofs -dsimp (disch := omega) only [↓AW_skip, ↓AW_ops, ↓AW_seq, ↓AW_cond, ↓AOps_nil, ↓AOps_pu, ↓AOps_call, on_some, extK_same, condB_f, ↓then_normal, pval, rd_S, rd_C, put_S, chkd, bgot, partA, eq_self, mk, List.foldl_cons, List.foldl_nil, List.replicate_succ, List.replicate_zero, List.set_cons_zero, List.set_cons_succ, List.getElem?_cons_zero, List.getElem?_cons_succ, List.drop_zero, List.take_succ_cons, List.take_nil, Option.getD_some, map_c, map_n, List.length_cons, List.length_nil, Nat.reduceAdd, Nat.reduceLeDiff, Nat.reduceEqDiff, Nat.zero_add, bin_geq, if_true, if_false, decide_false, hn1]
        refine CallK.of (s106g _ _ _ (hSe.fit hSlo)) ?_
        simp (maxSteps := 4000000) -implicitDefEqProofs -dsimp (disch := omega) only [↓AOps_pu, ↓AOps_call, on_some, extK_same, pval, rd_S, put_S, chkd, isAdr, bgot, AV.cells?, partA, eq_self, mk, List.foldl_cons, List.foldl_nil, List.replicate_succ, List.replicate_zero, List.set_cons_zero, List.set_cons_succ, List.getElem?_cons_zero, List.getElem?_cons_succ, List.drop_zero, List.drop_succ_cons, List.take_succ_cons, List.take_nil, Option.getD_some, map_c, map_n, List.length_cons, List.length_nil, Nat.reduceAdd, Nat.reduceLeDiff, Nat.zero_add, if_true, if_false, Bool.false_eq_true]
        refine CallK.of (s110 _ _ _ hSd (by omega)) ?_
        simp (maxSteps := 4000000) -implicitDefEqProofs -dsimp (disch := omega) only [↓AW_ops, ↓AW_seq, ↓AOps_nil, ↓AOps_pu, ↓AOps_call, on_some, extK_same, ↓then_normal, pval, rd_S, rd_C, put_S, chkd, bput, bgot, AV.cells?, splice, partA, eq_self, mk, List.foldl_cons, List.foldl_nil, List.replicate_succ, List.replicate_zero, List.set_cons_zero, List.set_cons_succ, List.getElem?_cons_zero, List.getElem?_cons_succ, List.drop_zero, List.drop_succ_cons, List.drop_nil, List.take_zero, List.take_succ_cons, List.take_nil, Option.getD_some, map_c, map_n, List.length_cons, List.length_nil, Nat.reduceAdd, Nat.reduceLeDiff, Nat.reduceEqDiff, Nat.zero_add, List.nil_append, List.append_nil, if_true, if_false, ne_eq, not_true_eq_false]
        refine CallK.of (s72 _ _ _ hSall hSl) ?_
        by_cases h2 : (((len (f.take i) + z.1 : Int) : Rat) - lo) * (z.2 : Rat) < left
        · have hn2 : ¬ 0 ≤ ((((len (f.take i) + z.1 : Int) : Rat) - lo) * (z.2 : Rat) - left).num := by have := (sub_neg_iff _ _).2 h2; omega
          simp (maxSteps := 4000000) -implicitDefEqProofs -dsimp (disch := omega) only [↓AW_skip, ↓AW_ops, ↓AW_cond, ↓AOps_nil, ↓AOps_pu, ↓AOps_call, on_some, extK_same, condB_f, ↓then_normal, pval, rd_S, rd_C, put_S, chkd, bgot, partA, eq_self, mk, List.foldl_cons, List.foldl_nil, List.replicate_succ, List.replicate_zero, List.set_cons_zero, List.set_cons_succ, List.getElem?_cons_zero, List.getElem?_cons_succ, List.drop_zero, List.take_succ_cons, List.take_nil, Option.getD_some, map_c, map_n, List.length_cons, List.length_nil, Nat.reduceAdd, Nat.reduceLeDiff, Nat.reduceEqDiff, Nat.zero_add, bin_geq, if_true, if_false, decide_false, hn2]
          refine CallK.of (s106g _ _ _ (hSl.fit hSall)) ?_
          simp (maxSteps := 4000000) -implicitDefEqProofs -dsimp (disch := omega) only [↓AW_ops, ↓AOps_nil, ↓AOps_pu, on_some, extK_same, ↓then_normal, ↓inBlock_normal, pval, rd_S, rd_C, put_S, chkd, bput, AV.cells?, splice, eq_self, mk, List.foldl_cons, List.foldl_nil, List.replicate_succ, List.replicate_zero, List.set_cons_zero, List.set_cons_succ, List.getElem?_cons_zero, List.getElem?_cons_succ, List.drop_succ_cons, List.drop_nil, List.take_zero, Option.getD_some, List.length_cons, List.length_nil, Nat.reduceAdd, Nat.reduceLeDiff, Nat.zero_add, List.nil_append, List.append_nil, bin_add, w64, if_true, if_false, true_and, ne_eq, not_true_eq_false]
          have hnx : ¬ x ≤ ((tot (f.take i) + z.1 * z.2 : Int) : Rat) := by
            rw [← hcev]
            exact Rat.not_le.2 (by rw [hall, hlf] at h2; grind)
          rw [if_neg hnx] at hrz
          refine ⟨(i + 1, left - (((len (f.take i) + z.1 : Int) : Rat) - lo) * (z.2 : Rat)), ⟨hlt, ?_, by rw [htt]; exact Rat.not_le.1 hnx, by rw [hrz, hlt2, htt]⟩, by simp [Has, rd_s, hlt2], by simp only; omega⟩
          simp only
          rw [hlt2, if_neg (Rat.not_lt.2 (by grind)), hall, hlf]
          grind
        · have hn2 : 0 ≤ ((((len (f.take i) + z.1 : Int) : Rat) - lo) * (z.2 : Rat) - left).num := by
            have : ¬ ((((len (f.take i) + z.1 : Int) : Rat) - lo) * (z.2 : Rat) - left).num < 0 := fun h => h2 ((sub_neg_iff _ _).1 h)
            omega
          have hxle : x ≤ ((tot (f.take i) + z.1 * z.2 : Int) : Rat) := by
            rw [← hcev]
            have h3 := Rat.not_lt.1 h2
            rw [hall, hlf] at h3; grind
          rw [if_pos hxle] at hrz
          have hvp : 1 ≤ z.2 := by
            by_cases h0 : z.2 = 0
            · rw [h0] at h2
              exact absurd (show (((len (f.take i) + z.1 : Int) : Rat) - lo) * ((0 : Int) : Rat) < left by rw [int0, Rat.mul_zero]; exact hl0) h2
            · omega
          have hle20 : left ≤ ((20 * z.2 : Int) : Rat) := by
            have h3 := Rat.not_lt.1 h2
            have h4 : ((len (f.take i) + z.1 : Int) : Rat) - lo ≤ ((20 : Int) : Rat) := by
              have : ((z.1 : Int) : Rat) ≤ ((20 : Int) : Rat) := Rat.intCast_le_intCast.2 hz'.1.2
              rw [Rat.intCast_add]; grind
            have h5 := Rat.mul_le_mul_of_nonneg_right h4 (cast_nonneg hz'.2.1)
            rw [Rat.intCast_mul]
            exact Rat.le_trans h3 h5
          have hdn := div_num hD.1 hD.2 ⟨hvp, hz'.2.2⟩ hDl (Rat.le_of_lt hl0) hle20
          simp (maxSteps := 4000000) -implicitDefEqProofs -dsimp (disch := omega) only [↓AW_ops, ↓AW_seq, ↓AW_cond, ↓AOps_nil, ↓AOps_pu, ↓AOps_call, on_some, extK_same, condB_t, ↓then_normal, pval, rd_S, rd_C, put_S, chkd, isAdr, bgot, AV.cells?, partA, eq_self, mk, List.foldl_cons, List.foldl_nil, List.replicate_succ, List.replicate_zero, List.set_cons_zero, List.set_cons_succ, List.getElem?_cons_zero, List.getElem?_cons_succ, List.drop_zero, List.drop_succ_cons, List.take_succ_cons, List.take_nil, Option.getD_some, map_c, map_n, List.length_cons, List.length_nil, Nat.reduceAdd, Nat.reduceLeDiff, Nat.reduceEqDiff, Nat.zero_add, bin_geq, if_true, if_false, Bool.false_eq_true, decide_true, hn2]
          refine CallK.of (s112 _ z.2 _ hSl ⟨by omega, by omega⟩) ?_
          simp (maxSteps := 4000000) -implicitDefEqProofs -dsimp (disch := omega) only [↓AOps_call, extK_same, rd_S, put_S, mk, List.foldl_cons, List.foldl_nil, List.replicate_succ, List.replicate_zero, List.set_cons_zero, List.set_cons_succ, List.getElem?_cons_zero, List.getElem?_cons_succ, Option.getD_some, map_c, map_n]
          have hlon : lo.num.natAbs ≤ 120 * 1048576 ∧ lo.den ≤ 1048576 := by
            have := num_le (M := 120) (den_pos p) hDlo (int_neg_le_zero (by omega) (by grind)) (by grind)
            have := hp.2
            omega
          refine CallK.of (s109g _ _ _ (Fit_of (120 * 1048576) (20 * 1048576 * 20) 1048576 (1048576 * 20) hlon.1 hlon.2 hdn.1 hdn.2 (by decide) (by decide))) ?_
          simp (maxSteps := 4000000) -implicitDefEqProofs -dsimp (disch := omega) only [↓AW_ret, ↓AOps_nil, ↓AOps_pu, on_some, extK_same, ↓then_normal, ↓then_ret, ↓inBlock_ret, ↓Fin_ret, pval, rd_S, rd_C, put_S, resV, resL, chkd, bput, bgot, AV.cells?, splice, partA, eq_self, mk, List.foldl_cons, List.foldl_nil, List.replicate_succ, List.replicate_zero, List.set_cons_zero, List.set_cons_succ, List.getElem?_cons_zero, List.getElem?_cons_succ, List.drop_zero, List.drop_succ_cons, List.drop_nil, List.take_zero, List.take_succ_cons, List.take_nil, Option.getD_some, List.length_cons, List.length_nil, Nat.reduceAdd, Nat.reduceLeDiff, Nat.reduceEqDiff, Nat.zero_add, List.nil_append, List.append_nil, if_true, if_false, ne_eq, not_true_eq_false]
          refine gc_same ?_
          have heq : ((len (f.take i) : Int) : Rat) + (x - ((tot (f.take i) : Int) : Rat)) / (z.2 : Rat) = lo + left / (z.2 : Rat) := by
            have hne := cast_ne (show z.2 ≠ 0 by omega)
            rw [hlf, hclo]
            generalize (z.2 : Rat) = vv at *
            generalize ((len (f.take i) : Int) : Rat) = bb at *
            generalize ((tot (f.take i) : Int) : Rat) = aa at *
            grind
          rw [hrz, heq]
          rfl
      · have hn1 : 0 ≤ (lo - ((len (f.take i) + z.1 : Int) : Rat)).num := by
          have : ¬ (lo - ((len (f.take i) + z.1 : Int) : Rat)).num < 0 := fun h => h1 ((sub_neg_iff _ _).1 h)
          omega
        have h1' := Rat.not_lt.1 h1
        have hlop : lo = p := by
          rcases hor with h | h
          · exact h
          · rw [h] at h1'; exact absurd hbe (Rat.not_lt.2 h1')
        subst hlop
        simp (maxSteps := 4000000) -implicitDefEqProofs -dsimp (disch := omega) only [↓AW_ops, ↓AW_seq, ↓AW_cond, ↓AW_exit, ↓AW_ret, ↓AOps_nil, ↓AOps_pu, on_some, extK_same, condB_t, ↓then_normal, ↓then_exit, ↓inBlock_exit, ↓Fin_ret, pval, rd_S, rd_C, put_S, resV, resL, chkd, bput, bgot, AV.cells?, splice, partA, fillA, eq_self, mk, List.foldl_cons, List.foldl_nil, List.replicate_succ, List.replicate_zero, List.set_cons_zero, List.set_cons_succ, List.getElem?_cons_zero, List.getElem?_cons_succ, List.drop_zero, List.drop_succ_cons, List.drop_nil, List.take_zero, List.take_succ_cons, List.take_nil, Option.getD_some, Option.map_some, map_n, List.length_cons, List.length_nil, Nat.reduceAdd, Nat.reduceLeDiff, Nat.reduceEqDiff, Nat.zero_add, List.nil_append, List.append_nil, bin_add, bin_geq, w64, if_true, if_false, decide_true, true_and, reduceCtorEq, ne_eq, not_true_eq_false, hn1]
        have hnx : ¬ x ≤ ((tot (f.take i) + z.1 * z.2 : Int) : Rat) := by
          rw [← hcev]
          have := upTo_mono h1' f 0 hg.2
          exact Rat.not_le.2 (by grind)
        rw [if_neg hnx] at hrz
        refine ⟨(i + 1, left), ⟨hlt, ?_, by rw [htt]; exact Rat.not_le.1 hnx, by rw [hrz, hlt2, htt]⟩, by simp [Has, rd_s, hlt2], by simp only; omega⟩
        simp only
        rw [hlt2, hlf]
        congr 2
        split <;> grind
    · have hlt' : ¬ ((i : Int) < f.length) := by omega
      rw [List.drop_of_length_le (by omega)] at hrz
      simp (maxSteps := 4000000) -implicitDefEqProofs -dsimp (disch := omega) only [↓AW_ops, ↓AW_seq, ↓AW_cond, ↓AW_exit, ↓AW_ret, ↓AOps_nil, ↓AOps_pu, on_some, condB_f, ↓then_normal, ↓then_exit, ↓inBlock_exit, ↓Fin_ret, pval, rd_S, rd_C, put_S, resV, resL, chkd, bput, bgot, AV.cells?, splice, partA, fillA, eq_self, mk, List.foldl_cons, List.foldl_nil, List.replicate_succ, List.replicate_zero, List.set_cons_zero, List.set_cons_succ, List.getElem?_cons_zero, List.getElem?_cons_succ, List.drop_zero, List.drop_succ_cons, List.drop_nil, List.take_zero, List.take_succ_cons, List.take_nil, Option.getD_some, Option.map_some, map_n, List.length_cons, List.length_nil, Nat.reduceAdd, Nat.reduceLeDiff, Nat.reduceEqDiff, Nat.zero_add, List.nil_append, List.append_nil, bin_lss, if_true, if_false, decide_false, ne_eq, not_true_eq_false, hlt']
      exact gc_same (by rw [hrz]; rfl)

end Go.Proofs.Ytnnbggcckabhdaa
