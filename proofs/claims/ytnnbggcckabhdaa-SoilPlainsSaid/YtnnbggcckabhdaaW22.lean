/- Soil: what lies between whole places. No conditions. -/
import Derived.Test.YtnnbggcckabhdaaW14
import Derived.Test.YtnnbggcckabhdaaS0
namespace Go.Proofs.Ytnnbggcckabhdaa
open Go Go.Eng

/-- What of a zone lies between. -/
def ov (p q : Int) (b : Int) (z : Int × Int) : Int := min q (b + z.1) - max p b
def prt (p q : Int) : Int → List (Int × Int) → List (Int × Int)
  | _, [] => []
  | b, z :: f => (if 0 < ov p q b z then [(ov p q b z, z.2)] else []) ++ prt p q (b + z.1) f

theorem prt_append (p q : Int) : ∀ (f g : List (Int × Int)) (b : Int), prt p q b (f ++ g) = prt p q b f ++ prt p q (b + len f) g
  | [], g, b => by simp [prt, len, sumZ]
  | z :: f, g, b => by
    have : b + len (z :: f) = b + z.1 + len f := by simp [len, sumZ]; omega
    rw [List.cons_append, prt, prt_append p q f g (b + z.1), prt, this, List.append_assoc]

theorem prt_take (p q : Int) {f : List (Int × Int)} {i : Nat} {z : Int × Int} (hz : f[i]? = some z) : prt p q 0 (f.take (i + 1)) = prt p q 0 (f.take i) ++ if 0 < ov p q (len (f.take i)) z then [(ov p q (len (f.take i)) z, z.2)] else [] := by
  rw [List.take_add_one, hz, Option.toList_some, prt_append, Int.zero_add]
  simp [prt]

theorem prt_le (p q : Int) : ∀ (f : List (Int × Int)) (b : Int), (prt p q b f).length ≤ f.length
  | [], _ => by simp [prt]
  | z :: f, b => by
    have := prt_le p q f (b + z.1)
    rw [prt, List.length_append, List.length_cons]
    split <;> simp <;> omega

theorem prt_vz (p q : Int) : ∀ (f : List (Int × Int)) (b : Int), f.all vz = true → (prt p q b f).all vz = true
  | [], _, _ => rfl
  | z :: f, b, h => by
    simp only [List.all_cons, Bool.and_eq_true] at h
    have hz := (vz_iff z).1 h.1
    rw [prt, List.all_append, prt_vz p q f _ h.2, Bool.and_true]
    split
    · rename_i h1
      simp only [List.all_cons, List.all_nil, Bool.and_true]
      rw [vz_iff]
      unfold ov at *
      omega
    · rfl

theorem prt_len {p q : Int} (h : p ≤ q) : ∀ (f : List (Int × Int)) (b : Int), f.all vz = true → len (prt p q b f) = max 0 (min q (b + len f) - max p b)
  | [], b, _ => by simp [prt, len, sumZ]; omega
  | z :: f, b, hv => by
    simp only [List.all_cons, Bool.and_eq_true] at hv
    have hz := (vz_iff z).1 hv.1
    have ih := prt_len h f (b + z.1) hv.2
    have hl := len_nonneg (all_pos hv.2)
    have e : len (z :: f) = z.1 + len f := by simp [len, sumZ]
    have e2 : ∀ a b : List (Int × Int), len (a ++ b) = len a + len b := fun a b => by simp [len, sumZ]
    rw [prt, e2, ih, e]
    split
    · rename_i h1
      have : len [(ov p q b z, z.2)] = ov p q b z := by simp [len, sumZ]
      rw [this]
      unfold ov at *
      omega
    · rename_i h1
      have : len ([] : List (Int × Int)) = 0 := by simp [len, sumZ]
      rw [this]
      unfold ov at *
      omega

def clI (x lo hi : Int) : Int := if x < lo then lo else if hi < x then hi else x
theorem clamp_int (x lo hi : Int) : clamp (x : Rat) (lo : Rat) (hi : Rat) = ((clI x lo hi : Int) : Rat) := by
  unfold clamp clI
  by_cases h1 : x < lo
  · rw [if_pos h1, if_pos (Rat.intCast_lt_intCast.2 h1)]
  · rw [if_neg h1, if_neg (fun h => h1 (Rat.intCast_lt_intCast.1 h))]
    by_cases h2 : hi < x
    · rw [if_pos h2, if_pos (Rat.intCast_lt_intCast.2 h2)]
    · rw [if_neg h2, if_neg (fun h => h2 (Rat.intCast_lt_intCast.1 h))]

theorem prt_tot {p q : Int} (h : p ≤ q) : ∀ (f : List (Int × Int)) (b : Int), f.all vz = true → ((tot (prt p q b f) : Int) : Rat) = upTo b f (q : Rat) - upTo b f (p : Rat)
  | [], b, _ => by simp [prt, tot, sumZ, upTo, Rat.sub_self]
  | z :: f, b, hv => by
    simp only [List.all_cons, Bool.and_eq_true] at hv
    have hz := (vz_iff z).1 hv.1
    have ih := prt_tot h f (b + z.1) hv.2
    have e2 : ∀ a b : List (Int × Int), tot (a ++ b) = tot a + tot b := fun a b => by simp [tot, sumZ]
    have e3 : tot (if 0 < ov p q b z then [(ov p q b z, z.2)] else []) = (clI q b (b + z.1) - clI p b (b + z.1)) * z.2 := by
      have : (if 0 < ov p q b z then ov p q b z else 0) = clI q b (b + z.1) - clI p b (b + z.1) := by
        unfold ov clI
        split <;> split <;> (try split) <;> (try split) <;> omega
      rw [← this]
      split <;> simp [tot, sumZ]
    rw [prt, e2, e3, Rat.intCast_add, ih, upTo, upTo, clamp_int, clamp_int, Rat.intCast_mul, Rat.intCast_sub]
    grind

def ptE (f : List (Int × Int)) (p q : Int) : Int := if vE f = 0 then (if (0 ≤ p ∧ p < q) ∧ q ≤ len f then 0 else 1) else vE f
def ptL (f : List (Int × Int)) (p q : Int) : List (Int × Int) := if ptE f p q = 0 then prt p q 0 f else []

theorem s41 {f : List (Int × Int)} {v : AV} {A : AHeap} (hf : L2 A v f) (p q : Int) (hp : W p) (hq : W q) : ACalls Try.prog 41 [v, I p, I q] A (.tuple [outV 2 A (ptL f p q).length, I (ptE f p q)]) (outH A ((ptL f p q).flatMap e2) (ptL f p q).length) := by
  refine acalls hmix Try.func41 (by kernel_rfl) t41 3 rfl (by decide) ?_
  dsimp only [m41]
  simp (maxSteps := 4000000) -implicitDefEqProofs -dsimp (disch := omega) only [↓AW_ops, ↓AW_seq, ↓AOps_nil, ↓AOps_pu, ↓AOps_call, on_some, ↓then_normal, pval, rd_S, rd_C, put_S, List.replicate_succ, List.replicate_zero, List.set_cons_zero, List.set_cons_succ, List.getElem?_cons_zero, List.getElem?_cons_succ, Option.getD_some, map_c, map_n, Nat.reduceSub, List.cons_append, List.nil_append]
  refine CallK.of (s37 hf) ?_
  by_cases h0 : vE f = 0
  · have hg := (good_of h0).1
    have hlb := len_bound hg
    have bad : ¬ ((0 ≤ p ∧ p < q) ∧ q ≤ len f) → ptE f p q = 1 ∧ ptL f p q = [] := fun h => by
      have : ptE f p q = 1 := by simp [ptE, h0, h]
      exact ⟨this, by simp [ptL, this]⟩
    by_cases h1 : p < 0
    · obtain ⟨b1, b2⟩ := bad (by omega)
      rw [b1, b2]
      simp (maxSteps := 4000000) -implicitDefEqProofs -dsimp (disch := omega) only [↓AW_skip, ↓AW_ops, ↓AW_seq, ↓AW_cond, ↓AW_ret, ↓AOps_nil, ↓AOps_pu, ↓AOps_guard, on_some, extK_same, guardB_tf, skipS_some, condB_t, condB_f, ↓then_normal, ↓then_ret, ↓Fin_ret, pval, rd_S, rd_C, put_S, resV, resL, eq_self, List.replicate_succ, List.replicate_zero, List.set_cons_zero, List.set_cons_succ, List.getElem?_cons_zero, List.getElem?_cons_succ, Option.getD_some, List.length_nil, Nat.reduceSub, List.cons_append, List.nil_append, bin_neq, bin_lss, if_true, decide_true, decide_false, not_true_eq_false, h0, h1]
      exact gc_same_all rfl rfl
    · by_cases h2 : q ≤ p
      · obtain ⟨b1, b2⟩ := bad (by omega)
        rw [b1, b2]
        simp (maxSteps := 4000000) -implicitDefEqProofs -dsimp (disch := omega) only [↓AW_skip, ↓AW_ops, ↓AW_seq, ↓AW_cond, ↓AW_ret, ↓AOps_nil, ↓AOps_pu, ↓AOps_guard, on_some, extK_same, guardB_tf, guardB_ff, skipS_some, condB_t, condB_f, ↓then_normal, ↓then_ret, ↓Fin_ret, pval, rd_S, rd_C, put_S, resV, resL, eq_self, List.replicate_succ, List.replicate_zero, List.set_cons_zero, List.set_cons_succ, List.getElem?_cons_zero, List.getElem?_cons_succ, Option.getD_some, List.length_nil, Nat.reduceSub, List.cons_append, List.nil_append, bin_neq, bin_lss, bin_geq, if_true, if_false, Bool.false_eq_true, decide_true, decide_false, not_true_eq_false, h0, h1, h2]
        exact gc_same_all rfl rfl
      · simp (maxSteps := 4000000) -implicitDefEqProofs -dsimp (disch := omega) only [↓AW_skip, ↓AW_ops, ↓AW_seq, ↓AW_cond, ↓AOps_nil, ↓AOps_pu, ↓AOps_call, ↓AOps_guard, on_some, extK_same, guardB_ff, condB_f, ↓then_normal, pval, rd_S, rd_C, put_S, eq_self, List.replicate_succ, List.replicate_zero, List.set_cons_zero, List.set_cons_succ, List.getElem?_cons_zero, List.getElem?_cons_succ, Option.getD_some, map_c, map_n, Nat.reduceSub, List.cons_append, List.nil_append, bin_neq, bin_lss, bin_geq, if_false, Bool.false_eq_true, decide_false, not_true_eq_false, h0, h1, h2]
        refine CallK.of (s77 hf hg) ?_
        by_cases h3 : len f < q
        · obtain ⟨b1, b2⟩ := bad (by omega)
          rw [b1, b2]
          simp (maxSteps := 4000000) -implicitDefEqProofs -dsimp (disch := omega) only [↓AW_ops, ↓AW_seq, ↓AW_cond, ↓AW_ret, ↓AOps_nil, ↓AOps_pu, ↓AOps_guard, on_some, extK_same, guardB_ff, condB_t, ↓then_normal, ↓then_ret, ↓Fin_ret, pval, rd_S, rd_C, put_S, resV, resL, List.replicate_succ, List.replicate_zero, List.set_cons_zero, List.set_cons_succ, List.getElem?_cons_zero, List.getElem?_cons_succ, Option.getD_some, List.length_nil, Nat.reduceSub, List.cons_append, List.nil_append, bin_gtr, if_false, Bool.false_eq_true, decide_true, h3]
          exact gc_same_all rfl rfl
        · have hE : ptE f p q = 0 := by
            unfold ptE; rw [if_pos h0, if_pos (by omega)]
          have hL : ptL f p q = prt p q 0 f := by unfold ptL; rw [if_pos hE]
          rw [hE, hL]
          simp (maxSteps := 4000000) -implicitDefEqProofs -dsimp (disch := omega) only [↓AW_skip, ↓AW_ops, ↓AW_seq, ↓AW_cond, ↓AW_block, ↓AOps_nil, ↓AOps_pu, ↓AOps_guard, on_some, extK_same, guardB_ff, condB_f, ↓then_normal, pval, rd_S, rd_C, put_S, ↓AW_toLoop, List.replicate_succ, List.replicate_zero, List.set_cons_zero, List.set_cons_succ, List.getElem?_cons_zero, List.getElem?_cons_succ, Option.getD_some, Nat.reduceSub, List.cons_append, List.nil_append, bin_gtr, if_false, Bool.false_eq_true, decide_false, h3, hf.len]
          refine LoopK.by 63 (fun x : Nat × AV × AHeap => x.1 ≤ f.length ∧ AccL 2 e2 A x.2.2 x.2.1 (prt p q 0 (f.take x.1))) (fun x => [(1, I p), (2, I q), (9, x.2.1), (10, I (len (f.take x.1))), (32, v), (33, I f.length), (34, I x.1)]) (fun x => x.2.2) (fun x => f.length - x.1) (0, .nilS, A) ⟨by simp only; omega, AccL.nil (List.prefix_refl _)⟩ rfl (by simp [Has, rd_s, len, sumZ]) rfl ?_
          rintro ⟨i, u, A1⟩ ⟨hi, hu⟩
          simp only at hi hu
          have hl6 := hg.1
          by_cases hlt : i < f.length
          · obtain ⟨z, hz⟩ : ∃ z, f[i]? = some z := ⟨_, List.getElem?_eq_getElem hlt⟩
            have hlt' : (i : Int) < f.length := by omega
            have hz' := (vz_iff z).1 (all_get hg.2 hz)
            have hlt2 := len_take hz
            have hlb2 := len_bound (good_take hg i)
            have hf1 := hf.mono hu.pre
            have hpt := prt_take p q hz
            have hple := prt_le p q (f.take i) 0
            rw [List.length_take] at hple
            by_cases h4 : 0 < min q (len (f.take i) + z.1) - max p (len (f.take i))
            · rw [if_pos (show 0 < ov p q (len (f.take i)) z from h4)] at hpt
              obtain ⟨v3, A3, happ, h3'⟩ := hu.push e2_len (min q (len (f.take i) + z.1) - max p (len (f.take i)), z.2) (by simp [lim]; omega)
              simp only [Go.Eng.e2] at happ
              simp (maxSteps := 4000000) -implicitDefEqProofs -dsimp (disch := omega) only [↓AW_skip, ↓AW_ops, ↓AW_seq, ↓AW_cond, ↓AW_block, ↓AOps_nil, ↓AOps_pu, ↓AOps_ld, ↓AOps_ha, on_some, extK_false, extK_app, condB_t, ↓then_normal, ↓inBlock_normal, pval, lval, hval, rd_S, rd_C, put_S, chkd, isAdr, bput, bgot, AV.cells?, splice, partA, fillA, repl, eq_self, mk, List.foldl_cons, List.foldl_nil, List.replicate_succ, List.replicate_zero, List.set_cons_zero, List.set_cons_succ, List.getElem?_cons_zero, List.getElem?_cons_succ, List.drop_zero, List.drop_succ_cons, List.drop_nil, List.take_zero, List.take_succ_cons, List.take_nil, Option.getD_some, Option.map_some, map_c, map_n, List.length_cons, List.length_nil, Nat.reduceAdd, Nat.reduceLeDiff, Nat.reduceEqDiff, Nat.zero_add, List.cons_append, List.nil_append, List.append_nil, bin_add, bin_sub, bin_lss, bin_gtr, mm_max, mm_min, w64, if_true, if_false, Bool.false_eq_true, decide_true, Go.Eng.e2, true_and, and_true, ne_eq, not_true_eq_false, hlt', hf1.idx hlt, hf1.ld0 hz 2 true (by decide), h4, happ]
              refine ⟨(i + 1, v3, A3), ⟨hlt, ?_⟩, by simp [Has, rd_s, hlt2], rfl, by simp only; omega⟩
              simp only
              rw [hpt]; exact h3'
            · rw [if_neg (show ¬ 0 < ov p q (len (f.take i)) z from h4), List.append_nil] at hpt
              simp (maxSteps := 4000000) -implicitDefEqProofs -dsimp (disch := omega) only [↓AW_skip, ↓AW_ops, ↓AW_seq, ↓AW_cond, ↓AW_block, ↓AOps_nil, ↓AOps_pu, ↓AOps_ld, on_some, condB_t, condB_f, ↓then_normal, ↓inBlock_normal, pval, lval, rd_S, rd_C, put_S, chkd, isAdr, bput, bgot, AV.cells?, splice, partA, eq_self, mk, List.foldl_cons, List.foldl_nil, List.replicate_succ, List.replicate_zero, List.set_cons_zero, List.set_cons_succ, List.getElem?_cons_zero, List.getElem?_cons_succ, List.drop_zero, List.drop_succ_cons, List.drop_nil, List.take_zero, List.take_succ_cons, List.take_nil, Option.getD_some, map_c, map_n, List.length_cons, List.length_nil, Nat.reduceAdd, Nat.reduceLeDiff, Nat.reduceEqDiff, Nat.zero_add, List.nil_append, List.append_nil, bin_add, bin_sub, bin_lss, bin_gtr, mm_max, mm_min, w64, if_true, if_false, Bool.false_eq_true, decide_true, decide_false, Go.Eng.e2, true_and, ne_eq, not_true_eq_false, hlt', hf1.idx hlt, hf1.ld0 hz 2 true (by decide), h4]
              refine ⟨(i + 1, u, A1), ⟨hlt, ?_⟩, by simp [Has, rd_s, hlt2], rfl, by simp only; omega⟩
              simp only
              rw [hpt]; exact hu
          · have hlt' : ¬ ((i : Int) < f.length) := by omega
            rw [List.take_of_length_le (by omega)] at hu
            simp (maxSteps := 4000000) -implicitDefEqProofs -dsimp (disch := omega) only [↓AW_ops, ↓AW_seq, ↓AW_cond, ↓AW_exit, ↓AW_ret, ↓AOps_nil, ↓AOps_pu, on_some, condB_f, ↓then_normal, ↓then_exit, ↓inBlock_exit, ↓Fin_ret, pval, rd_S, rd_C, put_S, resV, resL, eq_self, mk, List.foldl_cons, List.foldl_nil, List.replicate_succ, List.replicate_zero, List.set_cons_zero, List.set_cons_succ, List.getElem?_cons_zero, List.getElem?_cons_succ, Option.getD_some, bin_lss, if_true, decide_false, hlt']
            exact hu.gc2 flat_e2 (I 0) rfl
  · have hE : ptE f p q = vE f := by simp [ptE, h0]
    have hL : ptL f p q = [] := by simp [ptL, hE, h0]
    rw [hE, hL]
    simp (maxSteps := 4000000) -implicitDefEqProofs -dsimp (disch := omega) only [↓AW_ops, ↓AW_seq, ↓AW_cond, ↓AW_ret, ↓AOps_nil, ↓AOps_pu, on_some, extK_same, condB_t, ↓then_normal, ↓then_ret, ↓Fin_ret, pval, rd_S, rd_C, put_S, resV, resL, List.replicate_succ, List.replicate_zero, List.set_cons_zero, List.set_cons_succ, List.getElem?_cons_zero, List.getElem?_cons_succ, Option.getD_some, List.length_nil, Nat.reduceSub, List.cons_append, List.nil_append, bin_neq, decide_true, not_false_eq_true, h0]
    exact gc_same_all rfl rfl

theorem s42 {f : List (Int × Int)} {v : AV} {A : AHeap} (hf : L2 A v f) (p q : Int) (hp : W p) (hq : W q) : ACalls Try.prog 42 [v, I p, I q] A (.tuple [outV 2 A (ptL f p q).length, I (ptE f p q)]) (outH A ((ptL f p q).flatMap e2) (ptL f p q).length) := by
  refine acalls hmix Try.func42 (by kernel_rfl) t42 3 rfl (by decide) ?_
  dsimp only [m42]
  simp (maxSteps := 4000000) -implicitDefEqProofs -dsimp (disch := omega) only [↓AW_ops, ↓AW_seq, ↓AOps_nil, ↓AOps_pu, ↓AOps_call, on_some, ↓then_normal, pval, rd_S, rd_C, put_S, List.replicate_succ, List.replicate_zero, List.set_cons_zero, List.set_cons_succ, List.getElem?_cons_zero, List.getElem?_cons_succ, Option.getD_some, map_c, map_n, Nat.reduceSub, List.cons_append, List.nil_append]
  refine CallK.of (s38 hf) ?_
  by_cases h0 : vE f = 0
  · have hg := (good_of h0).1
    have hlb := len_bound hg
    have hlu := len_units hg.2
    have bad : ¬ ((0 ≤ p ∧ p < q) ∧ q ≤ len f) → ptE f p q = 1 ∧ ptL f p q = [] := fun h => by
      have : ptE f p q = 1 := by simp [ptE, h0, h]
      exact ⟨this, by simp [ptL, this]⟩
    by_cases h1 : p < 0
    · obtain ⟨b1, b2⟩ := bad (by omega)
      rw [b1, b2]
      simp (maxSteps := 4000000) -implicitDefEqProofs -dsimp (disch := omega) only [↓AW_skip, ↓AW_ops, ↓AW_seq, ↓AW_cond, ↓AW_ret, ↓AOps_nil, ↓AOps_pu, ↓AOps_guard, on_some, extK_same, guardB_tf, skipS_some, condB_t, condB_f, ↓then_normal, ↓then_ret, ↓Fin_ret, pval, rd_S, rd_C, put_S, resV, resL, eq_self, List.replicate_succ, List.replicate_zero, List.set_cons_zero, List.set_cons_succ, List.getElem?_cons_zero, List.getElem?_cons_succ, Option.getD_some, List.length_nil, Nat.reduceSub, List.cons_append, List.nil_append, bin_neq, bin_lss, if_true, decide_true, decide_false, not_true_eq_false, h0, h1]
      exact gc_same_all rfl rfl
    · by_cases h2 : q ≤ p
      · obtain ⟨b1, b2⟩ := bad (by omega)
        rw [b1, b2]
        simp (maxSteps := 4000000) -implicitDefEqProofs -dsimp (disch := omega) only [↓AW_skip, ↓AW_ops, ↓AW_seq, ↓AW_cond, ↓AW_ret, ↓AOps_nil, ↓AOps_pu, ↓AOps_guard, on_some, extK_same, guardB_tf, guardB_ff, skipS_some, condB_t, condB_f, ↓then_normal, ↓then_ret, ↓Fin_ret, pval, rd_S, rd_C, put_S, resV, resL, eq_self, List.replicate_succ, List.replicate_zero, List.set_cons_zero, List.set_cons_succ, List.getElem?_cons_zero, List.getElem?_cons_succ, Option.getD_some, List.length_nil, Nat.reduceSub, List.cons_append, List.nil_append, bin_neq, bin_lss, bin_geq, if_true, if_false, Bool.false_eq_true, decide_true, decide_false, not_true_eq_false, h0, h1, h2]
        exact gc_same_all rfl rfl
      · simp (maxSteps := 4000000) -implicitDefEqProofs -dsimp (disch := omega) only [↓AW_skip, ↓AW_ops, ↓AW_seq, ↓AW_cond, ↓AOps_nil, ↓AOps_pu, ↓AOps_call, ↓AOps_guard, on_some, extK_same, guardB_ff, condB_f, ↓then_normal, pval, rd_S, rd_C, put_S, eq_self, List.replicate_succ, List.replicate_zero, List.set_cons_zero, List.set_cons_succ, List.getElem?_cons_zero, List.getElem?_cons_succ, Option.getD_some, map_c, map_n, Nat.reduceSub, List.cons_append, List.nil_append, bin_neq, bin_lss, bin_geq, if_false, Bool.false_eq_true, decide_false, not_true_eq_false, h0, h1, h2]
        refine CallK.of (s68 hf hg) ?_
        have hu2 := Ls_out A e1_len (units f)
        have hpre := pre_out A ((units f).flatMap Go.Eng.e1) (units f).length
        generalize outV 1 A (units f).length = uv at *
        generalize outH A ((units f).flatMap Go.Eng.e1) (units f).length = A0 at *
        have hf0 := hf.mono hpre
        by_cases h3 : len f < q
        · obtain ⟨b1, b2⟩ := bad (by omega)
          rw [b1, b2]
          simp (maxSteps := 4000000) -implicitDefEqProofs -dsimp (disch := omega) only [↓AW_ops, ↓AW_seq, ↓AW_cond, ↓AW_ret, ↓AOps_nil, ↓AOps_pu, ↓AOps_guard, on_some, extK_false, guardB_ff, condB_t, ↓then_normal, ↓then_ret, ↓Fin_ret, pval, rd_S, rd_C, put_S, resV, resL, List.replicate_succ, List.replicate_zero, List.set_cons_zero, List.set_cons_succ, List.getElem?_cons_zero, List.getElem?_cons_succ, Option.getD_some, List.length_nil, Nat.reduceSub, List.cons_append, List.nil_append, bin_gtr, if_false, Bool.false_eq_true, decide_true, h3, hu2.len, hlu]
          exact gc_val hpre rfl
        · have hE : ptE f p q = 0 := by
            unfold ptE; rw [if_pos h0, if_pos (by omega)]
          have hL : ptL f p q = prt p q 0 f := by unfold ptL; rw [if_pos hE]
          rw [hE, hL]
          simp (maxSteps := 4000000) -implicitDefEqProofs -dsimp (disch := omega) only [↓AW_skip, ↓AW_ops, ↓AW_seq, ↓AW_cond, ↓AW_block, ↓AOps_nil, ↓AOps_pu, ↓AOps_guard, on_some, extK_false, guardB_ff, condB_f, ↓then_normal, pval, rd_S, rd_C, put_S, ↓AW_toLoop, List.replicate_succ, List.replicate_zero, List.set_cons_zero, List.set_cons_succ, List.getElem?_cons_zero, List.getElem?_cons_succ, Option.getD_some, Nat.reduceSub, List.cons_append, List.nil_append, bin_gtr, if_false, Bool.false_eq_true, decide_false, h3, hu2.len, hlu]
          refine LoopK.by 71 (fun x : Nat × AV × AHeap => x.1 ≤ f.length ∧ AccL 2 e2 A0 x.2.2 x.2.1 (prt p q 0 (f.take x.1))) (fun x => [(0, v), (1, I p), (2, I q), (9, x.2.1), (10, I (len (f.take x.1))), (11, I x.1)]) (fun x => x.2.2) (fun x => f.length - x.1) (0, .nilS, A0) ⟨by simp only; omega, AccL.nil (List.prefix_refl _)⟩ rfl (by simp [Has, rd_s, len, sumZ]) rfl ?_
          rintro ⟨i, u, A1⟩ ⟨hi, hu⟩
          simp only at hi hu
          have hl6 := hg.1
          have hf1 := hf0.mono hu.pre
          by_cases hlt : i < f.length
          · obtain ⟨z, hz⟩ : ∃ z, f[i]? = some z := ⟨_, List.getElem?_eq_getElem hlt⟩
            have hlt' : (i : Int) < f.length := by omega
            have hz' := (vz_iff z).1 (all_get hg.2 hz)
            have hlt2 := len_take hz
            have hlb2 := len_bound (good_take hg i)
            have hpt := prt_take p q hz
            have hple := prt_le p q (f.take i) 0
            rw [List.length_take] at hple
            by_cases h4 : 0 < min q (len (f.take i) + z.1) - max p (len (f.take i))
            · rw [if_pos (show 0 < ov p q (len (f.take i)) z from h4)] at hpt
              obtain ⟨v3, A3, happ, h3'⟩ := hu.push e2_len (min q (len (f.take i) + z.1) - max p (len (f.take i)), z.2) (by simp [lim]; omega)
              simp only [Go.Eng.e2] at happ
              have hf3 := hf0.mono h3'.pre
              simp (maxSteps := 4000000) -implicitDefEqProofs -dsimp (disch := omega) only [↓AW_skip, ↓AW_ops, ↓AW_seq, ↓AW_cond, ↓AW_block, ↓AOps_nil, ↓AOps_pu, ↓AOps_ld, ↓AOps_ha, on_some, extK_false, extK_app, condB_t, ↓then_normal, ↓inBlock_normal, pval, lval, hval, rd_S, rd_C, put_S, AV.cells?, splice, partA, fillA, repl, eq_self, mk, List.foldl_cons, List.foldl_nil, List.replicate_succ, List.replicate_zero, List.set_cons_zero, List.set_cons_succ, List.getElem?_cons_zero, List.getElem?_cons_succ, List.drop_zero, List.drop_succ_cons, List.drop_nil, List.take_zero, List.take_succ_cons, List.take_nil, Option.getD_some, Option.map_some, map_c, map_n, List.length_cons, List.length_nil, Nat.reduceAdd, Nat.reduceLeDiff, Nat.zero_add, Nat.add_zero, List.cons_append, List.nil_append, List.append_nil, bin_add, bin_sub, bin_lss, bin_gtr, mm_max, mm_min, w64, if_true, if_false, Bool.false_eq_true, decide_true, Go.Eng.e2, true_and, and_true, hlt', hf1.len, hf1.idx hlt, hf1.ld0 hz 1 false (by decide), hf1.ld hz 1 1 false (by decide), h4, happ, hf3.ld0 hz 1 false (by decide)]
              refine ⟨(i + 1, v3, A3), ⟨hlt, ?_⟩, by simp [Has, rd_s, hlt2], rfl, by simp only; omega⟩
              simp only
              rw [hpt]; exact h3'
            · rw [if_neg (show ¬ 0 < ov p q (len (f.take i)) z from h4), List.append_nil] at hpt
              simp (maxSteps := 4000000) -implicitDefEqProofs -dsimp (disch := omega) only [↓AW_skip, ↓AW_ops, ↓AW_seq, ↓AW_cond, ↓AW_block, ↓AOps_nil, ↓AOps_pu, ↓AOps_ld, on_some, condB_t, condB_f, ↓then_normal, ↓inBlock_normal, pval, lval, rd_S, rd_C, put_S, partA, eq_self, mk, List.foldl_cons, List.foldl_nil, List.replicate_succ, List.replicate_zero, List.set_cons_zero, List.set_cons_succ, List.getElem?_cons_zero, List.getElem?_cons_succ, List.drop_zero, List.take_zero, List.take_succ_cons, Option.getD_some, map_c, map_n, List.length_cons, List.length_nil, Nat.reduceAdd, Nat.reduceLeDiff, Nat.zero_add, Nat.add_zero, bin_add, bin_sub, bin_lss, bin_gtr, mm_max, mm_min, w64, if_true, if_false, Bool.false_eq_true, decide_true, decide_false, Go.Eng.e2, true_and, hlt', hf1.len, hf1.idx hlt, hf1.ld0 hz 1 false (by decide), h4]
              refine ⟨(i + 1, u, A1), ⟨hlt, ?_⟩, by simp [Has, rd_s, hlt2], rfl, by simp only; omega⟩
              simp only
              rw [hpt]; exact hu
          · have hlt' : ¬ ((i : Int) < f.length) := by omega
            rw [List.take_of_length_le (by omega)] at hu
            simp (maxSteps := 4000000) -implicitDefEqProofs -dsimp (disch := omega) only [↓AW_ops, ↓AW_seq, ↓AW_cond, ↓AW_exit, ↓AW_ret, ↓AOps_nil, ↓AOps_pu, on_some, condB_f, ↓then_normal, ↓then_exit, ↓inBlock_exit, ↓Fin_ret, pval, rd_S, rd_C, put_S, resV, resL, eq_self, mk, List.foldl_cons, List.foldl_nil, List.replicate_succ, List.replicate_zero, List.set_cons_zero, List.set_cons_succ, List.getElem?_cons_zero, List.getElem?_cons_succ, Option.getD_some, bin_lss, if_true, decide_false, hlt', hf1.len]
            exact (AccL_base hpre hu).gc2 flat_e2 (I 0) rfl
  · have hE : ptE f p q = vE f := by simp [ptE, h0]
    have hL : ptL f p q = [] := by simp [ptL, hE, h0]
    rw [hE, hL]
    simp (maxSteps := 4000000) -implicitDefEqProofs -dsimp (disch := omega) only [↓AW_ops, ↓AW_seq, ↓AW_cond, ↓AW_ret, ↓AOps_nil, ↓AOps_pu, on_some, extK_same, condB_t, ↓then_normal, ↓then_ret, ↓Fin_ret, pval, rd_S, rd_C, put_S, resV, resL, List.replicate_succ, List.replicate_zero, List.set_cons_zero, List.set_cons_succ, List.getElem?_cons_zero, List.getElem?_cons_succ, Option.getD_some, List.length_nil, Nat.reduceSub, List.cons_append, List.nil_append, bin_neq, decide_true, not_false_eq_true, h0]
    exact gc_same_all rfl rfl

theorem s30i (n : Int) (A : AHeap) : ACalls Try.prog 30 [I n] A (.agg [I n, I 1]) A := s30 n A

set_option maxRecDepth 100000 in
set_option maxHeartbeats 4000000 in
theorem s9 {f : List (Int × Int)} {v : AV} {A : AHeap} (hf : L2 A v f) (p q : Int) (hp : W p) (hq : W q) : ACalls Try.prog 9 [v, I p, I q] A (B true) A := by
  refine acalls hmix Try.func9 (by kernel_rfl) t9 3 rfl (by decide) ?_
  dsimp only [m9]
  simp (maxSteps := 4000000) -implicitDefEqProofs -dsimp (disch := omega) only [↓AW_ops, ↓AW_seq, ↓AOps_nil, ↓AOps_pu, ↓AOps_call, on_some, ↓then_normal, pval, rd_S, rd_C, put_S, List.replicate_succ, List.replicate_zero, List.set_cons_zero, List.set_cons_succ, List.getElem?_cons_zero, List.getElem?_cons_succ, Option.getD_some, map_c, map_n, Nat.reduceSub, List.cons_append, List.nil_append]
  refine CallK.of (s18 hf (L2_nil A)) ?_
  by_cases h : (100 : Int) < f.length
  · simp (maxSteps := 4000000) -implicitDefEqProofs -dsimp (disch := omega) only [↓AW_ops, ↓AW_seq, ↓AW_cond, ↓AOps_nil, ↓AOps_call, extK_same, condB_t, ↓then_normal, rd_S, put_S, List.replicate_succ, List.replicate_zero, List.set_cons_zero, List.set_cons_succ, List.getElem?_cons_zero, List.getElem?_cons_succ, Option.getD_some, map_n, List.length_nil, Nat.reduceSub, List.cons_append, List.nil_append, decide_true, h, true_or]
    refine CallK.of (known A) ?_
    simp (maxSteps := 4000000) -implicitDefEqProofs -dsimp (disch := omega) only [↓AW_ret, ↓AOps_nil, ↓AOps_pu, on_some, extK_same, ↓then_normal, ↓then_ret, ↓Fin_ret, pval, rd_S, put_S, resV, resL, List.replicate_succ, List.replicate_zero, List.set_cons_zero, List.set_cons_succ, List.getElem?_cons_zero, List.getElem?_cons_succ, Option.getD_some, List.length_nil, Nat.reduceSub, List.cons_append, List.nil_append]
    exact gc_same rfl
  · simp (maxSteps := 4000000) -implicitDefEqProofs -dsimp (disch := omega) only [↓AW_skip, ↓AW_ops, ↓AW_seq, ↓AW_cond, ↓AOps_nil, ↓AOps_pu, ↓AOps_call, on_some, extK_same, condB_f, ↓then_normal, pval, rd_S, put_S, List.replicate_succ, List.replicate_zero, List.set_cons_zero, List.set_cons_succ, List.getElem?_cons_zero, List.getElem?_cons_succ, Option.getD_some, map_c, map_n, List.length_nil, Nat.reduceSub, List.cons_append, List.nil_append, decide_false, Int.reduceLT, h, false_or, Int.cast_ofNat_Int]
    refine CallK.of (s41 hf p q hp hq) ?_
    have hle : (ptL f p q).length ≤ 100 := by
      unfold ptL
      split
      · have := prt_le p q f 0; omega
      · simp
    have p1 := pre_out A ((ptL f p q).flatMap Go.Eng.e2) (ptL f p q).length
    have hL1 := Ls_out A e2_len (ptL f p q)
    generalize outH A ((ptL f p q).flatMap Go.Eng.e2) (ptL f p q).length = A1 at *
    generalize outV 2 A (ptL f p q).length = y1 at *
    simp (maxSteps := 4000000) -implicitDefEqProofs -dsimp (disch := omega) only [↓AW_ops, ↓AW_seq, ↓AOps_nil, ↓AOps_pu, ↓AOps_call, on_some, extK_false, ↓then_normal, pval, rd_S, put_S, List.replicate_succ, List.replicate_zero, List.set_cons_zero, List.set_cons_succ, List.getElem?_cons_zero, List.getElem?_cons_succ, Option.getD_some, map_c, map_n, List.length_nil, Nat.reduceSub, List.cons_append, List.nil_append]
    refine CallK.of (s42 (hf.mono p1) p q hp hq) ?_
    have p2 := pre_out A1 ((ptL f p q).flatMap Go.Eng.e2) (ptL f p q).length
    have hL2 := Ls_out A1 e2_len (ptL f p q)
    generalize outH A1 ((ptL f p q).flatMap Go.Eng.e2) (ptL f p q).length = A2 at *
    generalize outV 2 A1 (ptL f p q).length = y2 at *
    have hL := hL1.mono p2
    have hfA := hf.mono (p1.trans p2)
    simp (maxSteps := 4000000) -implicitDefEqProofs -dsimp (disch := omega) only [↓AW_ops, ↓AW_seq, ↓AOps_nil, ↓AOps_pu, ↓AOps_call, ↓AOps_guard, on_some, extK_false, guardB_ff, ↓then_normal, pval, rd_S, put_S, eq_self, List.replicate_succ, List.replicate_zero, List.set_cons_zero, List.set_cons_succ, List.getElem?_cons_zero, List.getElem?_cons_succ, Option.getD_some, map_c, map_n, List.length_nil, Nat.reduceSub, List.cons_append, List.nil_append, bin_neq, decide_false, not_true_eq_false]
    refine CallK.of (s43 hL hL2 (by omega)) ?_
    by_cases hE : ptE f p q = 0
    · have hv : vE f = 0 := by
        unfold ptE at hE
        split at hE
        · assumption
        · exact hE
      have hpq : (0 ≤ p ∧ p < q) ∧ q ≤ len f := by
        unfold ptE at hE
        rw [if_pos hv] at hE
        split at hE
        · assumption
        · cases hE
      have hg := (good_of hv).1
      have hl6 := hg.1
      have hpl : ptL f p q = prt p q 0 f := by unfold ptL; rw [if_pos hE]
      rw [hpl] at hL
      have hlen := prt_len (show p ≤ q by omega) f 0 hg.2
      have hlen2 : len (prt p q 0 f) = q - p := by rw [hlen]; omega
      have htot := prt_tot (show p ≤ q by omega) f 0 hg.2
      have hple := prt_le p q f 0
      have hne : 1 ≤ (prt p q 0 f).length := by
        rcases Nat.eq_zero_or_pos (prt p q 0 f).length with h | h
        · have : prt p q 0 f = [] := List.eq_nil_of_length_eq_zero h
          rw [this] at hlen2
          simp [len, sumZ] at hlen2
          omega
        · exact h
      have hva : vE (prt p q 0 f) = 0 := vE_good (by omega) (prt_vz p q f 0 hg.2)
      have gcd1 : ∀ n : Int, Int.gcd n 1 = 1 := fun n => by simp
      have ip : isP f (p, 1) := ⟨⟨by simp only; omega, gcd1 p⟩, by simp only; omega⟩
      have iq : isP f (q, 1) := ⟨⟨by simp only; omega, gcd1 q⟩, by simp only; omega⟩
      have q1 : ∀ n : Int, qr (n, 1) = (n : Rat) := fun n => by
        show (n : Rat) / ((1 : Int) : Rat) = (n : Rat)
        rw [int1]; grind
      have hw0 : wE f (p, 1) (q, 1) = 0 := wE_ok hv ip iq (by rw [q1, q1]; exact Rat.intCast_le_intCast.2 (by omega))
      have hwv : wV f (p, 1) (q, 1) = .agg [I (tot (prt p q 0 f)), I 1] := by
        rw [wV, if_pos hw0, q1, q1, ← htot]; rfl
      have hb1 : (if vE (prt p q 0 f) = 0 then tot (prt p q 0 f) else 0) = tot (prt p q 0 f) := by rw [if_pos hva]
      have hb2 : (if vE (prt p q 0 f) = 0 then len (prt p q 0 f) else 0) = q - p := by rw [if_pos hva, hlen2]
      simp (maxSteps := 4000000) -implicitDefEqProofs -dsimp (disch := omega) only [↓AW_skip, ↓AW_ops, ↓AW_seq, ↓AW_cond, ↓AOps_nil, ↓AOps_pu, ↓AOps_call, ↓AOps_guard, on_some, extK_same, guardB_ff, condB_f, ↓then_normal, pval, rd_S, rd_C, put_S, eq_self, List.replicate_succ, List.replicate_zero, List.set_cons_zero, List.set_cons_succ, List.getElem?_cons_zero, List.getElem?_cons_succ, Option.getD_some, map_c, map_n, List.length_nil, Nat.reduceSub, List.cons_append, List.nil_append, bin_neq, if_false, Bool.false_eq_true, Bool.not_true, decide_true, decide_false, not_true_eq_false, hE]
      refine CallK.of (s33 hL) ?_
      rw [hb1, hva]
      simp (maxSteps := 4000000) -implicitDefEqProofs -dsimp (disch := omega) only [↓AW_ops, ↓AW_seq, ↓AOps_nil, ↓AOps_pu, ↓AOps_call, on_some, extK_same, ↓then_normal, pval, rd_S, put_S, eq_self, List.replicate_succ, List.replicate_zero, List.set_cons_zero, List.set_cons_succ, List.getElem?_cons_zero, List.getElem?_cons_succ, Option.getD_some, map_c, map_n, List.length_nil, Nat.reduceSub, List.cons_append, List.nil_append, decide_true]
      refine CallK.of (s31 hL) ?_
      rw [hb2, hva]
      simp (maxSteps := 4000000) -implicitDefEqProofs -dsimp (disch := omega) only [↓AW_ops, ↓AW_seq, ↓AOps_nil, ↓AOps_pu, ↓AOps_call, on_some, extK_same, ↓then_normal, pval, rd_S, put_S, eq_self, List.replicate_succ, List.replicate_zero, List.set_cons_zero, List.set_cons_succ, List.getElem?_cons_zero, List.getElem?_cons_succ, Option.getD_some, map_c, map_n, List.length_nil, Nat.reduceSub, List.cons_append, List.nil_append, decide_true]
      refine CallK.of (s30i p _) ?_
      simp (maxSteps := 4000000) -implicitDefEqProofs -dsimp (disch := omega) only [↓AOps_pu, ↓AOps_call, on_some, extK_same, pval, rd_S, put_S, eq_self, List.replicate_succ, List.replicate_zero, List.set_cons_zero, List.set_cons_succ, List.getElem?_cons_zero, List.getElem?_cons_succ, Option.getD_some, map_c, map_n, List.length_nil, Nat.reduceSub, List.cons_append, List.nil_append, decide_true]
      refine CallK.of (s30i q _) ?_
      simp (maxSteps := 4000000) -implicitDefEqProofs -dsimp (disch := omega) only [↓AOps_call, extK_same, rd_S, put_S, eq_self, List.replicate_succ, List.replicate_zero, List.set_cons_zero, List.set_cons_succ, List.getElem?_cons_zero, List.getElem?_cons_succ, Option.getD_some, map_c, map_n, List.length_nil, Nat.reduceSub, List.cons_append, List.nil_append, decide_true]
      refine CallK.of (s25 hfA (p, 1) (q, 1) hp hq) ?_
      rw [hw0, hwv]
      simp (maxSteps := 4000000) -implicitDefEqProofs -dsimp (disch := omega) only [↓AW_ops, ↓AW_seq, ↓AOps_nil, ↓AOps_pu, ↓AOps_call, ↓AOps_guard, on_some, extK_same, guardB_tt, ↓then_normal, pval, rd_S, rd_C, put_S, chkd, bput, bgot, AV.cells?, splice, partA, eq_self, List.replicate_succ, List.replicate_zero, List.set_cons_zero, List.set_cons_succ, List.getElem?_cons_zero, List.getElem?_cons_succ, List.drop_zero, List.drop_succ_cons, List.drop_nil, List.take_zero, List.take_succ_cons, List.take_nil, Option.getD_some, map_c, map_n, List.length_cons, List.length_nil, Nat.reduceAdd, Nat.reduceSub, Nat.reduceLeDiff, Nat.reduceEqDiff, Nat.zero_add, List.cons_append, List.nil_append, List.append_nil, bin_sub, bin_eql, w64, if_true, if_false, decide_true, ne_eq, not_true_eq_false]
      refine CallK.of (s30i _ _) ?_
      simp (maxSteps := 4000000) -implicitDefEqProofs -dsimp (disch := omega) only [↓AOps_pu, ↓AOps_call, ↓AOps_guard, on_some, extK_same, guardB_tt, pval, rd_S, rd_C, put_S, eqc, beq_self_eq_true, eq_self, List.replicate_succ, List.replicate_zero, List.set_cons_zero, List.set_cons_succ, List.getElem?_cons_zero, List.getElem?_cons_succ, Option.getD_some, Option.map_some, map_n, List.length_nil, Nat.reduceSub, List.cons_append, List.nil_append, if_true, if_false, Bool.false_eq_true, Bool.true_and, decide_true]
      refine CallK.of (known A2) ?_
      simp (maxSteps := 4000000) -implicitDefEqProofs -dsimp (disch := omega) only [↓AW_ret, ↓AOps_nil, ↓AOps_pu, on_some, extK_same, ↓then_normal, ↓Fin_ret, pval, rd_S, rd_C, put_S, resV, resL, eq_self, List.replicate_succ, List.replicate_zero, List.set_cons_zero, List.set_cons_succ, List.getElem?_cons_zero, List.getElem?_cons_succ, Option.getD_some, List.length_nil, Nat.reduceSub, List.cons_append, List.nil_append, if_true, decide_true]
      exact gc_val (p1.trans p2) rfl
    · simp (maxSteps := 4000000) -implicitDefEqProofs -dsimp (disch := omega) only [↓AW_skip, ↓AW_ops, ↓AW_seq, ↓AW_cond, ↓AOps_nil, ↓AOps_pu, ↓AOps_call, ↓AOps_guard, on_some, extK_same, guardB_ff, condB_t, condB_f, ↓then_normal, pval, rd_S, rd_C, put_S, eq_self, List.replicate_succ, List.replicate_zero, List.set_cons_zero, List.set_cons_succ, List.getElem?_cons_zero, List.getElem?_cons_succ, Option.getD_some, map_n, List.length_nil, Nat.reduceSub, List.cons_append, List.nil_append, bin_neq, if_false, Bool.false_eq_true, Bool.not_true, decide_true, not_false_eq_true, hE]
      refine CallK.of (known A2) ?_
      simp (maxSteps := 4000000) -implicitDefEqProofs -dsimp (disch := omega) only [↓AW_ret, ↓AOps_nil, ↓AOps_pu, on_some, extK_same, ↓then_normal, ↓then_ret, ↓Fin_ret, pval, rd_S, put_S, resV, resL, eq_self, List.replicate_succ, List.replicate_zero, List.set_cons_zero, List.set_cons_succ, List.getElem?_cons_zero, List.getElem?_cons_succ, Option.getD_some, List.length_nil, Nat.reduceSub, List.cons_append, List.nil_append, decide_true]
      exact gc_val (p1.trans p2) rfl

end Go.Proofs.Ytnnbggcckabhdaa
