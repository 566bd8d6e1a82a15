/- Soil: the place of a worth. No conditions. -/
import Derived.Test.YtnnbggcckabhdaaW13
namespace Go.Proofs.Ytnnbggcckabhdaa
open Go Go.Eng

/-- The first place up to which it is worth so much, unit by unit. -/
def rch : Int → Int → List Int → Rat → Option Rat
  | _, _, [], _ => none
  | b, a, u :: us, x => if x ≤ ((a + u : Int) : Rat) then some ((b : Rat) + (x - (a : Rat)) / (u : Rat)) else rch (b + 1) (a + u) us x
/-- The same, zone by zone. -/
def rz : Int → Int → List (Int × Int) → Rat → Option Rat
  | _, _, [], _ => none
  | b, a, z :: f, x => if x ≤ ((a + z.1 * z.2 : Int) : Rat) then some ((b : Rat) + (x - (a : Rat)) / (z.2 : Rat)) else rz (b + z.1) (a + z.1 * z.2) f x

theorem rat_lt_le {a b c : Rat} (h : a < b) (k : b ≤ c) : a < c := by grind
theorem cast_nonneg {n : Int} (h : 0 ≤ n) : (0 : Rat) ≤ (n : Rat) := by rw [← int0]; exact Rat.intCast_le_intCast.2 h
theorem cast_pos {n : Int} (h : 0 < n) : (0 : Rat) < (n : Rat) := by rw [← int0]; exact Rat.intCast_lt_intCast.2 h

theorem rch_rep (v : Int) (hv : 0 ≤ v) (us : List Int) (x : Rat) : ∀ (n : Nat) (b a : Int), (a : Rat) < x →
    rch b a (List.replicate n v ++ us) x = if x ≤ ((a + n * v : Int) : Rat) then some ((b : Rat) + (x - (a : Rat)) / (v : Rat)) else rch (b + n) (a + n * v) us x
  | 0, b, a, h => by
    have : ¬ x ≤ (a : Rat) := Rat.not_le.2 h
    simp [this]
  | n + 1, b, a, h => by
    have e : a + ((n + 1 : Nat) : Int) * v = a + v + n * v := by rw [Int.natCast_add, Int.add_mul]; omega
    have e2 : b + ((n + 1 : Nat) : Int) = b + 1 + n := by omega
    rw [List.replicate_succ, List.cons_append, rch, e, e2]
    have hnv : 0 ≤ (n : Int) * v := Int.mul_nonneg (by omega) hv
    by_cases h1 : x ≤ ((a + v : Int) : Rat)
    · have h2 : x ≤ ((a + v + n * v : Int) : Rat) := Rat.le_trans h1 (Rat.intCast_le_intCast.2 (by omega))
      rw [if_pos h1, if_pos h2]
    · rw [if_neg h1, rch_rep v hv us x n (b + 1) (a + v) (Rat.not_le.1 h1)]
      split
      · rename_i h2
        have hvp : v ≠ 0 := by
          rintro rfl
          simp at h1 h2
          exact absurd h2 h1
        have := cast_ne hvp
        congr 1
        rw [Rat.intCast_add, Rat.intCast_add]
        have := int1
        generalize (v : Rat) = v' at *
        generalize (a : Rat) = a' at *
        generalize (b : Rat) = b' at *
        grind
      · rfl

theorem rch_units (x : Rat) : ∀ (f : List (Int × Int)) (b a : Int), f.all vz = true → (a : Rat) < x → rch b a (units f) x = rz b a f x
  | [], _, _, _, _ => rfl
  | z :: f, b, a, h, hx => by
    simp only [List.all_cons, Bool.and_eq_true] at h
    have hz := (vz_iff z).1 h.1
    have e : ((z.1.toNat : Nat) : Int) = z.1 := Int.toNat_of_nonneg (by omega)
    have : units (z :: f) = List.replicate z.1.toNat z.2 ++ units f := rfl
    rw [this, rch_rep z.2 hz.2.1 _ x _ b a hx, e, rz]
    split
    · rfl
    · rename_i h1
      exact rch_units x f _ _ h.2 (Rat.not_le.1 h1)

/-- What is found. -/
theorem rch_some (x : Rat) : ∀ (us : List Int) (b a : Int) (y : Rat), (∀ u ∈ us, 0 ≤ u ∧ u ≤ 20) → (a : Rat) < x → rch b a us x = some y →
    (∃ v : Int, (1 ≤ v ∧ v ≤ 20) ∧ ∃ b' a' : Int, y = (b' : Rat) + (x - (a' : Rat)) / (v : Rat)) ∧ ((b : Rat) ≤ y ∧ y ≤ ((b + us.length : Int) : Rat)) ∧ upToU b us y = x - (a : Rat)
  | [], _, _, _, _, _, h => by simp [rch] at h
  | u :: us, b, a, y, hu, hx, h => by
    have hu0 := hu u (by simp)
    have e2 : b + ((u :: us).length : Int) = b + 1 + us.length := by simp; omega
    rw [rch] at h
    split at h
    · rename_i h1
      have hy : (b : Rat) + (x - (a : Rat)) / (u : Rat) = y := Option.some.inj h
      have hup : 0 < u := by
        have : (a : Rat) < ((a + u : Int) : Rat) := rat_lt_le hx h1
        have := Rat.intCast_lt_intCast.1 this
        omega
      have hup' := cast_pos hup
      have d0 : 0 ≤ (x - (a : Rat)) / (u : Rat) := by rw [Rat.div_def]; exact Rat.mul_nonneg (by grind) (Rat.le_of_lt (Rat.inv_pos.2 hup'))
      have d2 : (x - (a : Rat)) / (u : Rat) * (u : Rat) = x - (a : Rat) := Rat.div_mul_cancel (cast_ne (by omega))
      have d1 : (x - (a : Rat)) / (u : Rat) ≤ 1 := by
        rcases Rat.le_total (a := (x - (a : Rat)) / (u : Rat)) (b := 1) with h | h
        · exact h
        · have := Rat.mul_le_mul_of_nonneg_right h (Rat.le_of_lt hup')
          rw [d2, Rat.one_mul] at this
          rw [Rat.intCast_add] at h1
          have e : x - (a : Rat) = (u : Rat) := by grind
          have hne := cast_ne (show u ≠ 0 by omega)
          generalize (x - (a : Rat)) / (u : Rat) = t at *
          rw [e] at d2
          have : t = 1 := by grind
          rw [this]
          exact Rat.le_refl
      have hb1 : ((b + 1 : Int) : Rat) = (b : Rat) + 1 := by rw [Rat.intCast_add]; rfl
      have hle : ((b + 1 : Int) : Rat) ≤ ((b + 1 + us.length : Int) : Rat) := Rat.intCast_le_intCast.2 (by omega)
      refine ⟨⟨u, ⟨by omega, hu0.2⟩, b, a, hy.symm⟩, ⟨by grind, by rw [e2]; grind⟩, ?_⟩
      rw [upToU, upToU_zero y us (b + 1) (by grind)]
      have : clamp y (b : Rat) ((b + 1 : Int) : Rat) = y := by unfold clamp; grind
      rw [this, ← hy]
      grind
    · rename_i h1
      obtain ⟨h2, ⟨h3, h4⟩, h5⟩ := rch_some x us (b + 1) (a + u) y (fun w hw => hu w (by simp [hw])) (Rat.not_le.1 h1) h
      have hb : (b : Rat) ≤ ((b + 1 : Int) : Rat) := Rat.intCast_le_intCast.2 (by omega)
      refine ⟨h2, ⟨Rat.le_trans hb h3, by rw [e2]; exact h4⟩, ?_⟩
      rw [upToU, h5]
      have : clamp y (b : Rat) ((b + 1 : Int) : Rat) = ((b + 1 : Int) : Rat) := by unfold clamp; grind
      have hb1 : ((b + 1 : Int) : Rat) = (b : Rat) + 1 := by rw [Rat.intCast_add]; rfl
      rw [this, hb1, Rat.intCast_add]
      grind

/-- The place of a worth from a place on. -/
def plc (f : List (Int × Int)) (p w : Rat) : Option Rat := if w.num = 0 then some p else rch 0 0 (units f) (upTo 0 f p + w)
def oR : Option Rat → AV
  | some x => R x
  | none => zeroR

theorem div_num {D v : Int} {q : Rat} (hD : 0 < D) (hD2 : D ≤ 1048576) (hv : 1 ≤ v ∧ v ≤ 20) (h : Dv D q) (h0 : 0 ≤ q) (h1 : q ≤ ((20 * v : Int) : Rat)) : ((q / (v : Rat)).num.natAbs ≤ 20 * 1048576 * 20) ∧ ((q / (v : Rat)).den ≤ 1048576 * 20) := by
  have hd := h.div v (by omega)
  have hvp := cast_pos (show 0 < v by omega)
  have d0 : 0 ≤ q / (v : Rat) := by rw [Rat.div_def]; exact Rat.mul_nonneg h0 (Rat.le_of_lt (Rat.inv_pos.2 hvp))
  have d2 : q / (v : Rat) * (v : Rat) = q := Rat.div_mul_cancel (cast_ne (by omega))
  have d1 : q / (v : Rat) ≤ ((20 : Int) : Rat) := by
    rcases Rat.le_total (a := q / (v : Rat)) (b := ((20 : Int) : Rat)) with h | h
    · exact h
    · have h3 := Rat.mul_le_mul_of_nonneg_right h (Rat.le_of_lt hvp)
      rw [d2, ← Rat.intCast_mul] at h3
      have e : q = ((20 * v : Int) : Rat) := Rat.le_antisymm h1 h3
      rw [e, Rat.intCast_mul, Rat.mul_div_cancel (cast_ne (by omega))]
      exact Rat.le_refl
  have hDv : D * v ≤ 1048576 * 20 := Int.mul_le_mul hD2 hv.2 (by omega) (by omega)
  have hDv0 : 0 < D * v := Int.mul_pos hD (by omega)
  have := num_le (M := 20) hDv0 hd (int_neg_le_zero (by omega) d0) d1
  omega

theorem take_sum_succ' {us : List Int} {k : Nat} {u : Int} (h : us[k]? = some u) : (us.take (k + 1)).sum = (us.take k).sum + u := by
  rw [List.take_add_one, h]; simp

theorem s67 {f : List (Int × Int)} {u : AV} {A : AHeap} (hu : L1 A u (units f)) (hg : good f) (p w : Rat) (hp : Pl f p) (D : Int) (hD : 0 < D ∧ D ≤ 1048576) (hDp : Dv D (upTo 0 f p)) (hDw : Dv D w) (hw0 : 0 ≤ w) (hw1 : w ≤ ((10000 : Int) : Rat)) :
    ACalls Try.prog 67 [u, R p, R w] A (.tuple [oR (plc f p w), B (plc f p w).isSome]) A := by
  refine acalls hmix Try.func67 (by kernel_rfl) t67 3 rfl (by decide) ?_
  have hl := len_units hg.2
  have hlb := len_bound hg
  have hub := units_le hg.2
  have hn0 := Rat.num_nonneg.2 hw0
  by_cases hz : w.num = 0
  · have hz' : w.num ≤ 0 := by omega
    dsimp only [m67]
    simp (maxSteps := 4000000) -implicitDefEqProofs -dsimp (disch := omega) only [↓AW_ops, ↓AW_seq, ↓AW_cond, ↓AW_ret, ↓AOps_nil, ↓AOps_pu, on_some, condB_t, ↓then_normal, ↓then_ret, ↓Fin_ret, pval, rd_S, rd_C, put_S, resV, resL, chkd, isAdr, bput, bgot, AV.cells?, splice, partA, eq_self, List.replicate_succ, List.replicate_zero, List.set_cons_zero, List.set_cons_succ, List.getElem?_cons_zero, List.getElem?_cons_succ, List.drop_zero, List.drop_succ_cons, List.drop_nil, List.take_zero, List.take_succ_cons, List.take_nil, Option.getD_some, List.length_cons, List.length_nil, Nat.reduceAdd, Nat.reduceSub, Nat.reduceLeDiff, Nat.reduceEqDiff, Nat.zero_add, List.cons_append, List.nil_append, List.append_nil, bin_leq, if_true, if_false, Bool.false_eq_true, decide_true, ne_eq, not_true_eq_false, hz']
    exact gc_same (by simp [plc, hz, oR])
  · have hz' : ¬ w.num ≤ 0 := by omega
    have hwp : 0 < w := num_pos_iff w |>.1 (by omega)
    dsimp only [m67]
    simp (maxSteps := 4000000) -implicitDefEqProofs -dsimp (disch := omega) only [↓AW_skip, ↓AW_ops, ↓AW_seq, ↓AW_cond, ↓AOps_nil, ↓AOps_pu, ↓AOps_call, on_some, condB_f, ↓then_normal, pval, rd_S, rd_C, put_S, chkd, isAdr, bgot, AV.cells?, partA, eq_self, List.replicate_succ, List.replicate_zero, List.set_cons_zero, List.set_cons_succ, List.getElem?_cons_zero, List.getElem?_cons_succ, List.drop_zero, List.take_zero, List.take_succ_cons, List.take_nil, Option.getD_some, map_c, map_n, List.length_cons, List.length_nil, Nat.reduceAdd, Nat.reduceSub, Nat.reduceLeDiff, Nat.reduceEqDiff, Nat.zero_add, List.cons_append, List.nil_append, bin_leq, if_true, if_false, Bool.false_eq_true, decide_false, hz']
    have h104 := s104 hu (by omega) hub p (hp.sm hg) hp.1.1 (by rw [hl]; exact hp.1.2)
    rw [upTo_units p f 0 hg.2] at h104
    refine CallK.of h104 ?_
    have hbp := upTo_bounds hg 0 p
    have hSc : Sm (upTo 0 f p) := Sm_of (M := 2400) hD.1 hD.2 (by omega) hDp (int_neg_le_zero (by omega) hbp.1) hbp.2
    have hSw : Sm w := Sm_of (M := 10000) hD.1 hD.2 (by omega) hDw (int_neg_le_zero (by omega) hw0) hw1
    simp (maxSteps := 4000000) -implicitDefEqProofs -dsimp (disch := omega) only [↓AOps_pu, ↓AOps_call, on_some, extK_same, pval, rd_S, put_S, chkd, bgot, partA, eq_self, List.replicate_succ, List.replicate_zero, List.set_cons_zero, List.set_cons_succ, List.getElem?_cons_zero, List.getElem?_cons_succ, List.drop_zero, List.take_succ_cons, List.take_nil, Option.getD_some, map_c, map_n, List.length_cons, List.length_nil, Nat.reduceAdd, Nat.reduceSub, Nat.reduceLeDiff, Nat.reduceEqDiff, Nat.zero_add, List.cons_append, List.nil_append, if_true, if_false]
    refine CallK.of (s27 _ _ _ hSc hSw) ?_
    simp (maxSteps := 4000000) -implicitDefEqProofs -dsimp (disch := omega) only [↓AW_ops, ↓AW_seq, ↓AW_block, ↓AOps_nil, ↓AOps_pu, on_some, extK_same, ↓then_normal, pval, rd_S, rd_C, put_S, ↓AW_toLoop, chkd, bput, AV.cells?, splice, eq_self, List.replicate_succ, List.replicate_zero, List.set_cons_zero, List.set_cons_succ, List.getElem?_cons_zero, List.getElem?_cons_succ, List.drop_succ_cons, List.drop_nil, List.take_zero, Option.getD_some, List.length_cons, List.length_nil, Nat.reduceAdd, Nat.reduceSub, Nat.reduceLeDiff, Nat.zero_add, List.cons_append, List.nil_append, List.append_nil, if_true, if_false, ne_eq, not_true_eq_false]
    have hpl : plc f p w = rch 0 0 (units f) (upTo 0 f p + w) := by unfold plc; rw [if_neg hz]
    rw [hpl]
    have hDx := hDp.add hDw
    have hx0 : 0 < upTo 0 f p + w := by grind
    have hx1 : upTo 0 f p + w ≤ ((12400 : Int) : Rat) := by
      have : ((12400 : Int) : Rat) = ((2400 : Int) : Rat) + ((10000 : Int) : Rat) := by rw [← Rat.intCast_add]; rfl
      grind
    generalize upTo 0 f p + w = x at *
    have hSx : Sm x := Sm_of (M := 12400) hD.1 hD.2 (by omega) hDx (int_neg_le_zero (by omega) (Rat.le_of_lt hx0)) hx1
    refine LoopK.by 55 (fun i : Nat => i ≤ (units f).length ∧ ((((units f).take i).sum : Int) : Rat) < x ∧ rch 0 0 (units f) x = rch i ((units f).take i).sum ((units f).drop i) x) (fun i => [(0, u), (6, .agg [I 0, I 0]), (8, R x), (9, I ((units f).take i).sum), (10, I i)]) (fun _ => A) (fun i => (units f).length - i) 0 ⟨by omega, by simpa using hx0, by simp⟩ rfl (by simp [Has, rd_s]) rfl ?_
    rintro i ⟨hi, hlx, he⟩
    have hs := take_sumB hub i
    by_cases hlt : i < (units f).length
    · obtain ⟨z, hz⟩ : ∃ z, (units f)[i]? = some z := ⟨_, List.getElem?_eq_getElem hlt⟩
      have hlt' : (i : Int) < (units f).length := by omega
      have hbz := hub z (List.mem_of_getElem? hz)
      have hdr : (units f).drop i = z :: (units f).drop (i + 1) := by
        have := (List.getElem?_eq_some_iff.1 hz).2
        rw [← this]; exact List.drop_eq_getElem_cons hlt
      rw [hdr, rch] at he
      simp (maxSteps := 4000000) -implicitDefEqProofs -dsimp (disch := omega) only [↓AW_skip, ↓AW_ops, ↓AW_seq, ↓AW_cond, ↓AW_block, ↓AOps_nil, ↓AOps_pu, ↓AOps_ld, ↓AOps_call, on_some, condB_t, ↓then_normal, pval, lval, rd_S, put_S, partA, eq_self, mk, List.foldl_cons, List.foldl_nil, List.replicate_succ, List.replicate_zero, List.set_cons_zero, List.set_cons_succ, List.getElem?_cons_zero, List.getElem?_cons_succ, List.drop_zero, List.take_succ_cons, List.take_nil, Option.getD_some, map_c, map_n, List.length_cons, List.length_nil, Nat.reduceLeDiff, Nat.zero_add, bin_add, bin_lss, w64, if_true, if_false, Bool.false_eq_true, decide_true, Go.Eng.e1, hlt', hu.len, hu.idx hlt, hu.ld0 hz 1 false (by decide)]
      refine CallK.of (s30 _ _) ?_
      simp (maxSteps := 4000000) -implicitDefEqProofs -dsimp (disch := omega) only [↓AOps_pu, ↓AOps_call, on_some, extK_same, pval, rd_S, put_S, chkd, bgot, partA, eq_self, mk, List.foldl_cons, List.foldl_nil, List.replicate_succ, List.replicate_zero, List.set_cons_zero, List.set_cons_succ, List.getElem?_cons_zero, List.getElem?_cons_succ, List.drop_zero, List.take_succ_cons, List.take_nil, Option.getD_some, map_c, map_n, List.length_cons, List.length_nil, Nat.reduceAdd, Nat.reduceLeDiff, Nat.reduceEqDiff, Nat.zero_add, if_true, if_false]
      refine CallK.of (s24 _ _ _ (Sm_int (by omega)) hSx) ?_
      by_cases h1 : x ≤ ((((units f).take i).sum + z : Int) : Rat)
      · have h1' : ¬ ((((units f).take i).sum + z : Int) : Rat) < x := Rat.not_lt.2 h1
        rw [if_pos h1] at he
        have hzp : 1 ≤ z := by
          have : ((((units f).take i).sum : Int) : Rat) < ((((units f).take i).sum + z : Int) : Rat) := rat_lt_le hlx h1
          have := Rat.intCast_lt_intCast.1 this
          omega
        simp (maxSteps := 4000000) -implicitDefEqProofs -dsimp (disch := omega) only [↓AW_ops, ↓AW_seq, ↓AW_cond, ↓AOps_nil, ↓AOps_pu, ↓AOps_call, on_some, extK_same, condB_t, ↓then_normal, pval, rd_S, put_S, mk, List.foldl_cons, List.foldl_nil, List.replicate_succ, List.replicate_zero, List.set_cons_zero, List.set_cons_succ, List.getElem?_cons_zero, List.getElem?_cons_succ, Option.getD_some, map_c, map_n, Bool.not_false, decide_false, h1']
        refine CallK.of (s30 _ _) ?_
        simp (maxSteps := 4000000) -implicitDefEqProofs -dsimp (disch := omega) only [↓AOps_pu, ↓AOps_call, on_some, extK_same, pval, rd_S, put_S, chkd, bgot, partA, eq_self, mk, List.foldl_cons, List.foldl_nil, List.replicate_succ, List.replicate_zero, List.set_cons_zero, List.set_cons_succ, List.getElem?_cons_zero, List.getElem?_cons_succ, List.drop_zero, List.take_succ_cons, List.take_nil, Option.getD_some, map_c, map_n, List.length_cons, List.length_nil, Nat.reduceAdd, Nat.reduceLeDiff, Nat.reduceEqDiff, Nat.zero_add, if_true, if_false]
        refine CallK.of (s30 _ _) ?_
        simp (maxSteps := 4000000) -implicitDefEqProofs -dsimp (disch := omega) only [↓AOps_call, extK_same, rd_S, put_S, mk, List.foldl_cons, List.foldl_nil, List.replicate_succ, List.replicate_zero, List.set_cons_zero, List.set_cons_succ, List.getElem?_cons_zero, List.getElem?_cons_succ, Option.getD_some, map_c, map_n]
        refine CallK.of (s53 _ _ _ hSx (Sm_int (by omega))) ?_
        have hDd := hDx.sub (Dv_int D ((units f).take i).sum)
        have hd0 : 0 ≤ x - ((((units f).take i).sum : Int) : Rat) := by grind
        have hd1 : x - ((((units f).take i).sum : Int) : Rat) ≤ (z : Rat) := by rw [Rat.intCast_add] at h1; grind
        have hd2 : x - ((((units f).take i).sum : Int) : Rat) ≤ ((20 * z : Int) : Rat) := Rat.le_trans hd1 (Rat.intCast_le_intCast.2 (by omega))
        have hSd : Sm (x - ((((units f).take i).sum : Int) : Rat)) := Sm_of (M := 20) hD.1 hD.2 (by omega) hDd (int_neg_le_zero (by omega) hd0) (Rat.le_trans hd1 (Rat.intCast_le_intCast.2 (by omega)))
        have hdn := div_num hD.1 hD.2 ⟨hzp, hbz.2⟩ hDd hd0 hd2
        simp (maxSteps := 4000000) -implicitDefEqProofs -dsimp (disch := omega) only [↓AOps_pu, ↓AOps_ld, ↓AOps_call, on_some, extK_same, pval, lval, rd_S, put_S, partA, eq_self, mk, List.foldl_cons, List.foldl_nil, List.replicate_succ, List.replicate_zero, List.set_cons_zero, List.set_cons_succ, List.getElem?_cons_zero, List.getElem?_cons_succ, List.drop_zero, List.take_succ_cons, List.take_nil, Option.getD_some, map_c, map_n, List.length_cons, List.length_nil, Nat.reduceLeDiff, Nat.zero_add, if_true, if_false, Bool.false_eq_true, Go.Eng.e1, hu.idx hlt, hu.ld0 hz 1 false (by decide)]
        refine CallK.of (s105 _ z _ hSd ⟨by omega, by omega⟩) ?_
        simp (maxSteps := 4000000) -implicitDefEqProofs -dsimp (disch := omega) only [↓AOps_call, extK_same, rd_S, put_S, mk, List.foldl_cons, List.foldl_nil, List.replicate_succ, List.replicate_zero, List.set_cons_zero, List.set_cons_succ, List.getElem?_cons_zero, List.getElem?_cons_succ, Option.getD_some, map_c, map_n]
        refine CallK.of (s27g _ _ _ (Fit_of 120 (20 * 1048576 * 20) 1 (1048576 * 20) (show (i : Int).natAbs ≤ 120 by omega) (by show 1 ≤ 1; omega) hdn.1 hdn.2 (by decide) (by decide))) ?_
        simp (maxSteps := 4000000) -implicitDefEqProofs -dsimp (disch := omega) only [↓AW_ret, ↓AOps_nil, ↓AOps_pu, on_some, extK_same, ↓then_normal, ↓then_ret, ↓inBlock_ret, ↓Fin_ret, pval, rd_S, rd_C, put_S, resV, resL, chkd, bput, bgot, AV.cells?, splice, partA, eq_self, mk, List.foldl_cons, List.foldl_nil, List.replicate_succ, List.replicate_zero, List.set_cons_zero, List.set_cons_succ, List.getElem?_cons_zero, List.getElem?_cons_succ, List.drop_zero, List.drop_succ_cons, List.drop_nil, List.take_zero, List.take_succ_cons, List.take_nil, Option.getD_some, List.length_cons, List.length_nil, Nat.reduceAdd, Nat.reduceLeDiff, Nat.reduceEqDiff, Nat.zero_add, List.nil_append, List.append_nil, if_true, if_false, ne_eq, not_true_eq_false]
        exact gc_same (by rw [he]; rfl)
      · have h1' : ((((units f).take i).sum + z : Int) : Rat) < x := Rat.not_le.1 h1
        rw [if_neg h1] at he
        have hts := take_sum_succ' hz
        simp (maxSteps := 4000000) -implicitDefEqProofs -dsimp (disch := omega) only [↓AW_skip, ↓AW_ops, ↓AW_cond, ↓AOps_nil, ↓AOps_pu, ↓AOps_ld, on_some, extK_same, condB_f, ↓then_normal, ↓inBlock_normal, pval, lval, rd_S, rd_C, put_S, partA, eq_self, mk, List.foldl_cons, List.foldl_nil, List.replicate_succ, List.replicate_zero, List.set_cons_zero, List.set_cons_succ, List.getElem?_cons_zero, List.getElem?_cons_succ, List.drop_zero, List.take_succ_cons, List.take_nil, Option.getD_some, List.length_cons, List.length_nil, Nat.reduceAdd, Nat.reduceLeDiff, Nat.zero_add, bin_add, w64, if_true, if_false, Bool.false_eq_true, Bool.not_true, decide_true, Go.Eng.e1, true_and, h1', hu.idx hlt, hu.ld0 hz 1 false (by decide)]
        exact ⟨i + 1, ⟨hlt, by rw [hts]; exact h1', by rw [he, hts]; rfl⟩, by simp [Has, rd_s, hts], by omega⟩
    · have hlt' : ¬ ((i : Int) < (units f).length) := by omega
      rw [List.drop_of_length_le (by omega)] at he
      simp (maxSteps := 4000000) -implicitDefEqProofs -dsimp (disch := omega) only [↓AW_ops, ↓AW_seq, ↓AW_cond, ↓AW_exit, ↓AW_ret, ↓AOps_nil, ↓AOps_pu, on_some, condB_f, ↓then_normal, ↓then_exit, ↓inBlock_exit, ↓Fin_ret, pval, rd_S, rd_C, put_S, resV, resL, chkd, bput, bgot, AV.cells?, splice, partA, fillA, eq_self, mk, List.foldl_cons, List.foldl_nil, List.replicate_succ, List.replicate_zero, List.set_cons_zero, List.set_cons_succ, List.getElem?_cons_zero, List.getElem?_cons_succ, List.drop_zero, List.drop_succ_cons, List.drop_nil, List.take_zero, List.take_succ_cons, List.take_nil, Option.getD_some, Option.map_some, map_n, List.length_cons, List.length_nil, Nat.reduceAdd, Nat.reduceLeDiff, Nat.reduceEqDiff, Nat.zero_add, List.nil_append, List.append_nil, bin_lss, if_true, if_false, decide_false, ne_eq, not_true_eq_false, hlt', hu.len]
      exact gc_same (by rw [he]; rfl)

end Go.Proofs.Ytnnbggcckabhdaa
