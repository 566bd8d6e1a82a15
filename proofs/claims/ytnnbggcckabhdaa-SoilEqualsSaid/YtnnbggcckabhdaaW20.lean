/- Soil: cuts into equal pieces. No conditions. -/
import Derived.Test.YtnnbggcckabhdaaW19
import Derived.Test.YtnnbggcckabhdaaW14
namespace Go.Proofs.Ytnnbggcckabhdaa
open Go Go.Eng

abbrev pR (q : Rat) : Int × Int := (q.num, (q.den : Int))

theorem upTo_0 {f : List (Int × Int)} (hg : good f) : upTo 0 f 0 = 0 := upTo_none 0 f 0 (all_pos hg.2) Rat.le_refl

theorem rch_ok (x : Rat) : ∀ (us : List Int) (b a : Int), (a : Rat) < x → x ≤ ((a + us.sum : Int) : Rat) → ∃ y, rch b a us x = some y
  | [], b, a, h1, h2 => by
    simp at h2
    exact absurd h1 (Rat.not_lt.2 h2)
  | u :: us, b, a, h1, h2 => by
    rw [rch]
    by_cases h : x ≤ ((a + u : Int) : Rat)
    · exact ⟨_, if_pos h⟩
    · rw [if_neg h]
      exact rch_ok x us _ _ (Rat.not_le.1 h) (by rw [show a + u + us.sum = a + (u :: us).sum by simp only [List.sum_cons]; omega]; exact h2)

theorem plc_ok {f : List (Int × Int)} (hg : good f) {p w : Rat} (hw0 : 0 ≤ w) (h : upTo 0 f p + w ≤ ((tot f : Int) : Rat)) : ∃ y, plc f p w = some y := by
  unfold plc
  split
  · exact ⟨_, rfl⟩
  · rename_i h0
    have hwp : 0 < w := by
      have := Rat.num_nonneg.2 hw0
      exact num_pos_iff w |>.1 (by omega)
    have hbp := upTo_bounds hg 0 p
    refine rch_ok _ _ 0 0 (by have : ((0 : Int) : Rat) = 0 := rfl; grind) ?_
    rw [sum_units hg.2, Int.zero_add]
    exact h

theorem plc_den {f : List (Int × Int)} (hg : good f) {p w x : Rat} (D : Int) (hD : 0 < D) (hp : 0 ≤ p ∧ p ≤ ((len f : Int) : Rat)) (hpd : (p.den : Int) ≤ D * 20) (hDx : Dv D (upTo 0 f p + w)) (hw0 : 0 ≤ w) (h : plc f p w = some x) : (x.den : Int) ≤ D * 20 := by
  obtain ⟨g1, g2, g3⟩ := plc_worth hg hp.1 hp.2 hw0 h
  unfold plc at h
  split at h
  · have : p = x := Option.some.inj h
    subst this; exact hpd
  · rename_i h0
    have hwp : 0 < w := by
      have := Rat.num_nonneg.2 hw0
      exact num_pos_iff w |>.1 (by omega)
    have hbp := upTo_bounds hg 0 p
    have hlb := len_bound hg
    obtain ⟨⟨v, hv, b', a', hx⟩, _, _⟩ := rch_some _ (units f) 0 0 x (units_le hg.2) (by have : ((0 : Int) : Rat) = 0 := rfl; grind) h
    have h1 : Dv (D * v) x := by
      rw [hx]
      exact (Dv_int _ _).add ((hDx.sub (Dv_int D a')).div v (by omega))
    have h2 := num_le (M := 120) (Int.mul_pos hD (by omega)) h1 (int_neg_le_zero (by omega) (Rat.le_trans hp.1 g1)) (Rat.le_trans g2 (Rat.intCast_le_intCast.2 hlb.2))
    have h3 : D * v ≤ D * 20 := Int.mul_le_mul_of_nonneg_left hv.2 (by omega)
    omega

theorem s62 {f : List (Int × Int)} {v y : AV} {ws : List Rat} {A : AHeap} (hf : L2 A v f) (hg : good f) (hy : L2 A y (ws.map pR)) (hl : ws.length ≤ 100) (D : Int) (hD : 0 < D ∧ D ≤ 1048576) (ats : Nat → Rat) (h0 : ats 0 = 0)
    (hs : ∀ k w, ws[k]? = some w → Pl f (ats k) ∧ Dv D (upTo 0 f (ats k)) ∧ Dv D w ∧ 0 ≤ w ∧ w ≤ ((10000 : Int) : Rat) ∧ plc f (ats k) w = some (ats (k + 1))) :
    ACalls Try.prog 62 [v, y] A (outV 2 A ws.length) (outH A (((List.range ws.length).map (fun k => pR (ats (k + 1)))).flatMap e2) ws.length) := by
  refine acalls hmix Try.func62 (by kernel_rfl) t62 2 rfl (by decide) ?_
  dsimp only [m62]
  simp (maxSteps := 4000000) -implicitDefEqProofs -dsimp (disch := omega) only [↓AW_ops, ↓AW_seq, ↓AOps_nil, ↓AOps_pu, ↓AOps_call, on_some, ↓then_normal, pval, rd_C, put_S, List.replicate_succ, List.replicate_zero, List.set_cons_zero, List.set_cons_succ, map_c, map_n, Nat.reduceSub, List.cons_append, List.nil_append]
  refine CallK.of (s78 0 _) ?_
  simp (maxSteps := 4000000) -implicitDefEqProofs -dsimp (disch := omega) only [↓AW_ops, ↓AW_seq, ↓AW_block, ↓AOps_nil, ↓AOps_pu, on_some, extK_same, ↓then_normal, pval, rd_S, rd_C, put_S, ↓AW_toLoop, chkd, bput, AV.cells?, splice, eq_self, List.replicate_succ, List.replicate_zero, List.set_cons_zero, List.set_cons_succ, List.getElem?_cons_zero, List.getElem?_cons_succ, List.drop_succ_cons, List.drop_nil, List.take_zero, Option.getD_some, List.length_cons, List.length_nil, Nat.reduceAdd, Nat.reduceSub, Nat.reduceLeDiff, Nat.zero_add, List.cons_append, List.nil_append, List.append_nil, if_true, if_false, ne_eq, not_true_eq_false, hy.len, List.length_map]
  refine LoopK.by 29 (fun x : Nat × AV × AHeap => x.1 ≤ ws.length ∧ AccL 2 e2 A x.2.2 x.2.1 ((List.range x.1).map (fun k => pR (ats (k + 1))))) (fun x => [(0, v), (5, x.2.1), (6, R (ats x.1)), (10, y), (11, I ws.length), (12, I x.1)]) (fun x => x.2.2) (fun x => ws.length - x.1) (0, .nilS, A) ⟨by simp only; omega, AccL.nil (List.prefix_refl _)⟩ rfl (by simp only [h0]; simp [Has, rd_s]) rfl ?_
  rintro ⟨i, u, A1⟩ ⟨hi, hu⟩
  simp only at hi hu
  by_cases hlt : i < ws.length
  · obtain ⟨w, hz⟩ : ∃ z, ws[i]? = some z := ⟨_, List.getElem?_eq_getElem hlt⟩
    have hlt' : (i : Int) < ws.length := by omega
    have hlm : i < (ws.map pR).length := by simpa using hlt
    have hzm : (ws.map pR)[i]? = some (pR w) := by rw [List.getElem?_map, hz]; rfl
    obtain ⟨g1, g2, g3, g4, g5, g6⟩ := hs i w hz
    have hy1 := hy.mono hu.pre
    simp (maxSteps := 4000000) -implicitDefEqProofs -dsimp (disch := omega) only [↓AW_skip, ↓AW_ops, ↓AW_seq, ↓AW_cond, ↓AW_block, ↓AOps_nil, ↓AOps_pu, ↓AOps_ld, ↓AOps_call, on_some, condB_t, ↓then_normal, pval, lval, rd_S, rd_C, put_S, chkd, bput, bgot, AV.cells?, splice, partA, eq_self, mk, List.foldl_cons, List.foldl_nil, List.replicate_succ, List.replicate_zero, List.set_cons_zero, List.set_cons_succ, List.getElem?_cons_zero, List.getElem?_cons_succ, List.drop_zero, List.drop_succ_cons, List.drop_nil, List.take_zero, List.take_succ_cons, List.take_nil, Option.getD_some, map_c, map_n, List.length_cons, List.length_nil, Nat.reduceAdd, Nat.reduceLeDiff, Nat.reduceEqDiff, Nat.zero_add, List.nil_append, List.append_nil, bin_lss, if_true, if_false, decide_true, Go.Eng.e2, ne_eq, not_true_eq_false, hlt', hy1.idx hlm, hy1.ld0 hzm 2 true (by decide)]
    refine CallK.of (s80 (hf.mono hu.pre) hg (ats i) w g1 D hD g2 g3 g4 g5) ?_
    rw [g6]
    obtain ⟨v3, A3, happ, h3⟩ := hu.push e2_len (pR (ats (i + 1))) (by simp [lim]; omega)
    simp only [Go.Eng.e2] at happ
    simp (maxSteps := 4000000) -implicitDefEqProofs -dsimp (disch := omega) only [↓AW_ops, ↓AOps_nil, ↓AOps_pu, ↓AOps_ha, on_some, extK_false, extK_app, extK_same, ↓then_normal, ↓inBlock_normal, pval, hval, rd_S, rd_C, put_S, chkd, bput, bgot, AV.cells?, splice, partA, fillA, repl, eq_self, mk, List.foldl_cons, List.foldl_nil, List.replicate_succ, List.replicate_zero, List.set_cons_zero, List.set_cons_succ, List.getElem?_cons_zero, List.getElem?_cons_succ, List.drop_zero, List.drop_succ_cons, List.drop_nil, List.take_zero, List.take_succ_cons, List.take_nil, Option.getD_some, map_c, map_n, List.length_cons, List.length_nil, Nat.reduceAdd, Nat.reduceLeDiff, Nat.reduceEqDiff, Nat.zero_add, List.nil_append, List.append_nil, bin_add, w64, if_true, if_false, true_and, and_true, ne_eq, not_true_eq_false, oR, Option.isSome_some, happ]
    refine ⟨(i + 1, v3, A3), ⟨hlt, ?_⟩, by simp [Has, rd_s], rfl, by simp only; omega⟩
    simp only
    rw [List.range_succ, List.map_append]
    exact h3
  · have hlt' : ¬ ((i : Int) < ws.length) := by omega
    have hii : i = ws.length := by omega
    subst hii
    simp (maxSteps := 4000000) -implicitDefEqProofs -dsimp (disch := omega) only [↓AW_ops, ↓AW_seq, ↓AW_cond, ↓AW_exit, ↓AW_ret, ↓AOps_nil, ↓AOps_pu, on_some, condB_f, ↓then_normal, ↓then_exit, ↓inBlock_exit, ↓Fin_ret, pval, rd_S, put_S, resV, resL, eq_self, mk, List.foldl_cons, List.foldl_nil, List.replicate_succ, List.replicate_zero, List.set_cons_zero, List.set_cons_succ, List.getElem?_cons_zero, List.getElem?_cons_succ, Option.getD_some, bin_lss, if_true, decide_false, hlt']
    have := hu.gc flat_e2
    simpa using this

theorem AccL_out {α : Type} {es : Nat} {e : α → List AV} {A H : AHeap} (hp : A <+: H) (he : ∀ x, (e x).length = es) (xs : List α) : AccL es e A (outH H (xs.flatMap e) xs.length) (outV es H xs.length) xs := by
  refine ⟨hp.trans (pre_out _ _ _), flatMap_length he xs, ?_⟩
  unfold outV outH
  by_cases h : xs.length = 0
  · rw [if_pos h, if_pos h]; exact .inl ⟨h, rfl⟩
  · rw [if_neg h, if_neg h]
    exact .inr ⟨by omega, H.length, rfl, hp.length_le, by simp⟩

/-! Into equal pieces. -/
def eqW (f : List (Int × Int)) (n : Nat) (k : Nat) : Rat := (((k : Int) * tot f : Int) : Rat) / ((n : Int) : Rat)
def eqA (f : List (Int × Int)) (n : Nat) (k : Nat) : Rat := (plc f 0 (eqW f n k)).getD 0

theorem eqW_le {f : List (Int × Int)} (hg : good f) {n k : Nat} (hn : 0 < n) (hk : k ≤ n) : 0 ≤ eqW f n k ∧ eqW f n k ≤ ((tot f : Int) : Rat) := by
  have ht := tot_bound hg
  have hn' := cast_pos (show (0 : Int) < n by omega)
  have h1 : eqW f n k * ((n : Int) : Rat) = (((k : Int) * tot f : Int) : Rat) := Rat.div_mul_cancel (cast_ne (by omega))
  have h2 : 0 ≤ (k : Int) * tot f := Int.mul_nonneg (by omega) ht.1
  have h3 : (k : Int) * tot f ≤ n * tot f := Int.mul_le_mul_of_nonneg_right (by omega) ht.1
  refine ⟨?_, ?_⟩
  · unfold eqW; rw [Rat.div_def]; exact Rat.mul_nonneg (cast_nonneg h2) (Rat.le_of_lt (Rat.inv_pos.2 hn'))
  · have := qr_le (s := ((k : Int) * tot f, (n : Int))) (n := tot f) (by simp only; omega)
    exact this.2 (by simp only; rw [Int.mul_comm (tot f)]; exact h3)

theorem eqA_facts {f : List (Int × Int)} (hg : good f) {n k : Nat} (hn : 0 < n ∧ n ≤ 8) (hk : k ≤ n) :
    plc f 0 (eqW f n k) = some (eqA f n k) ∧ (0 ≤ eqA f n k ∧ eqA f n k ≤ ((len f : Int) : Rat)) ∧ upTo 0 f (eqA f n k) = eqW f n k ∧ (eqA f n k).den ≤ 160 := by
  have hw := eqW_le hg hn.1 hk
  have hlb := len_bound hg
  have h0 := upTo_0 hg
  obtain ⟨y, hy⟩ := plc_ok (p := 0) hg hw.1 (by rw [h0, Rat.zero_add]; exact hw.2)
  have e : eqA f n k = y := by unfold eqA; rw [hy]; rfl
  rw [e]
  have hl := cast_nonneg hlb.1
  obtain ⟨g1, g2, g3⟩ := plc_worth hg Rat.le_refl hl hw.1 hy
  have hd := plc_den hg (n : Int) (by omega) ⟨Rat.le_refl, hl⟩ (by show (1 : Int) ≤ _; omega) (by rw [h0, Rat.zero_add]; exact ⟨(k : Int) * tot f, Rat.div_mul_cancel (cast_ne (by omega))⟩) hw.1 hy
  exact ⟨hy, ⟨g1, g2⟩, by rw [g3, h0, Rat.zero_add], by omega⟩

theorem eqA_step {f : List (Int × Int)} (hg : good f) {n k : Nat} (hn : 0 < n ∧ n ≤ 8) (hk : k + 1 ≤ n) : plc f (eqA f n k) (eqW f n 1) = some (eqA f n (k + 1)) := by
  obtain ⟨a1, a2, a3, _⟩ := eqA_facts hg hn (show k ≤ n by omega)
  obtain ⟨b1, _, _, _⟩ := eqA_facts hg hn hk
  have h0 := upTo_0 hg
  have hn' := cast_ne (show (n : Int) ≠ 0 by omega)
  have hw : eqW f n k + eqW f n 1 = eqW f n (k + 1) := by
    unfold eqW
    have : (((k + 1 : Nat) : Int) * tot f : Int) = (k : Int) * tot f + ((1 : Nat) : Int) * tot f := by rw [Int.natCast_add, Int.add_mul]
    rw [this, Rat.intCast_add]
    generalize (((k : Int) * tot f : Int) : Rat) = p at *
    generalize ((((1 : Nat) : Int) * tot f : Int) : Rat) = q at *
    generalize ((n : Int) : Rat) = d at *
    grind
  by_cases ht : tot f = 0
  · have z : ∀ j, eqW f n j = 0 := fun j => by unfold eqW; rw [ht, Int.mul_zero, int0, Rat.div_def, Rat.zero_mul]
    rw [z] at a1 b1 ⊢
    rw [a1] at b1
    rw [← Option.some.inj b1]
    unfold plc
    rfl
  · have hpos : ∀ j, 0 < j → (eqW f n j).num ≠ 0 := fun j hj e => by
      have := zero_lt_agg e
      unfold eqW at this
      have h1 : (((j : Int) * tot f : Int) : Rat) / ((n : Int) : Rat) * ((n : Int) : Rat) = (((j : Int) * tot f : Int) : Rat) := Rat.div_mul_cancel hn'
      rw [this, Rat.zero_mul, ← int0] at h1
      have h2 := Rat.intCast_inj.1 h1
      have h3 := Int.mul_eq_zero.1 h2.symm
      rcases h3 with h3 | h3
      · omega
      · exact ht h3
    have e1' : plc f (eqA f n k) (eqW f n 1) = rch 0 0 (units f) (upTo 0 f (eqA f n k) + eqW f n 1) := by unfold plc; rw [if_neg (hpos 1 (by omega))]
    have e2' : plc f 0 (eqW f n (k + 1)) = rch 0 0 (units f) (upTo 0 f 0 + eqW f n (k + 1)) := by unfold plc; rw [if_neg (hpos (k + 1) (by omega))]
    rw [e1', a3, hw, ← b1, e2', h0, Rat.zero_add]

def eqE (f : List (Int × Int)) (n : Int) : Int := if vE f = 0 then (if 1 ≤ n ∧ n ≤ 8 then 0 else 3) else vE f
def eqL (f : List (Int × Int)) (n : Int) : List (Int × Int) := if eqE f n = 0 then (List.range (n.toNat - 1)).map (fun k => pR (eqA f n.toNat (k + 1))) else []

theorem s20 {f : List (Int × Int)} {v : AV} {A : AHeap} (hf : L2 A v f) (n : Int) (hn : W n) : ACalls Try.prog 20 [v, I n] A (.tuple [outV 2 A (eqL f n).length, I (eqE f n)]) (outH A ((eqL f n).flatMap e2) (eqL f n).length) := by
  refine acalls hmix Try.func20 (by kernel_rfl) t20 2 rfl (by decide) ?_
  dsimp only [m20]
  simp (maxSteps := 4000000) -implicitDefEqProofs -dsimp (disch := omega) only [↓AW_ops, ↓AW_seq, ↓AOps_nil, ↓AOps_pu, ↓AOps_call, on_some, ↓then_normal, pval, rd_S, rd_C, put_S, List.replicate_succ, List.replicate_zero, List.set_cons_zero, List.set_cons_succ, List.getElem?_cons_zero, List.getElem?_cons_succ, Option.getD_some, map_c, map_n, Nat.reduceSub, List.cons_append, List.nil_append]
  refine CallK.of (s37 hf) ?_
  by_cases h0 : vE f = 0
  · have hg := (good_of h0).1
    have ht := tot_bound hg
    simp (maxSteps := 4000000) -implicitDefEqProofs -dsimp (disch := omega) only [↓AW_skip, ↓AW_ops, ↓AW_seq, ↓AW_cond, ↓AOps_nil, ↓AOps_pu, ↓AOps_call, on_some, extK_same, condB_f, ↓then_normal, pval, rd_S, rd_C, put_S, eq_self, List.replicate_succ, List.replicate_zero, List.set_cons_zero, List.set_cons_succ, List.getElem?_cons_zero, List.getElem?_cons_succ, Option.getD_some, map_c, map_n, Nat.reduceSub, List.cons_append, List.nil_append, bin_neq, decide_false, not_true_eq_false, h0]
    refine CallK.of (s61 _ _ _ _) ?_
    by_cases h1 : 1 ≤ n ∧ n ≤ 8
    · have hE : eqE f n = 0 := by simp [eqE, h0, h1]
      obtain ⟨m, rfl⟩ : ∃ m : Nat, n = ((m + 1 : Nat) : Int) := ⟨(n - 1).toNat, by omega⟩
      have hm : 0 < m + 1 ∧ m + 1 ≤ 8 := by omega
      have hL : eqL f ((m + 1 : Nat) : Int) = (List.range m).map (fun k => pR (eqA f (m + 1) (k + 1))) := by rw [eqL, if_pos hE]; rfl
      rw [hL, hE]
      simp (maxSteps := 4000000) -implicitDefEqProofs -dsimp (disch := omega) only [↓AW_skip, ↓AW_ops, ↓AW_seq, ↓AW_cond, ↓AOps_nil, ↓AOps_pu, ↓AOps_call, on_some, extK_same, condB_f, ↓then_normal, pval, rd_S, put_S, List.replicate_succ, List.replicate_zero, List.set_cons_zero, List.set_cons_succ, List.getElem?_cons_zero, List.getElem?_cons_succ, Option.getD_some, map_c, map_n, Nat.reduceSub, List.cons_append, List.nil_append, Bool.not_true, decide_true, and_true, h1]
      refine CallK.of (s65 hf hg) ?_
      simp (maxSteps := 4000000) -implicitDefEqProofs -dsimp (disch := omega) only [↓AOps_pu, ↓AOps_call, on_some, extK_same, pval, rd_S, put_S, List.replicate_succ, List.replicate_zero, List.set_cons_zero, List.set_cons_succ, List.getElem?_cons_zero, List.getElem?_cons_succ, Option.getD_some, map_c, map_n, Nat.reduceSub, List.cons_append, List.nil_append]
      refine CallK.of (s64R _ ⟨by omega, by omega⟩ (by omega) (by omega)) ?_
      have hw1 : ((tot f : Int) : Rat) / (((m + 1 : Nat) : Int) : Rat) = eqW f (m + 1) 1 := by unfold eqW; simp
      rw [hw1]
      have hone := L2_one A (pR (eqW f (m + 1) 1))
      simp (maxSteps := 4000000) -implicitDefEqProofs -dsimp (disch := omega) only [↓AOps_pu, ↓AOps_ha, ↓AOps_call, on_some, extK_app, extK_same, pval, hval, rd_S, rd_C, put_S, AV.cells?, splice, fillA, repl, eq_self, List.replicate_succ, List.replicate_zero, List.set_cons_zero, List.set_cons_succ, List.getElem?_cons_zero, List.getElem?_cons_succ, List.drop_succ_cons, List.drop_nil, List.take_zero, Option.getD_some, map_c, map_n, List.length_cons, List.length_nil, Nat.reduceAdd, Nat.reduceSub, Nat.reduceLeDiff, Nat.zero_add, List.cons_append, List.nil_append, List.append_nil, bin_sub, w64, if_true, and_true]
      have h63 := s63 hone m (by omega)
      have hm1 : ((m + 1 : Nat) : Int) - 1 = m := by omega
      rw [← hm1] at h63
      refine CallK.of h63 ?_
      have hrep : (List.replicate m (pR (eqW f (m + 1) 1))) = (List.replicate m (eqW f (m + 1) 1)).map pR := by simp
      generalize hA1 : A ++ [.cells true [I (pR (eqW f (m + 1) 1)).1, I (pR (eqW f (m + 1) 1)).2]] = A1 at *
      have hpA : A <+: A1 := by rw [← hA1]; exact pre_app _ _
      have hy : L2 (A1 ++ [.cells true ((List.replicate m (pR (eqW f (m + 1) 1))).flatMap Go.Eng.e2)]) (.sl 2 A1.length 0 m false) ((List.replicate m (eqW f (m + 1) 1)).map pR) := by
        rw [← hrep]
        have := (OL.new_mk e2_len A1 (List.replicate m (pR (eqW f (m + 1) 1))) false).ls
        rwa [List.length_replicate] at this
      have hpA2 := hpA.trans (pre_app A1 [.cells true ((List.replicate m (pR (eqW f (m + 1) 1))).flatMap Go.Eng.e2)])
      simp (maxSteps := 4000000) -implicitDefEqProofs -dsimp (disch := omega) only [↓AOps_call, extK_app, rd_S, put_S, List.replicate_succ, List.replicate_zero, List.set_cons_zero, List.set_cons_succ, List.getElem?_cons_zero, List.getElem?_cons_succ, Option.getD_some, map_c, map_n, Nat.reduceSub, List.cons_append, List.nil_append]
      have hw := eqW_le hg hm.1 (show 1 ≤ m + 1 by omega)
      have h62 := s62 (hf.mono hpA2) hg hy (by simp; omega) ((m + 1 : Nat) : Int) (by omega) (eqA f (m + 1)) (by
        have := (eqA_facts hg hm (show 0 ≤ m + 1 by omega)).1
        have z : eqW f (m + 1) 0 = 0 := by unfold eqW; rw [show (((0 : Nat) : Int) * tot f : Int) = 0 from Int.zero_mul _, int0, Rat.div_def, Rat.zero_mul]
        rw [z] at this
        unfold plc at this
        exact (Option.some.inj this).symm) (fun k w hk => by
        have hkl : k < m := by
          have := (List.getElem?_eq_some_iff.1 hk).1
          simpa using this
        have hwe : w = eqW f (m + 1) 1 := by
          have := (List.mem_replicate.1 (List.mem_of_getElem? hk)).2
          exact this
        subst hwe
        obtain ⟨a1, a2, a3, a4⟩ := eqA_facts hg hm (show k ≤ m + 1 by omega)
        have hDv : ∀ j, Dv ((m + 1 : Nat) : Int) (eqW f (m + 1) j) := fun j => ⟨(j : Int) * tot f, Rat.div_mul_cancel (cast_ne (by omega))⟩
        exact ⟨Pl.of a2.1 a2.2 (by omega), by rw [a3]; exact hDv k, hDv 1, hw.1, Rat.le_trans hw.2 (Rat.intCast_le_intCast.2 (by omega)), eqA_step hg hm (by omega)⟩)
      rw [List.length_replicate] at h62
      refine CallK.of h62 ?_
      simp (maxSteps := 4000000) -implicitDefEqProofs -dsimp (disch := omega) only [↓AW_ret, ↓AOps_nil, ↓AOps_pu, on_some, extK_false, ↓then_normal, ↓Fin_ret, pval, rd_S, rd_C, put_S, resV, resL, List.replicate_succ, List.replicate_zero, List.set_cons_zero, List.set_cons_succ, List.getElem?_cons_zero, List.getElem?_cons_succ, Option.getD_some, Nat.reduceSub, List.cons_append, List.nil_append]
      have hacc : AccL 2 Go.Eng.e2 A (outH (A1 ++ [.cells true ((List.replicate m (pR (eqW f (m + 1) 1))).flatMap Go.Eng.e2)]) (((List.range m).map (fun k => pR (eqA f (m + 1) (k + 1)))).flatMap Go.Eng.e2) m) (outV 2 (A1 ++ [.cells true ((List.replicate m (pR (eqW f (m + 1) 1))).flatMap Go.Eng.e2)]) m) ((List.range m).map (fun k => pR (eqA f (m + 1) (k + 1)))) := by
        have := AccL_out hpA2 e2_len ((List.range m).map (fun k => pR (eqA f (m + 1) (k + 1))))
        simpa using this
      exact hacc.gc2 flat_e2 (I 0) rfl
    · have hE : eqE f n = 3 := by simp [eqE, h0, h1]
      have hL : eqL f n = [] := by simp [eqL, hE]
      rw [hL, hE]
      simp (maxSteps := 4000000) -implicitDefEqProofs -dsimp (disch := omega) only [↓AW_ops, ↓AW_seq, ↓AW_cond, ↓AW_ret, ↓AOps_nil, ↓AOps_pu, on_some, extK_same, condB_t, ↓then_normal, ↓then_ret, ↓Fin_ret, pval, rd_S, rd_C, put_S, resV, resL, List.replicate_succ, List.replicate_zero, List.set_cons_zero, List.set_cons_succ, List.getElem?_cons_zero, List.getElem?_cons_succ, Option.getD_some, List.length_nil, Nat.reduceSub, List.cons_append, List.nil_append, Bool.not_false, decide_false, h1]
      exact gc_same_all rfl rfl
  · have hE : eqE f n = vE f := by simp [eqE, h0]
    have hL : eqL f n = [] := by simp [eqL, hE, h0]
    rw [hL, hE]
    simp (maxSteps := 4000000) -implicitDefEqProofs -dsimp (disch := omega) only [↓AW_ops, ↓AW_seq, ↓AW_cond, ↓AW_ret, ↓AOps_nil, ↓AOps_pu, on_some, extK_same, condB_t, ↓then_normal, ↓then_ret, ↓Fin_ret, pval, rd_S, rd_C, put_S, resV, resL, List.replicate_succ, List.replicate_zero, List.set_cons_zero, List.set_cons_succ, List.getElem?_cons_zero, List.getElem?_cons_succ, Option.getD_some, List.length_nil, Nat.reduceSub, List.cons_append, List.nil_append, bin_neq, decide_true, not_false_eq_true, h0]
    exact gc_same_all rfl rfl

theorem s21 {f : List (Int × Int)} {v : AV} {A : AHeap} (hf : L2 A v f) (n : Int) (hn : W n) : ACalls Try.prog 21 [v, I n] A (.tuple [outV 2 A (eqL f n).length, I (eqE f n)]) (outH A ((eqL f n).flatMap e2) (eqL f n).length) := by
  refine acalls hmix Try.func21 (by kernel_rfl) t21 2 rfl (by decide) ?_
  dsimp only [m21]
  simp (maxSteps := 4000000) -implicitDefEqProofs -dsimp (disch := omega) only [↓AW_ops, ↓AW_seq, ↓AOps_nil, ↓AOps_pu, ↓AOps_call, on_some, ↓then_normal, pval, rd_S, rd_C, put_S, List.replicate_succ, List.replicate_zero, List.set_cons_zero, List.set_cons_succ, List.getElem?_cons_zero, List.getElem?_cons_succ, Option.getD_some, map_c, map_n, Nat.reduceSub, List.cons_append, List.nil_append]
  refine CallK.of (s38 hf) ?_
  by_cases h0 : vE f = 0
  · have hg := (good_of h0).1
    have ht := tot_bound hg
    have hlb := len_bound hg
    simp (maxSteps := 4000000) -implicitDefEqProofs -dsimp (disch := omega) only [↓AW_skip, ↓AW_ops, ↓AW_seq, ↓AW_cond, ↓AOps_nil, ↓AOps_pu, ↓AOps_call, on_some, extK_same, condB_f, ↓then_normal, pval, rd_S, rd_C, put_S, eq_self, List.replicate_succ, List.replicate_zero, List.set_cons_zero, List.set_cons_succ, List.getElem?_cons_zero, List.getElem?_cons_succ, Option.getD_some, map_c, map_n, Nat.reduceSub, List.cons_append, List.nil_append, bin_neq, decide_false, not_true_eq_false, h0]
    refine CallK.of (s66 _ _ _ _) ?_
    by_cases h1 : 1 ≤ n ∧ n ≤ 8
    · have hE : eqE f n = 0 := by simp [eqE, h0, h1]
      obtain ⟨m, rfl⟩ : ∃ m : Nat, n = ((m + 1 : Nat) : Int) := ⟨(n - 1).toNat, by omega⟩
      have hm : 0 < m + 1 ∧ m + 1 ≤ 8 := by omega
      have hL : eqL f ((m + 1 : Nat) : Int) = (List.range m).map (fun k => pR (eqA f (m + 1) (k + 1))) := by rw [eqL, if_pos hE]; rfl
      rw [hL, hE]
      simp (maxSteps := 4000000) -implicitDefEqProofs -dsimp (disch := omega) only [↓AW_skip, ↓AW_ops, ↓AW_seq, ↓AW_cond, ↓AW_block, ↓AOps_nil, ↓AOps_pu, on_some, extK_same, condB_f, ↓then_normal, pval, rd_S, rd_C, put_S, ↓AW_toLoop, List.replicate_succ, List.replicate_zero, List.set_cons_zero, List.set_cons_succ, List.getElem?_cons_zero, List.getElem?_cons_succ, Option.getD_some, Nat.reduceSub, List.cons_append, List.nil_append, Bool.not_true, decide_true, and_true, h1]
      refine LoopK.by 42 (fun x : Nat × AV × AHeap => x.1 ≤ m ∧ AccL 2 e2 A x.2.2 x.2.1 ((List.range x.1).map (fun k => pR (eqA f (m + 1) (k + 1))))) (fun x => [(0, v), (1, I ((m + 1 : Nat) : Int)), (7, x.2.1), (8, I ((x.1 : Int) + 1))]) (fun x => x.2.2) (fun x => m - x.1) (0, .nilS, A) ⟨by simp only; omega, AccL.nil (List.prefix_refl _)⟩ rfl (by simp [Has, rd_s]) rfl ?_
      rintro ⟨i, u, A1⟩ ⟨hi, hu⟩
      simp only at hi hu
      by_cases hlt : i < m
      · have hlt' : (i : Int) + 1 < ((m + 1 : Nat) : Int) := by omega
        have hf1 := hf.mono hu.pre
        have hp2 := pre_out A1 ((units f).flatMap Go.Eng.e1) (units f).length
        have hu2 := Ls_out A1 e1_len (units f)
        simp (maxSteps := 4000000) -implicitDefEqProofs -dsimp (disch := omega) only [↓AW_skip, ↓AW_ops, ↓AW_seq, ↓AW_cond, ↓AW_block, ↓AOps_nil, ↓AOps_pu, ↓AOps_call, on_some, condB_t, ↓then_normal, pval, rd_S, put_S, mk, List.foldl_cons, List.foldl_nil, List.replicate_succ, List.replicate_zero, List.set_cons_zero, List.set_cons_succ, List.getElem?_cons_zero, List.getElem?_cons_succ, Option.getD_some, map_c, map_n, bin_lss, decide_true, hlt']
        refine CallK.of (s68 hf1 hg) ?_
        simp (maxSteps := 4000000) -implicitDefEqProofs -dsimp (disch := omega) only [↓AOps_call, extK_false, rd_C, put_S, mk, List.foldl_cons, List.foldl_nil, List.replicate_succ, List.replicate_zero, List.set_cons_zero, List.set_cons_succ, map_c, map_n]
        refine CallK.of (s30 _ _) ?_
        simp (maxSteps := 4000000) -implicitDefEqProofs -dsimp (disch := omega) only [↓AOps_pu, ↓AOps_call, on_some, extK_same, pval, rd_S, put_S, mk, List.foldl_cons, List.foldl_nil, List.replicate_succ, List.replicate_zero, List.set_cons_zero, List.set_cons_succ, List.getElem?_cons_zero, List.getElem?_cons_succ, Option.getD_some, map_c, map_n]
        refine CallK.of (s70 (hf1.mono hp2) hg) ?_
        simp (maxSteps := 4000000) -implicitDefEqProofs -dsimp (disch := omega) only [↓AOps_pu, ↓AOps_call, on_some, extK_same, pval, rd_S, put_S, mk, List.foldl_cons, List.foldl_nil, List.replicate_succ, List.replicate_zero, List.set_cons_zero, List.set_cons_succ, List.getElem?_cons_zero, List.getElem?_cons_succ, Option.getD_some, map_c, map_n, bin_mul]
        have hmb : 0 ≤ ((i : Int) + 1) * tot f ∧ ((i : Int) + 1) * tot f ≤ 8 * 2400 := ⟨Int.mul_nonneg (by omega) ht.1, Int.mul_le_mul (by omega) ht.2 (by omega) (by omega)⟩
        simp (maxSteps := 4000000) -implicitDefEqProofs -dsimp (disch := omega) only [w64]
        refine CallK.of (s69R _ ⟨by omega, by omega⟩ (by omega) (by omega) (by omega)) ?_
        have hwe : ((((i : Int) + 1) * tot f : Int) : Rat) / (((m + 1 : Nat) : Int) : Rat) = eqW f (m + 1) (i + 1) := by unfold eqW; rw [Int.natCast_add]; rfl
        rw [hwe]
        obtain ⟨a1, a2, a3, a4⟩ := eqA_facts hg hm (show i + 1 ≤ m + 1 by omega)
        have hw := eqW_le hg hm.1 (show i + 1 ≤ m + 1 by omega)
        simp (maxSteps := 4000000) -implicitDefEqProofs -dsimp (disch := omega) only [↓AOps_call, extK_same, rd_S, put_S, mk, List.foldl_cons, List.foldl_nil, List.replicate_succ, List.replicate_zero, List.set_cons_zero, List.set_cons_succ, List.getElem?_cons_zero, List.getElem?_cons_succ, Option.getD_some, map_c, map_n, w64]
        refine CallK.of (s67 hu2 hg ((0 : Int) : Rat) (eqW f (m + 1) (i + 1)) (Pl_int (by omega) hlb.1) ((m + 1 : Nat) : Int) (by omega) (by rw [int0, upTo_0 hg]; exact Dv_int _ 0) ⟨((i + 1 : Nat) : Int) * tot f, Rat.div_mul_cancel (cast_ne (by omega))⟩ hw.1 (Rat.le_trans hw.2 (Rat.intCast_le_intCast.2 (by omega)))) ?_
        rw [int0, a1]
        obtain ⟨v3, A3, happ, h3⟩ := (hu.mono hp2).push e2_len (pR (eqA f (m + 1) (i + 1))) (by simp [lim]; omega)
        simp only [Go.Eng.e2] at happ
        simp (maxSteps := 4000000) -implicitDefEqProofs -dsimp (disch := omega) only [↓AW_ops, ↓AOps_nil, ↓AOps_pu, ↓AOps_ha, on_some, extK_false, extK_app, extK_same, ↓then_normal, ↓inBlock_normal, pval, hval, rd_S, rd_C, put_S, chkd, bput, bgot, AV.cells?, splice, partA, fillA, repl, eq_self, mk, List.foldl_cons, List.foldl_nil, List.replicate_succ, List.replicate_zero, List.set_cons_zero, List.set_cons_succ, List.getElem?_cons_zero, List.getElem?_cons_succ, List.drop_zero, List.drop_succ_cons, List.drop_nil, List.take_zero, List.take_succ_cons, List.take_nil, Option.getD_some, map_c, map_n, List.length_cons, List.length_nil, Nat.reduceAdd, Nat.reduceLeDiff, Nat.reduceEqDiff, Nat.zero_add, List.nil_append, List.append_nil, bin_add, w64, if_true, if_false, true_and, and_true, ne_eq, not_true_eq_false, oR, Option.isSome_some, happ]
        refine ⟨(i + 1, v3, A3), ⟨by simp only; omega, ?_⟩, by simp [Has, rd_s], rfl, by simp only; omega⟩
        simp only
        rw [List.range_succ, List.map_append]
        exact h3
      · have hii : i = m := by omega
        subst hii
        have hlt' : ¬ ((i : Int) + 1 < ((i + 1 : Nat) : Int)) := by omega
        simp (maxSteps := 4000000) -implicitDefEqProofs -dsimp (disch := omega) only [↓AW_ops, ↓AW_seq, ↓AW_cond, ↓AW_exit, ↓AW_ret, ↓AOps_nil, ↓AOps_pu, on_some, condB_f, ↓then_normal, ↓then_exit, ↓inBlock_exit, ↓Fin_ret, pval, rd_S, rd_C, put_S, resV, resL, eq_self, mk, List.foldl_cons, List.foldl_nil, List.replicate_succ, List.replicate_zero, List.set_cons_zero, List.set_cons_succ, List.getElem?_cons_zero, List.getElem?_cons_succ, Option.getD_some, bin_lss, if_true, decide_false, hlt']
        exact hu.gc2 flat_e2 (I 0) rfl
    · have hE : eqE f n = 3 := by simp [eqE, h0, h1]
      have hL : eqL f n = [] := by simp [eqL, hE]
      rw [hL, hE]
      simp (maxSteps := 4000000) -implicitDefEqProofs -dsimp (disch := omega) only [↓AW_ops, ↓AW_seq, ↓AW_cond, ↓AW_ret, ↓AOps_nil, ↓AOps_pu, on_some, extK_same, condB_t, ↓then_normal, ↓then_ret, ↓Fin_ret, pval, rd_S, rd_C, put_S, resV, resL, List.replicate_succ, List.replicate_zero, List.set_cons_zero, List.set_cons_succ, List.getElem?_cons_zero, List.getElem?_cons_succ, Option.getD_some, List.length_nil, Nat.reduceSub, List.cons_append, List.nil_append, Bool.not_false, decide_false, h1]
      exact gc_same_all rfl rfl
  · have hE : eqE f n = vE f := by simp [eqE, h0]
    have hL : eqL f n = [] := by simp [eqL, hE, h0]
    rw [hL, hE]
    simp (maxSteps := 4000000) -implicitDefEqProofs -dsimp (disch := omega) only [↓AW_ops, ↓AW_seq, ↓AW_cond, ↓AW_ret, ↓AOps_nil, ↓AOps_pu, on_some, extK_same, condB_t, ↓then_normal, ↓then_ret, ↓Fin_ret, pval, rd_S, rd_C, put_S, resV, resL, List.replicate_succ, List.replicate_zero, List.set_cons_zero, List.set_cons_succ, List.getElem?_cons_zero, List.getElem?_cons_succ, Option.getD_some, List.length_nil, Nat.reduceSub, List.cons_append, List.nil_append, bin_neq, decide_true, not_false_eq_true, h0]
    exact gc_same_all rfl rfl

end Go.Proofs.Ytnnbggcckabhdaa
