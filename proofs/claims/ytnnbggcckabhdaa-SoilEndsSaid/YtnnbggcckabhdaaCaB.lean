/- What the law's proof rests on, part 4: for all that is said in each line. No conditions. -/
import Derived.Test.YtnnbggcckabhdaaRows
import Derived.Test.YtnnbggcckabhdaaCaA
namespace Go.Proofs.Ytnnbggcckabhdaa
open Go Go.Eng
theorem take_all2 {α : Type} {p : α → Prop} {l : List α} {i : Nat} {z : α} (h : ∀ y ∈ l.take i, p y) (hz : l[i]? = some z) (hp : p z) : ∀ y ∈ l.take (i + 1), p y := by
  intro y hy
  rw [List.take_add_one, hz] at hy
  rcases List.mem_append.1 hy with hy | hy
  · exact h y hy
  · have : y = z := by simpa using hy
    rw [this]; exact hp
end Go.Proofs.Ytnnbggcckabhdaa

namespace Go.Proofs.Ytnnbggcckabhdaa
open Go Go.Eng
end Go.Proofs.Ytnnbggcckabhdaa

namespace Go.Proofs.Ytnnbggcckabhdaa
open Go Go.Eng
abbrev pR (q : Rat) : Int × Int := (q.num, (q.den : Int))
theorem upTo_0 {f : List (Int × Int)} (hg : good f) : upTo 0 f 0 = 0 := upTo_none 0 f 0 (all_pos hg.2) Rat.le_refl
theorem rch_ok (x : Rat) : ∀ (us : List Int) (b a : Int), (a : Rat) < x → x ≤ ((a + us.sum : Int) : Rat) → ∃ y, rch b a us x = some y
  | [], b, a, h1, h2 => by
    simp at h2
    exact absurd h1 (Rat.not_lt.2 h2)
  | u :: us, b, a, h1, h2 => by
    rw [rch]
    by_cases h : x ≤ ((a + u : Int) : Rat)
    · exact ⟨_, if_pos h⟩
    · rw [if_neg h]
      exact rch_ok x us _ _ (Rat.not_le.1 h) (by rw [show a + u + us.sum = a + (u :: us).sum by simp only [List.sum_cons]; omega]; exact h2)
theorem plc_ok {f : List (Int × Int)} (hg : good f) {p w : Rat} (hw0 : 0 ≤ w) (h : upTo 0 f p + w ≤ ((tot f : Int) : Rat)) : ∃ y, plc f p w = some y := by
  unfold plc
  split
  · exact ⟨_, rfl⟩
  · rename_i h0
    have hwp : 0 < w := by
      have := Rat.num_nonneg.2 hw0
      exact num_pos_iff w |>.1 (by omega)
    have hbp := upTo_bounds hg 0 p
    refine rch_ok _ _ 0 0 (by have : ((0 : Int) : Rat) = 0 := rfl; grind) ?_
    rw [sum_units hg.2, Int.zero_add]
    exact h
theorem plc_den {f : List (Int × Int)} (hg : good f) {p w x : Rat} (D : Int) (hD : 0 < D) (hp : 0 ≤ p ∧ p ≤ ((len f : Int) : Rat)) (hpd : (p.den : Int) ≤ D * 20) (hDx : Dv D (upTo 0 f p + w)) (hw0 : 0 ≤ w) (h : plc f p w = some x) : (x.den : Int) ≤ D * 20 := by
  obtain ⟨g1, g2, g3⟩ := plc_worth hg hp.1 hp.2 hw0 h
  unfold plc at h
  split at h
  · have : p = x := Option.some.inj h
    subst this; exact hpd
  · rename_i h0
    have hwp : 0 < w := by
      have := Rat.num_nonneg.2 hw0
      exact num_pos_iff w |>.1 (by omega)
    have hbp := upTo_bounds hg 0 p
    have hlb := len_bound hg
    obtain ⟨⟨v, hv, b', a', hx⟩, _, _⟩ := rch_some _ (units f) 0 0 x (units_le hg.2) (by have : ((0 : Int) : Rat) = 0 := rfl; grind) h
    have h1 : Dv (D * v) x := by
      rw [hx]
      exact (Dv_int _ _).add ((hDx.sub (Dv_int D a')).div v (by omega))
    have h2 := num_le (M := 120) (Int.mul_pos hD (by omega)) h1 (int_neg_le_zero (by omega) (Rat.le_trans hp.1 g1)) (Rat.le_trans g2 (Rat.intCast_le_intCast.2 hlb.2))
    have h3 : D * v ≤ D * 20 := Int.mul_le_mul_of_nonneg_left hv.2 (by omega)
    omega
theorem s62 {f : List (Int × Int)} {v y : AV} {ws : List Rat} {A : AHeap} (hf : L2 A v f) (hg : good f) (hy : L2 A y (ws.map pR)) (hl : ws.length ≤ 100) (D : Int) (hD : 0 < D ∧ D ≤ 1048576) (ats : Nat → Rat) (h0 : ats 0 = 0)
    (hs : ∀ k w, ws[k]? = some w → Pl f (ats k) ∧ Dv D (upTo 0 f (ats k)) ∧ Dv D w ∧ 0 ≤ w ∧ w ≤ ((10000 : Int) : Rat) ∧ plc f (ats k) w = some (ats (k + 1))) :
    ACalls Try.prog 62 [v, y] A (outV 2 A ws.length) (outH A (((List.range ws.length).map (fun k => pR (ats (k + 1)))).flatMap e2) ws.length) := by
  refine acalls hmix Try.func62 (by kernel_rfl) t62 2 rfl (by decide) ?_
  dsimp only [m62]
  simp (maxSteps := 4000000) -implicitDefEqProofs -dsimp (disch := omega) only [↓AW_ops, ↓AW_seq, ↓AOps_nil, ↓AOps_pu, ↓AOps_call, on_some, ↓then_normal, pval, rd_C, put_S, List.replicate_succ, List.replicate_zero, List.set_cons_zero, List.set_cons_succ, map_c, map_n, Nat.reduceSub, List.cons_append, List.nil_append]
  refine CallK.of (s78 0 _) ?_
  simp (maxSteps := 4000000) -implicitDefEqProofs -dsimp (disch := omega) only [↓AW_ops, ↓AW_seq, ↓AW_block, ↓AOps_nil, ↓AOps_pu, on_some, extK_same, ↓then_normal, pval, rd_S, rd_C, put_S, ↓AW_toLoop, chkd, bput, AV.cells?, splice, eq_self, List.replicate_succ, List.replicate_zero, List.set_cons_zero, List.set_cons_succ, List.getElem?_cons_zero, List.getElem?_cons_succ, List.drop_succ_cons, List.drop_nil, List.take_zero, Option.getD_some, List.length_cons, List.length_nil, Nat.reduceAdd, Nat.reduceSub, Nat.reduceLeDiff, Nat.zero_add, List.cons_append, List.nil_append, List.append_nil, if_true, if_false, ne_eq, not_true_eq_false, hy.len, List.length_map]
  refine LoopK.by 29 (fun x : Nat × AV × AHeap => x.1 ≤ ws.length ∧ AccL 2 e2 A x.2.2 x.2.1 ((List.range x.1).map (fun k => pR (ats (k + 1))))) (fun x => [(0, v), (5, x.2.1), (6, R (ats x.1)), (10, y), (11, I ws.length), (12, I x.1)]) (fun x => x.2.2) (fun x => ws.length - x.1) (0, .nilS, A) ⟨by simp only; omega, AccL.nil (List.prefix_refl _)⟩ rfl (by simp only [h0]; simp [Has, rd_s]) rfl ?_
  rintro ⟨i, u, A1⟩ ⟨hi, hu⟩
  simp only at hi hu
  by_cases hlt : i < ws.length
  · obtain ⟨w, hz⟩ : ∃ z, ws[i]? = some z := ⟨_, List.getElem?_eq_getElem hlt⟩
    have hlt' : (i : Int) < ws.length := by omega
    have hlm : i < (ws.map pR).length := by simpa using hlt
    have hzm : (ws.map pR)[i]? = some (pR w) := by rw [List.getElem?_map, hz]; rfl
    obtain ⟨g1, g2, g3, g4, g5, g6⟩ := hs i w hz
    have hy1 := hy.mono hu.pre
    simp (maxSteps := 4000000) -implicitDefEqProofs -dsimp (disch := omega) only [↓AW_skip, ↓AW_ops, ↓AW_seq, ↓AW_cond, ↓AW_block, ↓AOps_nil, ↓AOps_pu, ↓AOps_ld, ↓AOps_call, on_some, condB_t, ↓then_normal, pval, lval, rd_S, rd_C, put_S, chkd, bput, bgot, AV.cells?, splice, partA, eq_self, mk, List.foldl_cons, List.foldl_nil, List.replicate_succ, List.replicate_zero, List.set_cons_zero, List.set_cons_succ, List.getElem?_cons_zero, List.getElem?_cons_succ, List.drop_zero, List.drop_succ_cons, List.drop_nil, List.take_zero, List.take_succ_cons, List.take_nil, Option.getD_some, map_c, map_n, List.length_cons, List.length_nil, Nat.reduceAdd, Nat.reduceLeDiff, Nat.reduceEqDiff, Nat.zero_add, List.nil_append, List.append_nil, bin_lss, if_true, if_false, decide_true, Go.Eng.e2, ne_eq, not_true_eq_false, hlt', hy1.idx hlm, hy1.ld0 hzm 2 true (by decide)]
    refine CallK.of (s80 (hf.mono hu.pre) hg (ats i) w g1 D hD g2 g3 g4 g5) ?_
    rw [g6]
    obtain ⟨v3, A3, happ, h3⟩ := hu.push e2_len (pR (ats (i + 1))) (by simp [lim]; omega)
    simp only [Go.Eng.e2] at happ
    simp (maxSteps := 4000000) -implicitDefEqProofs -dsimp (disch := omega) only [↓AW_ops, ↓AOps_nil, ↓AOps_pu, ↓AOps_ha, on_some, extK_false, extK_app, extK_same, ↓then_normal, ↓inBlock_normal, pval, hval, rd_S, rd_C, put_S, chkd, bput, bgot, AV.cells?, splice, partA, fillA, repl, eq_self, mk, List.foldl_cons, List.foldl_nil, List.replicate_succ, List.replicate_zero, List.set_cons_zero, List.set_cons_succ, List.getElem?_cons_zero, List.getElem?_cons_succ, List.drop_zero, List.drop_succ_cons, List.drop_nil, List.take_zero, List.take_succ_cons, List.take_nil, Option.getD_some, map_c, map_n, List.length_cons, List.length_nil, Nat.reduceAdd, Nat.reduceLeDiff, Nat.reduceEqDiff, Nat.zero_add, List.nil_append, List.append_nil, bin_add, w64, if_true, if_false, true_and, and_true, ne_eq, not_true_eq_false, oR, Option.isSome_some, happ]
    refine ⟨(i + 1, v3, A3), ⟨hlt, ?_⟩, by simp [Has, rd_s], rfl, by simp only; omega⟩
    simp only
    rw [List.range_succ, List.map_append]
    exact h3
  · have hlt' : ¬ ((i : Int) < ws.length) := by omega
    have hii : i = ws.length := by omega
    subst hii
    simp (maxSteps := 4000000) -implicitDefEqProofs -dsimp (disch := omega) only [↓AW_ops, ↓AW_seq, ↓AW_cond, ↓AW_exit, ↓AW_ret, ↓AOps_nil, ↓AOps_pu, on_some, condB_f, ↓then_normal, ↓then_exit, ↓inBlock_exit, ↓Fin_ret, pval, rd_S, put_S, resV, resL, eq_self, mk, List.foldl_cons, List.foldl_nil, List.replicate_succ, List.replicate_zero, List.set_cons_zero, List.set_cons_succ, List.getElem?_cons_zero, List.getElem?_cons_succ, Option.getD_some, bin_lss, if_true, decide_false, hlt']
    have := hu.gc flat_e2
    simpa using this
theorem AccL_out {α : Type} {es : Nat} {e : α → List AV} {A H : AHeap} (hp : A <+: H) (he : ∀ x, (e x).length = es) (xs : List α) : AccL es e A (outH H (xs.flatMap e) xs.length) (outV es H xs.length) xs := by
  refine ⟨hp.trans (pre_out _ _ _), flatMap_length he xs, ?_⟩
  unfold outV outH
  by_cases h : xs.length = 0
  · rw [if_pos h, if_pos h]; exact .inl ⟨h, rfl⟩
  · rw [if_neg h, if_neg h]
    exact .inr ⟨by omega, H.length, rfl, hp.length_le, by simp⟩
end Go.Proofs.Ytnnbggcckabhdaa

namespace Go.Proofs.Ytnnbggcckabhdaa
open Go Go.Eng
def prs (ps : List Int) (k : Nat) : Int := (ps.take k).sum
/-- Parts that make up a field. -/
def fits (f : List (Int × Int)) (ps : List Int) : Prop := (∀ p ∈ ps, 0 ≤ p ∧ p ≤ 10000) ∧ ps.sum = tot f
def cA (f : List (Int × Int)) (ps : List Int) : Nat → Rat
  | 0 => 0
  | k + 1 => (plc f (cA f ps k) (((ps[k]?).getD 0 : Int) : Rat)).getD 0
theorem prs_0 (ps : List Int) : prs ps 0 = 0 := by simp [prs]
theorem prs_succ {ps : List Int} {k : Nat} {p : Int} (h : ps[k]? = some p) : prs ps (k + 1) = prs ps k + p := by
  unfold prs
  rw [List.take_add_one, h]; simp
theorem sum_nonneg {l : List Int} (h : ∀ p ∈ l, 0 ≤ p) : 0 ≤ l.sum := by
  induction l with
  | nil => simp
  | cons a l ih =>
    have := ih (fun p hp => h p (by simp [hp]))
    have := h a (by simp)
    simp only [List.sum_cons]; omega
theorem prs_bounds {f : List (Int × Int)} {ps : List Int} (h : fits f ps) (k : Nat) : 0 ≤ prs ps k ∧ prs ps k ≤ tot f := by
  have h1 := sum_nonneg (l := ps.take k) (fun p hp => (h.1 p (List.mem_of_mem_take hp)).1)
  have h2 := sum_nonneg (l := ps.drop k) (fun p hp => (h.1 p (List.mem_of_mem_drop hp)).1)
  have h3 : (ps.take k).sum + (ps.drop k).sum = ps.sum := by rw [← List.sum_append, List.take_append_drop]
  have := h.2
  unfold prs
  omega
theorem cA_facts {f : List (Int × Int)} (hg : good f) {ps : List Int} (h : fits f ps) : ∀ k, k ≤ ps.length →
    (0 ≤ cA f ps k ∧ cA f ps k ≤ ((len f : Int) : Rat)) ∧ upTo 0 f (cA f ps k) = ((prs ps k : Int) : Rat) ∧ ((cA f ps k).den : Int) ≤ 20
  | 0, _ => by
    have hlb := len_bound hg
    refine ⟨⟨Rat.le_refl, cast_nonneg hlb.1⟩, ?_, ?_⟩
    · rw [prs_0]; exact upTo_0 hg
    · show (1 : Int) ≤ 20; decide
  | k + 1, hk => by
    obtain ⟨h1, h2, h3⟩ := cA_facts hg h k (by omega)
    obtain ⟨p, hp⟩ : ∃ p, ps[k]? = some p := ⟨_, List.getElem?_eq_getElem (by omega)⟩
    have hp0 := h.1 p (List.mem_of_getElem? hp)
    have hps := prs_succ hp
    have hb := prs_bounds h (k + 1)
    have hw0 : (0 : Rat) ≤ (p : Rat) := cast_nonneg hp0.1
    have hle : upTo 0 f (cA f ps k) + (p : Rat) ≤ ((tot f : Int) : Rat) := by
      rw [h2, ← Rat.intCast_add, ← hps]; exact Rat.intCast_le_intCast.2 hb.2
    obtain ⟨y, hy⟩ := plc_ok (p := cA f ps k) hg hw0 hle
    have e : cA f ps (k + 1) = y := by rw [cA, hp, Option.getD_some, hy]; rfl
    obtain ⟨g1, g2, g3⟩ := plc_worth hg h1.1 h1.2 hw0 hy
    have hd := plc_den hg 1 (by omega) h1 (by omega) (by rw [h2]; exact (Dv_int 1 _).add (Dv_int 1 _)) hw0 hy
    rw [e]
    exact ⟨⟨Rat.le_trans h1.1 g1, g2⟩, by rw [g3, h2, hps, Rat.intCast_add], by omega⟩
theorem cA_step {f : List (Int × Int)} (hg : good f) {ps : List Int} (h : fits f ps) {k : Nat} {p : Int} (hp : ps[k]? = some p) :
    plc f (cA f ps k) (p : Rat) = some (cA f ps (k + 1)) ∧ cA f ps k ≤ cA f ps (k + 1) := by
  have hk : k < ps.length := (List.getElem?_eq_some_iff.1 hp).1
  obtain ⟨h1, h2, h3⟩ := cA_facts hg h k (by omega)
  have hp0 := h.1 p (List.mem_of_getElem? hp)
  have hps := prs_succ hp
  have hb := prs_bounds h (k + 1)
  have hw0 : (0 : Rat) ≤ (p : Rat) := cast_nonneg hp0.1
  have hle : upTo 0 f (cA f ps k) + (p : Rat) ≤ ((tot f : Int) : Rat) := by
    rw [h2, ← Rat.intCast_add, ← hps]; exact Rat.intCast_le_intCast.2 hb.2
  obtain ⟨y, hy⟩ := plc_ok (p := cA f ps k) hg hw0 hle
  have e : cA f ps (k + 1) = y := by rw [cA, hp, Option.getD_some, hy]; rfl
  rw [e]
  exact ⟨hy, (plc_worth hg h1.1 h1.2 hw0 hy).1⟩
theorem tot_app (f g : List (Int × Int)) : tot (f ++ g) = tot f + tot g := by simp [tot, sumZ]
theorem len_app (f g : List (Int × Int)) : len (f ++ g) = len f + len g := by simp [len, sumZ]
theorem tot_cons (z : Int × Int) (f : List (Int × Int)) : tot (z :: f) = z.1 * z.2 + tot f := by simp [tot, sumZ]
theorem len_cons (z : Int × Int) (f : List (Int × Int)) : len (z :: f) = z.1 + len f := by simp [len, sumZ]
theorem len_rev : ∀ f : List (Int × Int), len f.reverse = len f
  | [] => rfl
  | z :: f => by rw [List.reverse_cons, len_app, len_rev f, len_cons, len_cons]; simp [len, sumZ]; omega
theorem tot_rev : ∀ f : List (Int × Int), tot f.reverse = tot f
  | [] => rfl
  | z :: f => by rw [List.reverse_cons, tot_app, tot_rev f, tot_cons, tot_cons]; simp [tot, sumZ]; omega
theorem upTo_shift (c : Int) (x : Rat) : ∀ (f : List (Int × Int)) (b : Int), upTo (b + c) f (x + (c : Rat)) = upTo b f x
  | [], _ => rfl
  | z :: f, b => by
    have e : b + c + z.1 = b + z.1 + c := by omega
    rw [upTo, upTo, e, upTo_shift c x f (b + z.1)]
    have h : clamp (x + (c : Rat)) ((b + c : Int) : Rat) ((b + z.1 + c : Int) : Rat) = clamp x (b : Rat) ((b + z.1 : Int) : Rat) + (c : Rat) := by
      rw [Rat.intCast_add, Rat.intCast_add _ c]
      unfold clamp
      grind
    rw [h, Rat.intCast_add b c]
    grind
theorem clamp_turn (x a l : Rat) (hl : 0 ≤ l) : l - clamp (a + l - x) 0 l = clamp x a (a + l) - a := by
  unfold clamp
  grind
theorem upTo_rev (x : Rat) : ∀ (f : List (Int × Int)), (∀ z ∈ f, 1 ≤ z.1) → upTo 0 f.reverse x = ((tot f : Int) : Rat) - upTo 0 f (((len f : Int) : Rat) - x)
  | [], _ => by simp [upTo, tot, sumZ, Rat.sub_self]
  | z :: f, h => by
    have hz := h z (by simp)
    have ih := upTo_rev x f (fun y hy => h y (by simp [hy]))
    rw [List.reverse_cons, upTo_append, Int.zero_add, len_rev, ih, upTo, upTo, Rat.add_zero, tot_cons, len_cons, upTo]
    have hs := upTo_shift z.1 (((len f : Int) : Rat) - x) f 0
    have e1 : ((len f : Int) : Rat) - x + (z.1 : Rat) = ((z.1 + len f : Int) : Rat) - x := by rw [Rat.intCast_add]; grind
    rw [e1] at hs
    rw [Int.zero_add] at hs ⊢
    rw [hs]
    have hc := clamp_turn x ((len f : Int) : Rat) (z.1 : Rat) (cast_nonneg (by omega))
    have e2 : ((len f : Int) : Rat) + (z.1 : Rat) - x = ((z.1 + len f : Int) : Rat) - x := by rw [Rat.intCast_add]; grind
    have e3 : ((len f : Int) : Rat) + (z.1 : Rat) = ((len f + z.1 : Int) : Rat) := by rw [Rat.intCast_add]
    rw [e2, e3, ← int0] at hc
    rw [← hc]
    simp only [Rat.intCast_add, Rat.intCast_mul]
    have := int0
    generalize clamp ((z.1 : Rat) + ((len f : Int) : Rat) - x) ((0 : Int) : Rat) (z.1 : Rat) = c at *
    generalize upTo 0 f (((len f : Int) : Rat) - x) = d at *
    grind
theorem upTo_ones (x : Rat) : ∀ (f : List (Int × Int)) (b : Int), (∀ z ∈ f, 1 ≤ z.1) → upTo b (f.map (fun z => (z.1, 1))) x = clamp x (b : Rat) ((b + len f : Int) : Rat) - (b : Rat)
  | [], b, _ => by
    have : len [] = 0 := by simp [len, sumZ]
    rw [List.map_nil, upTo, this, Int.add_zero]
    have : clamp x (b : Rat) (b : Rat) = (b : Rat) := by unfold clamp; grind
    rw [this, Rat.sub_self]
  | z :: f, b, h => by
    have hz := h z (by simp)
    have hn := len_nonneg (fun y hy => h y (List.mem_cons_of_mem z hy))
    rw [List.map_cons, upTo, upTo_ones x f _ (fun y hy => h y (by simp [hy])), len_cons, ← Int.add_assoc]
    have := clamp_join x (b : Rat) ((b + z.1 : Int) : Rat) ((b + z.1 + len f : Int) : Rat) (Rat.intCast_le_intCast.2 (by omega)) (Rat.intCast_le_intCast.2 (by omega))
    have := int1
    grind
theorem upTo_grow {x y : Rat} (h : x ≤ y) : ∀ (f : List (Int × Int)) (b : Int), (∀ z ∈ f, 1 ≤ z.1) → (∀ z ∈ f, 1 ≤ z.2) →
    upTo b (f.map (fun z => (z.1, 1))) y - upTo b (f.map (fun z => (z.1, 1))) x ≤ upTo b f y - upTo b f x
  | [], _, _, _ => Rat.le_refl
  | z :: f, b, h1, h2 => by
    have ih := upTo_grow h f (b + z.1) (fun y hy => h1 y (by simp [hy])) (fun y hy => h2 y (by simp [hy]))
    have hz1 := h1 z (by simp)
    have hz2 := h2 z (by simp)
    have hc := clamp_mono h (show (b : Rat) ≤ ((b + z.1 : Int) : Rat) from Rat.intCast_le_intCast.2 (by omega))
    have hv : ((1 : Int) : Rat) ≤ (z.2 : Rat) := Rat.intCast_le_intCast.2 hz2
    have h3 := Rat.mul_le_mul_of_nonneg_left hv (show 0 ≤ clamp y (b : Rat) ((b + z.1 : Int) : Rat) - clamp x (b : Rat) ((b + z.1 : Int) : Rat) by grind)
    rw [List.map_cons, upTo, upTo, upTo, upTo]
    have := int1
    grind
theorem upTo_inj {f : List (Int × Int)} (h1 : ∀ z ∈ f, 1 ≤ z.1) (h2 : ∀ z ∈ f, 1 ≤ z.2) {x y : Rat} (hx : 0 ≤ x ∧ x ≤ ((len f : Int) : Rat)) (hy : 0 ≤ y ∧ y ≤ ((len f : Int) : Rat)) (h : upTo 0 f x = upTo 0 f y) : x = y := by
  have key : ∀ {x y : Rat}, 0 ≤ x → y ≤ ((len f : Int) : Rat) → x ≤ y → upTo 0 f x = upTo 0 f y → y ≤ x := by
    intro x y hx hy hxy h
    have h3 := upTo_grow hxy f 0 h1 h2
    rw [upTo_ones x f 0 h1, upTo_ones y f 0 h1, Int.zero_add] at h3
    have hx2 : x ≤ ((len f : Int) : Rat) := Rat.le_trans hxy hy
    have hy2 : 0 ≤ y := Rat.le_trans hx hxy
    have e1 : clamp x ((0 : Int) : Rat) ((len f : Int) : Rat) = x := by rw [int0]; unfold clamp; grind
    have e2 : clamp y ((0 : Int) : Rat) ((len f : Int) : Rat) = y := by rw [int0]; unfold clamp; grind
    rw [e1, e2] at h3
    grind
  rcases Rat.le_total (a := x) (b := y) with hxy | hxy
  · exact Rat.le_antisymm hxy (key hx.1 hy.2 hxy h)
  · exact Rat.le_antisymm (key hy.1 hx.2 hxy h.symm) hxy
end Go.Proofs.Ytnnbggcckabhdaa

namespace Go.Proofs.Ytnnbggcckabhdaa
open Go Go.Eng
theorem c_CloneZ {xs : List (Int × Int)} {v : AV} {A : AHeap} (hx : L2 A v xs) (hn : v ≠ .nilS) (hl : xs.length ≤ 1000000) : ACalls Try.prog 92 [v] A (.sl 2 A.length 0 xs.length false) (A ++ [.cells true (xs.flatMap e2)]) := by
  refine acalls hmix Try.func92 (by kernel_rfl) t92 1 rfl (by decide) ?_
  obtain ⟨v', n, H2, happ, ho⟩ := app_new hx (by simp [lim]; omega)
  rcases hx.inv with ⟨rfl, _⟩ | ⟨n', off, full, rw, l, rfl, _⟩
  · exact absurd rfl hn
  · dsimp only [m92]
    simp (maxSteps := 4000000) -implicitDefEqProofs -dsimp (disch := omega) only [↓AW_skip, ↓AW_ops, ↓AW_seq, ↓AW_cond, ↓AW_ret, ↓AOps_nil, ↓AOps_pu, ↓AOps_ha, on_some, extK_false, extK_app, condB_f, ↓then_normal, ↓Fin_ret, pval, hval_blds, hval_app, rd_S, rd_C, put_S, resV, resL, fillA, repl, List.replicate_succ, List.replicate_zero, List.set_cons_zero, List.set_cons_succ, List.getElem?_cons_zero, List.getElem?_cons_succ, Option.getD_some, map_n, Nat.reduceSub, List.cons_append, List.nil_append, List.replicate_zero, repl, happ]
    exact OL_gcS ho flat_e2
/-- What stands at a place of a list that is half turned. -/
def hrev {α : Type} (xs zs : List α) (i : Nat) : Prop := zs.length = xs.length ∧ ∀ k, k < xs.length → zs[k]? = if k < i ∨ xs.length - 1 - i < k then xs[xs.length - 1 - k]? else xs[k]?
theorem hrev_0 {α : Type} (xs : List α) : hrev xs xs 0 := ⟨rfl, fun k hk => by rw [if_neg (by omega)]⟩
theorem hrev_end {α : Type} {xs zs : List α} {i : Nat} (h : hrev xs zs i) (hi : xs.length ≤ 2 * i + 1) : zs = xs.reverse := by
  refine List.ext_getElem? (fun k => ?_)
  by_cases hk : k < xs.length
  · rw [h.2 k hk, List.getElem?_reverse hk]
    split
    · rfl
    · have : xs.length - 1 - k = k := by omega
      rw [this]
  · rw [List.getElem?_eq_none (by rw [h.1]; omega), List.getElem?_eq_none (by simp; omega)]
theorem hrev_step {α : Type} {xs zs : List α} {i : Nat} (h : hrev xs zs i) (hi : 2 * i + 1 < xs.length) {a b : α} (ha : zs[i]? = some a) (hb : zs[xs.length - 1 - i]? = some b) :
    hrev xs ((zs.set i b).set (xs.length - 1 - i) a) (i + 1) := by
  refine ⟨by simp [h.1], fun k hk => ?_⟩
  have h1 := h.2 i (by omega)
  rw [if_neg (by omega), ha] at h1
  have h2 := h.2 (xs.length - 1 - i) (by omega)
  rw [if_neg (by omega), hb] at h2
  by_cases hk1 : k = xs.length - 1 - i
  · subst hk1
    rw [List.getElem?_set_self (by simp [h.1]; omega), if_pos (by omega), h1]
    congr 1
    omega
  · rw [List.getElem?_set_ne (Ne.symm hk1)]
    by_cases hk2 : k = i
    · subst hk2
      rw [List.getElem?_set_self (by rw [h.1]; omega), if_pos (by omega), h2]
    · rw [List.getElem?_set_ne (Ne.symm hk2), h.2 k hk]
      by_cases h3 : k < i ∨ xs.length - 1 - i < k
      · rw [if_pos h3, if_pos (by omega)]
      · rw [if_neg h3, if_neg (by omega)]
theorem c_ReverseZ {xs : List (Int × Int)} {v : AV} {A H : AHeap} {n : Nat} (h : OL 2 e2 A H n v xs) (hl : xs.length ≤ 1000000) : ACalls Try.prog 93 [v] H (.tuple []) (H.set n (.cells true (xs.reverse.flatMap e2))) := by
  refine acalls hmix Try.func93 (by kernel_rfl) t93 1 rfl (by decide) ?_
  dsimp only [m93]
  simp (maxSteps := 4000000) -implicitDefEqProofs -dsimp (disch := omega) only [↓AW_ops, ↓AW_seq, ↓AW_block, ↓AOps_nil, ↓AOps_pu, on_some, ↓then_normal, pval, rd_S, rd_C, put_S, ↓AW_toLoop, List.replicate_succ, List.replicate_zero, List.set_cons_zero, List.set_cons_succ, List.getElem?_cons_zero, List.getElem?_cons_succ, Option.getD_some, Nat.reduceSub, List.cons_append, List.nil_append, bin_sub, w64, h.ls.len]
  refine LoopK.by 28 (fun x : Nat × List (Int × Int) => (2 * x.1 ≤ xs.length + 1 ∧ hrev xs x.2 x.1)) (fun x => [(0, v), (2, I x.1), (3, I ((xs.length : Int) - 1 - x.1))]) (fun x => H.set n (.cells true (x.2.flatMap e2))) (fun x => xs.length - x.1) (0, xs) ⟨by simp only; omega, hrev_0 xs⟩ rfl (by simp [Has, rd_s]) (by simp only; rw [set_same h.ob]) ?_
  rintro ⟨i, zs⟩ ⟨hi, hz⟩
  simp only at hi hz
  have ho := OL_setAll h zs hz.1
  by_cases hlt : (i : Int) < (xs.length : Int) - 1 - i
  · have hin : i < xs.length := by omega
    have hjl : xs.length - 1 - i < zs.length := by rw [hz.1]; omega
    have hil : i < zs.length := by rw [hz.1]; omega
    have hj : (xs.length : Int) - 1 - i = ((xs.length - 1 - i : Nat) : Int) := by omega
    obtain ⟨a, ha⟩ : ∃ a, zs[i]? = some a := ⟨_, List.getElem?_eq_getElem hil⟩
    obtain ⟨b, hb⟩ : ∃ b, zs[xs.length - 1 - i]? = some b := ⟨_, List.getElem?_eq_getElem hjl⟩
    have hlt' := hlt
    rw [hj] at hlt'
    have h1 := ho.st hil (.agg [I b.1, I b.2]) b rfl
    rw [List.set_set] at h1
    have ho2 := OL_setAll h (zs.set i b) (by simp [hz.1])
    have hjl2 : xs.length - 1 - i < (zs.set i b).length := by simpa using hjl
    have h2 := ho2.st hjl2 (.agg [I a.1, I a.2]) a rfl
    rw [List.set_set] at h2
    have hst := hrev_step hz (by omega) ha hb
    generalize hJ : xs.length - 1 - i = j at *
    simp (maxSteps := 4000000) -implicitDefEqProofs -dsimp (disch := omega) only [↓AW_skip, ↓AW_ops, ↓AW_seq, ↓AW_cond, ↓AW_block, ↓AOps_nil, ↓AOps_pu, ↓AOps_ld, ↓AOps_ha, on_some, extK_false, condB_t, ↓then_normal, ↓inBlock_normal, pval, lval, hval_st, rd_S, rd_C, put_S, putS_none, partA, eq_self, mk, List.foldl_cons, List.foldl_nil, List.replicate_succ, List.replicate_zero, List.set_cons_zero, List.set_cons_succ, List.getElem?_cons_zero, List.getElem?_cons_succ, List.drop_zero, List.take_succ_cons, List.take_nil, Option.getD_some, Option.map_some, List.length_cons, List.length_nil, Nat.reduceAdd, Nat.reduceLeDiff, Nat.reduceEqDiff, Nat.zero_add, bin_add, bin_sub, bin_lss, w64, if_true, if_false, decide_true, Go.Eng.e2, true_and, hj, hlt', ho.ls.idx hil, ho.ls.idx hjl, ho.ls.ld0 ha 2 true (by decide), ho.ls.ld0 hb 2 true (by decide), h1, h2]
    refine ⟨(i + 1, _), ⟨by simp only; omega, hst⟩, by simp [Has, rd_s]; omega, rfl, by simp only; omega⟩
  · have he := hrev_end hz (by omega)
    simp (maxSteps := 4000000) -implicitDefEqProofs -dsimp (disch := omega) only [↓AW_ops, ↓AW_seq, ↓AW_cond, ↓AW_exit, ↓AOps_nil, ↓AOps_pu, on_some, condB_f, ↓then_normal, ↓then_exit, ↓inBlock_exit, ↓Fin_normal, pval, rd_S, put_S, resV, resL, eq_self, mk, List.foldl_cons, List.foldl_nil, List.replicate_succ, List.replicate_zero, List.set_cons_zero, List.set_cons_succ, List.getElem?_cons_zero, List.getElem?_cons_succ, Option.getD_some, bin_lss, if_true, decide_false, hlt]
    rw [he] at ho ⊢
    exact gc_same_all rfl rfl
def tuL (f : List (Int × Int)) : List (Int × Int) := if vE f = 0 then f.reverse else []
theorem s52 {f : List (Int × Int)} {v : AV} {A : AHeap} (hf : L2 A v f) : ACalls Try.prog 52 [v] A (.tuple [outV 2 A (tuL f).length, I (vE f)]) (outH A ((tuL f).flatMap e2) (tuL f).length) := by
  refine acalls hmix Try.func52 (by kernel_rfl) t52 1 rfl (by decide) ?_
  dsimp only [m52]
  simp (maxSteps := 4000000) -implicitDefEqProofs -dsimp (disch := omega) only [↓AW_ops, ↓AW_seq, ↓AOps_nil, ↓AOps_pu, ↓AOps_call, on_some, ↓then_normal, pval, rd_S, rd_C, put_S, List.replicate_succ, List.replicate_zero, List.set_cons_zero, List.set_cons_succ, List.getElem?_cons_zero, List.getElem?_cons_succ, Option.getD_some, map_c, map_n, Nat.reduceSub, List.cons_append, List.nil_append]
  refine CallK.of (s37 hf) ?_
  by_cases h0 : vE f = 0
  · obtain ⟨hg, h1⟩ := good_of h0
    have hl6 := hg.1
    have hL : tuL f = f.reverse := by unfold tuL; rw [if_pos h0]
    rw [hL, h0]
    simp (maxSteps := 4000000) -implicitDefEqProofs -dsimp (disch := omega) only [↓AW_skip, ↓AW_ops, ↓AW_seq, ↓AW_cond, ↓AOps_nil, ↓AOps_pu, ↓AOps_call, on_some, extK_same, condB_f, ↓then_normal, pval, rd_S, rd_C, put_S, eq_self, List.replicate_succ, List.replicate_zero, List.set_cons_zero, List.set_cons_succ, List.getElem?_cons_zero, List.getElem?_cons_succ, Option.getD_some, map_c, map_n, Nat.reduceSub, List.cons_append, List.nil_append, bin_neq, decide_false, not_true_eq_false]
    refine CallK.of (c_CloneZ hf (Ls_nn hf h1) (by omega)) ?_
    have ho := OL.new_mk e2_len A f false
    generalize hvv : AV.sl 2 A.length 0 f.length false = vv at *
    have hr := c_ReverseZ ho (by omega)
    rw [set_new] at hr
    simp (maxSteps := 4000000) -implicitDefEqProofs -dsimp (disch := omega) only [↓AW_ops, ↓AW_seq, ↓AOps_nil, ↓AOps_pu, ↓AOps_call, on_some, extK_app, ↓then_normal, pval, rd_S, put_S, List.replicate_succ, List.replicate_zero, List.set_cons_zero, List.set_cons_succ, List.getElem?_cons_zero, List.getElem?_cons_succ, Option.getD_some, map_c, map_n, Nat.reduceSub, List.cons_append, List.nil_append]
    refine CallK.of hr ?_
    simp (maxSteps := 4000000) -implicitDefEqProofs -dsimp (disch := omega) only [↓AW_ops, ↓AW_seq, ↓AW_ret, ↓AOps_nil, ↓AOps_pu, on_some, extK_false, ↓then_normal, ↓Fin_ret, pval, rd_S, rd_C, put_S, resV, resL, List.replicate_succ, List.replicate_zero, List.set_cons_zero, List.set_cons_succ, List.getElem?_cons_zero, List.getElem?_cons_succ, Option.getD_some, Nat.reduceSub, List.cons_append, List.nil_append]
    have ho2 := OL_setAll ho f.reverse (by simp)
    rw [set_new] at ho2
    exact ho2.gc2 (by simp; omega) flat_e2 (I 0) rfl
  · have hL : tuL f = [] := by simp [tuL, h0]
    rw [hL]
    simp (maxSteps := 4000000) -implicitDefEqProofs -dsimp (disch := omega) only [↓AW_ops, ↓AW_seq, ↓AW_cond, ↓AW_ret, ↓AOps_nil, ↓AOps_pu, on_some, extK_same, condB_t, ↓then_normal, ↓then_ret, ↓Fin_ret, pval, rd_S, rd_C, put_S, resV, resL, List.replicate_succ, List.replicate_zero, List.set_cons_zero, List.set_cons_succ, List.getElem?_cons_zero, List.getElem?_cons_succ, Option.getD_some, List.length_nil, Nat.reduceSub, List.cons_append, List.nil_append, bin_neq, decide_true, not_false_eq_true, h0]
    exact gc_same_all rfl rfl
end Go.Proofs.Ytnnbggcckabhdaa

namespace Go.Proofs.Ytnnbggcckabhdaa
open Go Go.Eng
def inQ (p : Int) : Prop := 0 ≤ p ∧ p ≤ 10000
instance (p : Int) : Decidable (inQ p) := by unfold inQ; exact inferInstance
/-- The error of a field and of parts. -/
def paE (f : List (Int × Int)) (ps : List Int) : Int :=
  if vE f = 0 then (if (1 : Int) ≤ ps.length ∧ (ps.length : Int) ≤ 8 then (if ∀ p ∈ ps, inQ p then (if ps.sum = tot f then 0 else 5) else 1) else 3) else vE f
theorem paE_0 {f : List (Int × Int)} {ps : List Int} (h : paE f ps = 0) : vE f = 0 ∧ (1 ≤ ps.length ∧ ps.length ≤ 8) ∧ fits f ps := by
  unfold paE at h
  split at h
  · rename_i h0
    split at h
    · rename_i h1
      split at h
      · rename_i h2
        split at h
        · rename_i h3; exact ⟨h0, by omega, h2, h3⟩
        · cases h
      · cases h
    · cases h
  · rename_i h0; exact absurd h h0
theorem prs_le {ps : List Int} (h : ∀ p ∈ ps, inQ p) : ∀ i, i ≤ ps.length → 0 ≤ prs ps i ∧ prs ps i ≤ 10000 * i
  | 0, _ => by simp [prs]
  | i + 1, hi => by
    have h1 := prs_le h i (by omega)
    obtain ⟨z, hz⟩ : ∃ z, ps[i]? = some z := ⟨_, List.getElem?_eq_getElem (by omega)⟩
    have h2 := h z (List.mem_of_getElem? hz)
    unfold inQ at h2
    rw [prs_succ hz]
    omega
theorem prs_take (ps : List Int) {i j : Nat} (h : i ≤ j) : prs (ps.take j) i = prs ps i := by
  unfold prs
  rw [List.take_take, Nat.min_eq_left h]
theorem s87 {f : List (Int × Int)} {ps : List Int} {v u : AV} {A : AHeap} (hf : L2 A v f) (hp : L1 A u ps) : ACalls Try.prog 87 [v, u] A (I (paE f ps)) A := by
  refine acalls hmix Try.func87 (by kernel_rfl) t87 2 rfl (by decide) ?_
  dsimp only [m87]
  simp (maxSteps := 4000000) -implicitDefEqProofs -dsimp (disch := omega) only [↓AW_ops, ↓AW_seq, ↓AOps_nil, ↓AOps_pu, ↓AOps_call, on_some, ↓then_normal, pval, rd_S, rd_C, put_S, List.replicate_succ, List.replicate_zero, List.set_cons_zero, List.set_cons_succ, List.getElem?_cons_zero, List.getElem?_cons_succ, Option.getD_some, map_c, map_n, Nat.reduceSub, List.cons_append, List.nil_append]
  refine CallK.of (s37 hf) ?_
  by_cases h0 : vE f = 0
  · have hg := (good_of h0).1
    have ht := tot_bound hg
    simp (maxSteps := 4000000) -implicitDefEqProofs -dsimp (disch := omega) only [↓AW_skip, ↓AW_ops, ↓AW_seq, ↓AW_cond, ↓AOps_nil, ↓AOps_pu, ↓AOps_call, on_some, extK_same, condB_f, ↓then_normal, pval, rd_S, rd_C, put_S, eq_self, List.replicate_succ, List.replicate_zero, List.set_cons_zero, List.set_cons_succ, List.getElem?_cons_zero, List.getElem?_cons_succ, Option.getD_some, map_c, map_n, Nat.reduceSub, List.cons_append, List.nil_append, bin_neq, decide_false, not_true_eq_false, h0, hp.len]
    refine CallK.of (s61 _ _ _ _) ?_
    by_cases h1 : (1 : Int) ≤ ps.length ∧ (ps.length : Int) ≤ 8
    · simp (maxSteps := 4000000) -implicitDefEqProofs -dsimp (disch := omega) only [↓AW_skip, ↓AW_ops, ↓AW_seq, ↓AW_cond, ↓AW_block, ↓AOps_nil, ↓AOps_pu, on_some, extK_same, condB_f, ↓then_normal, pval, rd_S, rd_C, put_S, ↓AW_toLoop, List.replicate_succ, List.replicate_zero, List.set_cons_zero, List.set_cons_succ, List.getElem?_cons_zero, List.getElem?_cons_succ, Option.getD_some, Nat.reduceSub, List.cons_append, List.nil_append, Bool.not_true, decide_true, and_true, h1, hp.len]
      refine LoopK.by 35 (fun i : Nat => i ≤ ps.length ∧ ∀ y ∈ ps.take i, inQ y) (fun i => [(0, v), (6, I (prs ps i)), (18, u), (19, I ps.length), (20, I i)]) (fun _ => A) (fun i => ps.length - i) 0 ⟨by omega, by simp⟩ rfl (by simp [Has, rd_s, prs]) rfl ?_
      rintro i ⟨hi, he⟩
      by_cases hlt : i < ps.length
      · obtain ⟨z, hz⟩ : ∃ z, ps[i]? = some z := ⟨_, List.getElem?_eq_getElem hlt⟩
        have hlt' : (i : Int) < ps.length := by omega
        have hb := prs_le he i (by simp; omega)
        rw [prs_take ps (Nat.le_refl i)] at hb
        simp (maxSteps := 4000000) -implicitDefEqProofs -dsimp (disch := omega) only [↓AW_skip, ↓AW_ops, ↓AW_seq, ↓AW_cond, ↓AW_block, ↓AOps_nil, ↓AOps_pu, ↓AOps_ld, ↓AOps_call, on_some, condB_t, ↓then_normal, pval, lval, rd_S, rd_C, put_S, partA, eq_self, mk, List.foldl_cons, List.foldl_nil, List.replicate_succ, List.replicate_zero, List.set_cons_zero, List.set_cons_succ, List.getElem?_cons_zero, List.getElem?_cons_succ, List.drop_zero, List.take_succ_cons, List.take_nil, Option.getD_some, map_c, map_n, List.length_cons, List.length_nil, Nat.reduceLeDiff, Nat.zero_add, bin_lss, if_true, if_false, Bool.false_eq_true, decide_true, Go.Eng.e1, hlt', hp.idx hlt, hp.ld0 hz 1 false (by decide)]
        refine CallK.of (s61 _ _ _ _) ?_
        by_cases h2 : inQ z
        · have h2' : 0 ≤ z ∧ z ≤ 10000 := h2
          simp (maxSteps := 4000000) -implicitDefEqProofs -dsimp (disch := omega) only [↓AW_skip, ↓AW_ops, ↓AW_cond, ↓AOps_nil, ↓AOps_pu, on_some, extK_same, condB_f, ↓then_normal, ↓inBlock_normal, pval, rd_S, rd_C, put_S, eq_self, mk, List.foldl_cons, List.foldl_nil, List.replicate_succ, List.replicate_zero, List.set_cons_zero, List.set_cons_succ, List.getElem?_cons_zero, List.getElem?_cons_succ, Option.getD_some, List.length_cons, List.length_nil, Nat.reduceAdd, Nat.zero_add, bin_add, w64, Bool.not_true, decide_true, true_and, and_true, h2']
          exact ⟨i + 1, ⟨hlt, take_all2 he hz h2⟩, by simp [Has, rd_s, prs_succ hz], by omega⟩
        · have h2' : ¬ (0 ≤ z ∧ z ≤ 10000) := h2
          simp (maxSteps := 4000000) -implicitDefEqProofs -dsimp (disch := omega) only [↓AW_ops, ↓AW_seq, ↓AW_cond, ↓AW_ret, ↓AOps_nil, ↓AOps_pu, on_some, extK_same, condB_t, ↓then_normal, ↓then_ret, ↓inBlock_ret, ↓Fin_ret, pval, rd_S, rd_C, put_S, resV, resL, mk, List.foldl_cons, List.foldl_nil, List.replicate_succ, List.replicate_zero, List.set_cons_zero, List.set_cons_succ, List.getElem?_cons_zero, List.getElem?_cons_succ, Option.getD_some, Bool.not_false, decide_false, h2']
          have : ¬ ∀ p ∈ ps, inQ p := fun h => h2 (h z (List.mem_of_getElem? hz))
          exact gc_same (by simp only [paE, h0, if_true, h1, and_self, this, if_false])
      · have hlt' : ¬ ((i : Int) < ps.length) := by omega
        have hii : i = ps.length := by omega
        rw [List.take_of_length_le (by omega)] at he
        have hsum : prs ps i = ps.sum := by unfold prs; rw [List.take_of_length_le (by omega)]
        rw [hsum]
        simp (maxSteps := 4000000) -implicitDefEqProofs -dsimp (disch := omega) only [↓AW_ops, ↓AW_seq, ↓AW_cond, ↓AW_exit, ↓AOps_nil, ↓AOps_pu, ↓AOps_call, on_some, condB_f, ↓then_normal, ↓then_exit, ↓inBlock_exit, pval, rd_S, put_S, eq_self, mk, List.foldl_cons, List.foldl_nil, List.replicate_succ, List.replicate_zero, List.set_cons_zero, List.set_cons_succ, List.getElem?_cons_zero, List.getElem?_cons_succ, Option.getD_some, map_c, map_n, bin_lss, if_true, decide_false, hlt']
        refine CallK.of (s65 hf hg) ?_
        by_cases h3 : ps.sum = tot f
        · simp (maxSteps := 4000000) -implicitDefEqProofs -dsimp (disch := omega) only [↓AW_skip, ↓AW_ops, ↓AW_seq, ↓AW_cond, ↓AW_ret, ↓AOps_nil, ↓AOps_pu, on_some, extK_same, condB_f, ↓then_normal, ↓Fin_ret, pval, rd_S, rd_C, put_S, resV, resL, eq_self, mk, List.foldl_cons, List.foldl_nil, List.replicate_succ, List.replicate_zero, List.set_cons_zero, List.set_cons_succ, List.getElem?_cons_zero, List.getElem?_cons_succ, Option.getD_some, bin_neq, decide_false, not_true_eq_false, h3]
          exact gc_same (by simp [paE, h0, h1, h3]; exact he)
        · simp (maxSteps := 4000000) -implicitDefEqProofs -dsimp (disch := omega) only [↓AW_ops, ↓AW_seq, ↓AW_cond, ↓AW_ret, ↓AOps_nil, ↓AOps_pu, on_some, extK_same, condB_t, ↓then_normal, ↓then_ret, ↓Fin_ret, pval, rd_S, rd_C, put_S, resV, resL, mk, List.foldl_cons, List.foldl_nil, List.replicate_succ, List.replicate_zero, List.set_cons_zero, List.set_cons_succ, List.getElem?_cons_zero, List.getElem?_cons_succ, Option.getD_some, bin_neq, decide_true, not_false_eq_true, h3]
          exact gc_same (by simp [paE, h0, h1, h3]; exact he)
    · simp (maxSteps := 4000000) -implicitDefEqProofs -dsimp (disch := omega) only [↓AW_ops, ↓AW_seq, ↓AW_cond, ↓AW_ret, ↓AOps_nil, ↓AOps_pu, on_some, extK_same, condB_t, ↓then_normal, ↓then_ret, ↓Fin_ret, pval, rd_S, rd_C, put_S, resV, resL, List.replicate_succ, List.replicate_zero, List.set_cons_zero, List.set_cons_succ, List.getElem?_cons_zero, List.getElem?_cons_succ, Option.getD_some, Nat.reduceSub, List.cons_append, List.nil_append, Bool.not_false, decide_false, h1]
      exact gc_same (by simp only [paE, h0, if_true, h1, if_false])
  · simp (maxSteps := 4000000) -implicitDefEqProofs -dsimp (disch := omega) only [↓AW_ops, ↓AW_seq, ↓AW_cond, ↓AW_ret, ↓AOps_nil, ↓AOps_pu, on_some, extK_same, condB_t, ↓then_normal, ↓then_ret, ↓Fin_ret, pval, rd_S, rd_C, put_S, resV, resL, List.replicate_succ, List.replicate_zero, List.set_cons_zero, List.set_cons_succ, List.getElem?_cons_zero, List.getElem?_cons_succ, Option.getD_some, Nat.reduceSub, List.cons_append, List.nil_append, bin_neq, decide_true, not_false_eq_true, h0]
    exact gc_same (by simp only [paE, h0, if_false])
def cuL (f : List (Int × Int)) (ps : List Int) : List (Int × Int) := if paE f ps = 0 then (List.range (ps.length - 1)).map (fun k => pR (cA f ps (k + 1))) else []
theorem s50 {f : List (Int × Int)} {ps : List Int} {v u : AV} {A : AHeap} (hf : L2 A v f) (hp : L1 A u ps) : ACalls Try.prog 50 [v, u] A (.tuple [outV 2 A (cuL f ps).length, I (paE f ps)]) (outH A ((cuL f ps).flatMap e2) (cuL f ps).length) := by
  refine acalls hmix Try.func50 (by kernel_rfl) t50 2 rfl (by decide) ?_
  dsimp only [m50]
  simp (maxSteps := 4000000) -implicitDefEqProofs -dsimp (disch := omega) only [↓AW_ops, ↓AW_seq, ↓AOps_nil, ↓AOps_pu, ↓AOps_call, on_some, ↓then_normal, pval, rd_S, rd_C, put_S, List.replicate_succ, List.replicate_zero, List.set_cons_zero, List.set_cons_succ, List.getElem?_cons_zero, List.getElem?_cons_succ, Option.getD_some, map_c, map_n, Nat.reduceSub, List.cons_append, List.nil_append]
  refine CallK.of (s87 hf hp) ?_
  by_cases hE : paE f ps = 0
  · obtain ⟨h0, h1, hfit⟩ := paE_0 hE
    have hg := (good_of h0).1
    have hL : cuL f ps = (List.range (ps.length - 1)).map (fun k => pR (cA f ps (k + 1))) := by unfold cuL; rw [if_pos hE]
    rw [hL, hE]
    obtain ⟨w, hw, hLw⟩ := Ls_takeS hp (ps.length - 1) (by omega)
    have hk : (ps.length : Int) - 1 = ((ps.length - 1 : Nat) : Int) := by omega
    have hwl : (ps.take (ps.length - 1)).length = ps.length - 1 := by rw [List.length_take]; omega
    have hlen := hLw.len
    rw [hwl] at hlen
    generalize hm : ps.length - 1 = m at *
    simp (maxSteps := 4000000) -implicitDefEqProofs -dsimp (disch := omega) only [↓AW_skip, ↓AW_ops, ↓AW_seq, ↓AW_cond, ↓AW_block, ↓AOps_nil, ↓AOps_pu, on_some, extK_same, condB_f, ↓then_normal, pval, rd_S, rd_C, put_S, ↓AW_toLoop, eq_self, List.replicate_succ, List.replicate_zero, List.set_cons_zero, List.set_cons_succ, List.getElem?_cons_zero, List.getElem?_cons_succ, Option.getD_some, Option.map_some, Option.map_none, Nat.reduceSub, List.cons_append, List.nil_append, bin_sub, bin_neq, w64, decide_false, not_true_eq_false, hp.len, hk, hw, hlen]
    refine LoopK.by 35 (fun x : Nat × AV × AHeap => x.1 ≤ m ∧ AccL 2 e2 A x.2.2 x.2.1 (((ps.take x.1).map (fun (p : Int) => (p : Rat))).map pR)) (fun x => [(0, v), (7, x.2.1), (20, w), (21, I m), (22, I x.1)]) (fun x => x.2.2) (fun x => m - x.1) (0, .nilS, A) ⟨by simp only; omega, by simpa using AccL.nil (List.prefix_refl _)⟩ rfl (by simp [Has, rd_s]) rfl ?_
    rintro ⟨i, o, A1⟩ ⟨hi, ho⟩
    simp only at hi ho
    by_cases hlt : i < m
    · have hlt' : (i : Int) < m := by omega
      obtain ⟨z, hz⟩ : ∃ z, ps[i]? = some z := ⟨_, List.getElem?_eq_getElem (by omega)⟩
      have hzw : (ps.take m)[i]? = some z := by rw [List.getElem?_take, if_pos hlt]; exact hz
      have hil : i < (ps.take m).length := by omega
      have hw1 := hLw.mono ho.pre
      simp (maxSteps := 4000000) -implicitDefEqProofs -dsimp (disch := omega) only [↓AW_skip, ↓AW_ops, ↓AW_seq, ↓AW_cond, ↓AW_block, ↓AOps_nil, ↓AOps_pu, ↓AOps_ld, ↓AOps_call, on_some, condB_t, ↓then_normal, pval, lval, rd_S, put_S, partA, eq_self, mk, List.foldl_cons, List.foldl_nil, List.replicate_succ, List.replicate_zero, List.set_cons_zero, List.set_cons_succ, List.getElem?_cons_zero, List.getElem?_cons_succ, List.drop_zero, List.take_succ_cons, List.take_nil, Option.getD_some, map_c, map_n, List.length_cons, List.length_nil, Nat.reduceLeDiff, Nat.zero_add, bin_lss, if_true, if_false, Bool.false_eq_true, decide_true, Go.Eng.e1, hlt', hw1.idx hil, hw1.ld0 hzw 1 false (by decide)]
      obtain ⟨v3, A3, happ, h3⟩ := ho.push e2_len (pR (z : Rat)) (by simp [lim]; omega)
      simp only [Go.Eng.e2] at happ
      refine CallK.of (s78 _ _) ?_
      simp (maxSteps := 4000000) -implicitDefEqProofs -dsimp (disch := omega) only [↓AW_ops, ↓AOps_nil, ↓AOps_pu, ↓AOps_ha, on_some, extK_false, extK_app, extK_same, ↓then_normal, ↓inBlock_normal, pval, hval, rd_S, rd_C, put_S, AV.cells?, splice, fillA, repl, eq_self, mk, List.foldl_cons, List.foldl_nil, List.replicate_succ, List.replicate_zero, List.set_cons_zero, List.set_cons_succ, List.getElem?_cons_zero, List.getElem?_cons_succ, List.drop_succ_cons, List.drop_nil, List.take_zero, Option.getD_some, map_c, map_n, List.length_cons, List.length_nil, Nat.reduceAdd, Nat.reduceLeDiff, Nat.zero_add, List.nil_append, List.append_nil, bin_add, w64, if_true, true_and, and_true, happ]
      refine ⟨(i + 1, v3, A3), ⟨hlt, ?_⟩, by simp [Has, rd_s], rfl, by simp only; omega⟩
      simp only
      rw [List.take_add_one, hz, Option.toList_some, List.map_append, List.map_append]
      exact h3
    · have him : i = m := by omega
      subst him
      have hlt' : ¬ ((i : Int) < i) := by omega
      have hy := AccL_ls ho e2_len
      simp (maxSteps := 4000000) -implicitDefEqProofs -dsimp (disch := omega) only [↓AW_ops, ↓AW_seq, ↓AW_cond, ↓AW_exit, ↓AOps_nil, ↓AOps_pu, ↓AOps_call, on_some, condB_f, ↓then_normal, ↓then_exit, ↓inBlock_exit, pval, rd_S, put_S, eq_self, mk, List.foldl_cons, List.foldl_nil, List.replicate_succ, List.replicate_zero, List.set_cons_zero, List.set_cons_succ, List.getElem?_cons_zero, List.getElem?_cons_succ, Option.getD_some, map_c, map_n, bin_lss, if_true, decide_false, hlt']
      have hwsl : ((ps.take i).map (fun (p : Int) => (p : Rat))).length = i := by rw [List.length_map]; exact hwl
      have h62 := s62 (hf.mono ho.pre) hg hy (by rw [hwsl]; omega) 1 (by omega) (cA f ps) rfl (fun k w hk => by
        rw [List.getElem?_map, Option.map_eq_some_iff] at hk
        obtain ⟨p, hkp, rfl⟩ := hk
        have hki : k < i := by have := (List.getElem?_eq_some_iff.1 hkp).1; omega
        have hkp : ps[k]? = some p := by rw [List.getElem?_take, if_pos hki] at hkp; exact hkp
        have hq := hfit.1 p (List.mem_of_getElem? hkp)
        obtain ⟨b1, b2, b3⟩ := cA_facts hg hfit k (by omega)
        exact ⟨Pl.of b1.1 b1.2 (by omega), by rw [b2]; exact Dv_int 1 _, Dv_int 1 _, cast_nonneg hq.1, Rat.intCast_le_intCast.2 hq.2, (cA_step hg hfit hkp).1⟩)
      rw [hwsl] at h62
      refine CallK.of h62 ?_
      simp (maxSteps := 4000000) -implicitDefEqProofs -dsimp (disch := omega) only [↓AW_ret, ↓AOps_nil, ↓AOps_pu, on_some, extK_false, ↓then_normal, ↓Fin_ret, pval, rd_S, rd_C, put_S, resV, resL, mk, List.foldl_cons, List.foldl_nil, List.replicate_succ, List.replicate_zero, List.set_cons_zero, List.set_cons_succ, List.getElem?_cons_zero, List.getElem?_cons_succ, Option.getD_some]
      have hacc := AccL_out ho.pre e2_len ((List.range i).map (fun k => pR (cA f ps (k + 1))))
      simp only [List.length_map, List.length_range] at hacc
      have := hacc.gc2 flat_e2 (I 0) rfl
      simpa using this
  · have hL : cuL f ps = [] := by unfold cuL; rw [if_neg hE]
    rw [hL]
    simp (maxSteps := 4000000) -implicitDefEqProofs -dsimp (disch := omega) only [↓AW_ops, ↓AW_seq, ↓AW_cond, ↓AW_ret, ↓AOps_nil, ↓AOps_pu, on_some, extK_same, condB_t, ↓then_normal, ↓then_ret, ↓Fin_ret, pval, rd_S, rd_C, put_S, resV, resL, List.replicate_succ, List.replicate_zero, List.set_cons_zero, List.set_cons_succ, List.getElem?_cons_zero, List.getElem?_cons_succ, Option.getD_some, List.length_nil, Nat.reduceSub, List.cons_append, List.nil_append, bin_neq, decide_true, not_false_eq_true, hE]
    exact gc_same_all rfl rfl
end Go.Proofs.Ytnnbggcckabhdaa

namespace Go.Proofs.Ytnnbggcckabhdaa
open Go Go.Eng
end Go.Proofs.Ytnnbggcckabhdaa

namespace Go.Eng
open Go
section
variable {P : Program} {α : Type}
end
end Go.Eng

namespace Go.Eng
open Go
end Go.Eng

namespace Go.Proofs.Ytnnbggcckabhdaa
open Go Go.Eng
end Go.Proofs.Ytnnbggcckabhdaa

namespace Go.Proofs.Ytnnbggcckabhdaa
open Go Go.Eng
end Go.Proofs.Ytnnbggcckabhdaa

namespace Go.Proofs.Ytnnbggcckabhdaa
open Go Go.Eng
/-- selion/selionlaw02.SoilEnds [loop [0, 1, 5, 7, 8, 9, 10, 11], loop [1, 5, 7, 8, 9, 10, 12, 13], loop [5, 9, 14, 16]] -/
def m13 : MFun := ⟨130, [], [.mov (.s 4)],
 .seq (.ops [⟨(some 4), some undefA, none, false, .pu (.mov (.c (.bool false)))⟩])
 (.seq (.seq (.ops [⟨(some 17), some undefA, none, false, .pu (.mov (.s 0))⟩,
   ⟨(some 18), some undefA, none, false, .call 18 [(.s 17), (.c (.nilS))]⟩,
   ⟨(some 19), some undefA, none, false, .pu (.mov (.s 18))⟩,
   ⟨(some 20), some undefA, (some (19, false)), false, .pu (.mov (.s 1))⟩,
   ⟨(some 21), some undefA, (some (19, false)), false, .pu (.len (.s 20))⟩,
   ⟨(some 22), some undefA, (some (19, false)), false, .pu (.bin .gtr (.s 21) (.c (.int .i64 100)))⟩,
   ⟨(some 23), some undefA, none, false, .pu (.pick (.s 19) (.c (.bool true)) (.s 22))⟩])
 (.cond (.s 23) (.seq (.ops [⟨(some 24), some undefA, none, false, .call 19 []⟩,
    ⟨(some 4), some undefA, none, false, .pu (.mov (.s 24))⟩])
  (.ret))
 (.skip)))
 (.seq (.ops [⟨(some 26), some undefA, none, false, .pu (.mov (.s 0))⟩,
   ⟨(some 27), some undefA, none, false, .pu (.mov (.s 1))⟩,
   ⟨(some 28), some undefA, none, false, .call 50 [(.s 26), (.s 27)]⟩,
   ⟨(some 25), some undefA, none, false, .pu (.mov (.s 28))⟩,
   ⟨(some 29), some undefA, none, false, .pu (.extr 0 (.s 25))⟩,
   ⟨(some 30), some undefA, none, false, .pu (.extr 1 (.s 25))⟩,
   ⟨(some 5), some undefA, none, false, .pu (.mov (.s 29))⟩,
   ⟨(some 6), some undefA, none, false, .pu (.mov (.s 30))⟩])
 (.seq (.ops [⟨(some 32), some undefA, none, false, .pu (.mov (.s 0))⟩,
   ⟨(some 33), some undefA, none, false, .call 52 [(.s 32)]⟩,
   ⟨(some 31), some undefA, none, false, .pu (.mov (.s 33))⟩,
   ⟨(some 34), some undefA, none, false, .pu (.extr 0 (.s 31))⟩,
   ⟨(some 35), some undefA, none, false, .pu (.extr 1 (.s 31))⟩,
   ⟨(some 7), some undefA, none, false, .pu (.mov (.s 34))⟩,
   ⟨(some 8), some undefA, none, false, .pu (.mov (.s 35))⟩])
 (.seq (.ops [⟨(some 37), some undefA, none, false, .pu (.mov (.s 0))⟩,
   ⟨(some 38), some undefA, none, false, .call 31 [(.s 37)]⟩,
   ⟨(some 36), some undefA, none, false, .pu (.mov (.s 38))⟩,
   ⟨(some 39), some undefA, none, false, .pu (.extr 0 (.s 36))⟩,
   ⟨(some 40), some undefA, none, false, .pu (.extr 1 (.s 36))⟩,
   ⟨(some 9), some undefA, none, false, .pu (.mov (.s 39))⟩,
   ⟨(some 10), some undefA, none, false, .pu (.mov (.s 40))⟩])
 (.seq (.seq (.ops [⟨(some 41), some undefA, none, false, .pu (.mov (.s 6))⟩,
   ⟨(some 42), some undefA, none, false, .pu (.bin .neq (.s 41) (.c (.int .i64 0)))⟩])
 (.cond (.s 42) (.seq (.ops [⟨(some 43), some undefA, none, false, .call 19 []⟩,
    ⟨(some 4), some undefA, none, false, .pu (.mov (.s 43))⟩])
  (.ret))
 (.skip)))
 (.seq (.seq (.ops [⟨(some 11), some undefA, none, false, .pu (.mov (.c (.int .i64 0)))⟩])
 (.block 0 (.loop (.seq (.seq (.ops [⟨(some 44), some undefA, none, false, .pu (.mov (.s 11))⟩,
     ⟨(some 45), some undefA, none, false, .pu (.mov (.s 0))⟩,
     ⟨(some 46), some undefA, none, false, .pu (.len (.s 45))⟩,
     ⟨(some 47), some undefA, none, false, .pu (.bin .lss (.s 44) (.s 46))⟩])
   (.cond (.s 47) (.skip)
   (.exit 0)))
   (.seq (.block 1 (.seq (.ops [⟨(some 50), some undefA, none, false, .pu (.mov (.s 0))⟩,
      ⟨(some 51), some undefA, none, false, .pu (.mov (.s 11))⟩,
      ⟨(some 52), some undefA, none, false, .pu (.idx 2 (.s 50) (.s 51))⟩,
      ⟨(some 53), some undefA, none, false, .pu (.fad 1 (.s 52))⟩,
      ⟨(some 54), some undefA, none, false, .ld (.ld 1 false (.s 53))⟩,
      ⟨(some 55), some undefA, none, false, .pu (.bin .eql (.s 54) (.c (.int .i64 0)))⟩])
    (.cond (.s 55) (.seq (.ops [⟨(some 56), some undefA, none, false, .call 19 []⟩,
       ⟨(some 4), some undefA, none, false, .pu (.mov (.s 56))⟩])
     (.ret))
    (.skip))))
   (.ops [⟨(some 48), some undefA, none, false, .pu (.mov (.s 11))⟩,
     ⟨(some 49), some undefA, none, false, .pu (.bin .add (.s 48) (.c (.int .i64 1)))⟩,
     ⟨(some 11), some undefA, none, false, .pu (.mov (.s 49))⟩]))))))
 (.seq (.ops [⟨(some 12), some undefA, none, false, .pu (.mov (.c (.nilS)))⟩])
 (.seq (.seq (.ops [⟨(some 57), some undefA, none, false, .pu (.mov (.s 1))⟩,
   ⟨(some 58), some undefA, none, false, .pu (.len (.s 57))⟩,
   ⟨(some 59), some undefA, none, false, .pu (.bin .sub (.s 58) (.c (.int .i64 1)))⟩,
   ⟨(some 13), some undefA, none, false, .pu (.mov (.s 59))⟩])
 (.block 2 (.loop (.seq (.seq (.ops [⟨(some 60), some undefA, none, false, .pu (.mov (.s 13))⟩,
     ⟨(some 61), some undefA, none, false, .pu (.bin .geq (.s 60) (.c (.int .i64 0)))⟩])
   (.cond (.s 61) (.skip)
   (.exit 2)))
   (.seq (.block 3 (.ops [⟨(some 64), some undefA, none, false, .pu (.mov (.s 12))⟩,
      ⟨(some 65), some undefA, none, false, .pu (.mov (.s 1))⟩,
      ⟨(some 66), some undefA, none, false, .pu (.mov (.s 13))⟩,
      ⟨(some 67), some undefA, none, false, .pu (.idx 1 (.s 65) (.s 66))⟩,
      ⟨(some 68), some undefA, none, false, .ld (.ld 1 false (.s 67))⟩,
      ⟨(some 69), some undefA, none, false, .ha (.blds 1 1 [.int .i64 0] [(0, 1, (.s 68))])⟩,
      ⟨(some 70), some undefA, none, false, .ha (.app 1 (.s 64) (.s 69))⟩,
      ⟨(some 12), some undefA, none, false, .pu (.mov (.s 70))⟩]))
   (.ops [⟨(some 62), some undefA, none, false, .pu (.mov (.s 13))⟩,
     ⟨(some 63), some undefA, none, false, .pu (.bin .sub (.s 62) (.c (.int .i64 1)))⟩,
     ⟨(some 13), some undefA, none, false, .pu (.mov (.s 63))⟩]))))))
 (.seq (.ops [⟨(some 72), some undefA, none, false, .pu (.mov (.s 7))⟩,
   ⟨(some 73), some undefA, none, false, .pu (.mov (.s 12))⟩,
   ⟨(some 74), some undefA, none, false, .call 50 [(.s 72), (.s 73)]⟩,
   ⟨(some 71), some undefA, none, false, .pu (.mov (.s 74))⟩,
   ⟨(some 75), some undefA, none, false, .pu (.extr 0 (.s 71))⟩,
   ⟨(some 76), some undefA, none, false, .pu (.extr 1 (.s 71))⟩,
   ⟨(some 14), some undefA, none, false, .pu (.mov (.s 75))⟩,
   ⟨(some 15), some undefA, none, false, .pu (.mov (.s 76))⟩])
 (.seq (.seq (.ops [⟨(some 77), some undefA, none, false, .pu (.mov (.s 8))⟩,
   ⟨(some 78), some undefA, none, false, .pu (.bin .neq (.s 77) (.c (.int .i64 0)))⟩,
   ⟨(some 79), some undefA, none, false, .pu (.mov (.s 78))⟩,
   ⟨(some 80), some undefA, (some (79, false)), false, .pu (.mov (.s 10))⟩,
   ⟨(some 81), some undefA, (some (79, false)), false, .pu (.bin .neq (.s 80) (.c (.int .i64 0)))⟩,
   ⟨(some 82), some undefA, none, false, .pu (.pick (.s 79) (.c (.bool true)) (.s 81))⟩,
   ⟨(some 83), some undefA, none, false, .pu (.mov (.s 82))⟩,
   ⟨(some 84), some undefA, (some (83, false)), false, .pu (.mov (.s 15))⟩,
   ⟨(some 85), some undefA, (some (83, false)), false, .pu (.bin .neq (.s 84) (.c (.int .i64 0)))⟩,
   ⟨(some 86), some undefA, none, false, .pu (.pick (.s 83) (.c (.bool true)) (.s 85))⟩,
   ⟨(some 87), some undefA, none, false, .pu (.mov (.s 86))⟩,
   ⟨(some 88), some undefA, (some (87, false)), false, .pu (.mov (.s 14))⟩,
   ⟨(some 89), some undefA, (some (87, false)), false, .pu (.len (.s 88))⟩,
   ⟨(some 90), some undefA, (some (87, false)), false, .pu (.mov (.s 5))⟩,
   ⟨(some 91), some undefA, (some (87, false)), false, .pu (.len (.s 90))⟩,
   ⟨(some 92), some undefA, (some (87, false)), false, .pu (.bin .neq (.s 89) (.s 91))⟩,
   ⟨(some 93), some undefA, none, false, .pu (.pick (.s 87) (.c (.bool true)) (.s 92))⟩,
   ⟨(some 94), some undefA, none, false, .pu (.mov (.s 93))⟩,
   ⟨(some 95), some undefA, (some (94, false)), false, .pu (.mov (.s 5))⟩,
   ⟨(some 96), some undefA, (some (94, false)), false, .call 23 [(.s 95)]⟩,
   ⟨(some 97), some undefA, (some (94, false)), false, .pu (.not (.s 96))⟩,
   ⟨(some 98), some undefA, none, false, .pu (.pick (.s 94) (.c (.bool true)) (.s 97))⟩])
 (.cond (.s 98) (.seq (.ops [⟨(some 4), some undefA, none, false, .pu (.mov (.c (.bool false)))⟩])
  (.ret))
 (.skip)))
 (.seq (.seq (.ops [⟨(some 16), some undefA, none, false, .pu (.mov (.c (.int .i64 0)))⟩])
 (.block 4 (.loop (.seq (.seq (.ops [⟨(some 99), some undefA, none, false, .pu (.mov (.s 16))⟩,
     ⟨(some 100), some undefA, none, false, .pu (.mov (.s 5))⟩,
     ⟨(some 101), some undefA, none, false, .pu (.len (.s 100))⟩,
     ⟨(some 102), some undefA, none, false, .pu (.bin .lss (.s 99) (.s 101))⟩])
   (.cond (.s 102) (.skip)
   (.exit 4)))
   (.seq (.block 5 (.seq (.ops [⟨(some 105), some undefA, none, false, .pu (.mov (.s 5))⟩,
      ⟨(some 106), some undefA, none, false, .pu (.mov (.s 16))⟩,
      ⟨(some 107), some undefA, none, false, .pu (.idx 2 (.s 105) (.s 106))⟩,
      ⟨(some 108), some undefA, none, false, .pu (.fad 1 (.s 107))⟩,
      ⟨(some 109), some undefA, none, true, .ld (.ld 1 false (.s 108))⟩,
      ⟨(some 110), some undefA, none, false, .pu (.bin .lss (.s 109) (.c (.int .i64 1)))⟩,
      ⟨(some 111), some undefA, none, false, .pu (.mov (.s 110))⟩,
      ⟨(some 112), some undefA, (some (111, false)), true, .pu (.mov (.s 14))⟩,
      ⟨(some 113), some undefA, (some (111, false)), true, .pu (.mov (.s 14))⟩,
      ⟨(some 114), some undefA, (some (111, false)), true, .pu (.len (.s 113))⟩,
      ⟨(some 115), some undefA, (some (111, false)), true, .pu (.bin .sub (.s 114) (.c (.int .i64 1)))⟩,
      ⟨(some 116), some undefA, (some (111, false)), true, .pu (.mov (.s 16))⟩,
      ⟨(some 117), some undefA, (some (111, false)), true, .pu (.bin .sub (.s 115) (.s 116))⟩,
      ⟨(some 118), some undefA, (some (111, false)), true, .pu (.idx 2 (.s 112) (.s 117))⟩,
      ⟨(some 119), some undefA, (some (111, false)), true, .ld (.ld 2 true (.s 118))⟩,
      ⟨(some 120), some undefA, (some (111, false)), true, .pu (.mov (.s 9))⟩,
      ⟨(some 121), some undefA, (some (111, false)), true, .call 30 [(.s 120)]⟩,
      ⟨(some 122), some undefA, (some (111, false)), true, .pu (.mov (.s 5))⟩,
      ⟨(some 123), some undefA, (some (111, false)), true, .pu (.mov (.s 16))⟩,
      ⟨(some 124), some undefA, (some (111, false)), true, .pu (.idx 2 (.s 122) (.s 123))⟩,
      ⟨(some 125), some undefA, (some (111, false)), true, .ld (.ld 2 true (.s 124))⟩,
      ⟨(some 126), some undefA, (some (111, false)), true, .call 53 [(.s 121), (.s 125)]⟩,
      ⟨(some 127), some undefA, (some (111, false)), false, .pu (.eqs true [true, true] (.s 119) (.s 126))⟩,
      ⟨(some 128), some undefA, none, false, .pu (.pick (.s 111) (.c (.bool true)) (.s 127))⟩])
    (.cond (.s 128) (.seq (.ops [⟨(some 4), some undefA, none, false, .pu (.mov (.c (.bool false)))⟩])
     (.ret))
    (.skip))))
   (.ops [⟨(some 103), some undefA, none, false, .pu (.mov (.s 16))⟩,
     ⟨(some 104), some undefA, none, false, .pu (.bin .add (.s 103) (.c (.int .i64 1)))⟩,
     ⟨(some 16), some undefA, none, false, .pu (.mov (.s 104))⟩]))))))
 (.seq (.ops [⟨(some 129), some undefA, none, false, .call 19 []⟩,
   ⟨(some 4), some undefA, none, false, .pu (.mov (.s 129))⟩])
 (.ret)))))))))))))⟩
theorem t13 : trF Try.prog [] [] Try.f13 = some m13 := by kernel_rfl
end Go.Proofs.Ytnnbggcckabhdaa

namespace Go.Proofs.Ytnnbggcckabhdaa
open Go Go.Eng
/-- The cuts that are made. -/
theorem cuL_get {f : List (Int × Int)} {ps : List Int} (hE : paE f ps = 0) : (cuL f ps).length + 1 = ps.length ∧ ∀ k, k < (cuL f ps).length → (cuL f ps)[k]? = some (pR (cA f ps (k + 1))) := by
  obtain ⟨h0, h1, hfit⟩ := paE_0 hE
  unfold cuL
  rw [if_pos hE]
  refine ⟨by simp; omega, fun k hk => ?_⟩
  simp only [List.length_map, List.length_range] at hk
  rw [List.getElem?_map, List.getElem?_range hk]; rfl
end Go.Proofs.Ytnnbggcckabhdaa

namespace Go.Proofs.Ytnnbggcckabhdaa
open Go Go.Eng
theorem ArgA.cuts {H : AHeap} {v : AV} (h : ArgA H (true, [.sl 1 [.int .i64], .sl 2 [.int .i64, .int .i64]]) v) : ∃ (a b : AV) (xs : List Int) (cs : List (Int × Int)), v = .agg [a, b] ∧ L1 H a xs ∧ L2 H b cs ∧ ∀ r ∈ cs, W r.1 := by
  obtain ⟨l, rfl, hl, h⟩ := h
  match l, hl with
  | [x, y], _ =>
    obtain ⟨xs, h1, h2, _⟩ := (h 0 _ x rfl rfl).ints
    obtain ⟨cs, h3, h4, h5⟩ := (h 1 _ y rfl rfl).pairs
    exact ⟨x, y, xs, cs, rfl, h1, h3, fun r hr => (h5 r hr).1⟩
theorem sum_rev : ∀ l : List Int, l.reverse.sum = l.sum
  | [] => rfl
  | a :: l => by rw [List.reverse_cons, List.sum_append, sum_rev l]; simp; omega
theorem prs_rev (ps : List Int) (j : Nat) (hj : j ≤ ps.length) : prs ps.reverse j = ps.sum - prs ps (ps.length - j) := by
  unfold prs
  rw [List.take_reverse, sum_rev]
  have := List.take_append_drop (ps.length - j) ps
  have h2 : (ps.take (ps.length - j)).sum + (ps.drop (ps.length - j)).sum = ps.sum := by rw [← List.sum_append, this]
  omega
theorem pa_rev {f : List (Int × Int)} {ps : List Int} (hE : paE f ps = 0) : paE f.reverse ps.reverse = 0 := by
  obtain ⟨h0, h1, hfit⟩ := paE_0 hE
  obtain ⟨hg, h2⟩ := good_of h0
  have hv : vE f.reverse = 0 := vE_good (by simp; have := hg.1; omega) (by rw [List.all_reverse]; exact hg.2)
  unfold paE
  rw [if_pos hv, if_pos (by simp; omega), if_pos (show ∀ p ∈ ps.reverse, inQ p from fun p hp => hfit.1 p (List.mem_reverse.1 hp)), if_pos (by rw [sum_rev, tot_rev]; exact hfit.2)]
/-- What the cuts of the turned field are worth up to. -/
theorem mirror_worth {f : List (Int × Int)} {ps : List Int} (hE : paE f ps = 0) (j : Nat) (hj : j ≤ ps.length) :
    (0 ≤ ((len f : Int) : Rat) - cA f.reverse ps.reverse j ∧ ((len f : Int) : Rat) - cA f.reverse ps.reverse j ≤ ((len f : Int) : Rat)) ∧ upTo 0 f (((len f : Int) : Rat) - cA f.reverse ps.reverse j) = ((prs ps (ps.length - j) : Int) : Rat) := by
  have hE2 := pa_rev hE
  obtain ⟨h0, h1, hfit⟩ := paE_0 hE
  obtain ⟨h02, h12, hfit2⟩ := paE_0 hE2
  have hg := (good_of h0).1
  have hg2 := (good_of h02).1
  obtain ⟨a1, a2, _⟩ := cA_facts hg2 hfit2 j (by simpa using hj)
  rw [len_rev] at a1
  have h3 := upTo_rev (cA f.reverse ps.reverse j) f (all_pos hg.2)
  rw [a2, prs_rev ps j hj, hfit.2, Rat.intCast_sub] at h3
  exact ⟨⟨by grind, by grind⟩, by grind⟩
theorem mirror {f : List (Int × Int)} {ps : List Int} (hE : paE f ps = 0) (h2 : ∀ z ∈ f, 1 ≤ z.2) (j : Nat) (hj : j ≤ ps.length) : cA f.reverse ps.reverse j = ((len f : Int) : Rat) - cA f ps (ps.length - j) := by
  obtain ⟨h0, h1, hfit⟩ := paE_0 hE
  have hg := (good_of h0).1
  obtain ⟨m1, m2⟩ := mirror_worth hE j hj
  obtain ⟨a1, a2, _⟩ := cA_facts hg hfit (ps.length - j) (by omega)
  have := upTo_inj (all_pos hg.2) h2 m1 a1 (by rw [m2, a2])
  grind
theorem cuL_fair {f : List (Int × Int)} {ps : List Int} : ∀ r ∈ cuL f ps, fairR r ∧ r.2 ≤ 20 := by
  intro r hr
  by_cases hE : paE f ps = 0
  · obtain ⟨h0, h1, hfit⟩ := paE_0 hE
    have hg := (good_of h0).1
    have hlb := len_bound hg
    unfold cuL at hr
    rw [if_pos hE] at hr
    obtain ⟨k, hk, rfl⟩ := List.mem_map.1 hr
    have hk := List.mem_range.1 hk
    obtain ⟨b1, _, b3⟩ := cA_facts hg hfit (k + 1) (by omega)
    have hsm := ((Pl.of b1.1 b1.2 (by omega)).sm hg).1
    have := den_pos (cA f ps (k + 1))
    exact ⟨⟨by simp only; omega, by simp only; omega⟩, b3⟩
  · unfold cuL at hr
    rw [if_neg hE] at hr
    simp at hr
/-- A list of numbers, turned. -/
theorem rev_get {α : Type} {ps : List α} {i : Nat} (hi : i < ps.length) : ps.reverse[i]? = ps[ps.length - 1 - i]? := List.getElem?_reverse hi
set_option maxRecDepth 100000 in
set_option maxHeartbeats 4000000 in
theorem s13 {f : List (Int × Int)} {ps : List Int} {v u : AV} {A : AHeap} (hf : L2 A v f) (hp : L1 A u ps) : ACalls Try.prog 13 [v, u] A (B true) A := by
  refine acalls hmix Try.func13 (by kernel_rfl) t13 2 rfl (by decide) ?_
  dsimp only [m13]
  simp (maxSteps := 4000000) -implicitDefEqProofs -dsimp (disch := omega) only [↓AW_ops, ↓AW_seq, ↓AOps_nil, ↓AOps_pu, ↓AOps_call, on_some, ↓then_normal, pval, rd_S, rd_C, put_S, List.replicate_succ, List.replicate_zero, List.set_cons_zero, List.set_cons_succ, List.getElem?_cons_zero, List.getElem?_cons_succ, Option.getD_some, map_c, map_n, Nat.reduceSub, List.cons_append, List.nil_append]
  refine CallK.of (s18 hf (L2_nil A)) ?_
  by_cases h : (100 : Int) < f.length
  · simp (maxSteps := 4000000) -implicitDefEqProofs -dsimp (disch := omega) only [↓AW_ops, ↓AW_seq, ↓AW_cond, ↓AOps_nil, ↓AOps_pu, ↓AOps_call, ↓AOps_guard, on_some, extK_same, guardB_tf, skipS_some, condB_t, ↓then_normal, pval, rd_S, rd_C, put_S, eq_self, List.replicate_succ, List.replicate_zero, List.set_cons_zero, List.set_cons_succ, List.getElem?_cons_zero, List.getElem?_cons_succ, Option.getD_some, map_n, List.length_nil, Nat.reduceSub, List.cons_append, List.nil_append, if_true, decide_true, h, true_or]
    refine CallK.of (known A) ?_
    simp (maxSteps := 4000000) -implicitDefEqProofs -dsimp (disch := omega) only [↓AW_ret, ↓AOps_nil, ↓AOps_pu, on_some, extK_same, skipS_some, ↓then_normal, ↓then_ret, ↓Fin_ret, pval, rd_S, put_S, resV, resL, List.replicate_succ, List.replicate_zero, List.set_cons_zero, List.set_cons_succ, List.getElem?_cons_zero, List.getElem?_cons_succ, Option.getD_some, List.length_nil, Nat.reduceSub, List.cons_append, List.nil_append]
    exact gc_same rfl
  · by_cases hpl : (100 : Int) < ps.length
    · simp (maxSteps := 4000000) -implicitDefEqProofs -dsimp (disch := omega) only [↓AW_ops, ↓AW_seq, ↓AW_cond, ↓AOps_nil, ↓AOps_pu, ↓AOps_call, ↓AOps_guard, on_some, extK_same, guardB_ff, condB_t, ↓then_normal, pval, rd_S, rd_C, put_S, List.replicate_succ, List.replicate_zero, List.set_cons_zero, List.set_cons_succ, List.getElem?_cons_zero, List.getElem?_cons_succ, Option.getD_some, map_n, List.length_nil, Nat.reduceSub, List.cons_append, List.nil_append, bin_gtr, if_false, Bool.false_eq_true, decide_true, decide_false, Int.reduceLT, h, false_or, Int.cast_ofNat_Int, hp.len, hpl]
      refine CallK.of (known A) ?_
      simp (maxSteps := 4000000) -implicitDefEqProofs -dsimp (disch := omega) only [↓AW_ret, ↓AOps_nil, ↓AOps_pu, on_some, extK_same, ↓then_normal, ↓then_ret, ↓Fin_ret, pval, rd_S, put_S, resV, resL, List.replicate_succ, List.replicate_zero, List.set_cons_zero, List.set_cons_succ, List.getElem?_cons_zero, List.getElem?_cons_succ, Option.getD_some, List.length_nil, Nat.reduceSub, List.cons_append, List.nil_append]
      exact gc_same rfl
    · simp (maxSteps := 4000000) -implicitDefEqProofs -dsimp (disch := omega) only [↓AW_skip, ↓AW_ops, ↓AW_seq, ↓AW_cond, ↓AOps_nil, ↓AOps_pu, ↓AOps_call, ↓AOps_guard, on_some, extK_same, guardB_ff, condB_f, ↓then_normal, pval, rd_S, rd_C, put_S, List.replicate_succ, List.replicate_zero, List.set_cons_zero, List.set_cons_succ, List.getElem?_cons_zero, List.getElem?_cons_succ, Option.getD_some, map_c, map_n, List.length_nil, Nat.reduceSub, List.cons_append, List.nil_append, bin_gtr, if_false, Bool.false_eq_true, decide_false, Int.reduceLT, h, false_or, Int.cast_ofNat_Int, hp.len, hpl]
      refine CallK.of (s50 hf hp) ?_
      have p1 := pre_out A ((cuL f ps).flatMap Go.Eng.e2) (cuL f ps).length
      have hL1 := Ls_out A e2_len (cuL f ps)
      generalize outH A ((cuL f ps).flatMap Go.Eng.e2) (cuL f ps).length = A1 at *
      generalize outV 2 A (cuL f ps).length = y1 at *
      simp (maxSteps := 4000000) -implicitDefEqProofs -dsimp (disch := omega) only [↓AW_ops, ↓AW_seq, ↓AOps_nil, ↓AOps_pu, ↓AOps_call, on_some, extK_false, ↓then_normal, pval, rd_S, put_S, List.replicate_succ, List.replicate_zero, List.set_cons_zero, List.set_cons_succ, List.getElem?_cons_zero, List.getElem?_cons_succ, Option.getD_some, map_c, map_n, List.length_nil, Nat.reduceSub, List.cons_append, List.nil_append]
      refine CallK.of (s52 (hf.mono p1)) ?_
      have p2 := pre_out A1 ((tuL f).flatMap Go.Eng.e2) (tuL f).length
      have hL2 := Ls_out A1 e2_len (tuL f)
      generalize outH A1 ((tuL f).flatMap Go.Eng.e2) (tuL f).length = A2 at *
      generalize outV 2 A1 (tuL f).length = y2 at *
      have p12 := p1.trans p2
      have hf2 := hf.mono p12
      have hp2 := hp.mono p12
      have hc2 := hL1.mono p2
      simp (maxSteps := 4000000) -implicitDefEqProofs -dsimp (disch := omega) only [↓AW_ops, ↓AW_seq, ↓AOps_nil, ↓AOps_pu, ↓AOps_call, on_some, extK_false, ↓then_normal, pval, rd_S, put_S, List.replicate_succ, List.replicate_zero, List.set_cons_zero, List.set_cons_succ, List.getElem?_cons_zero, List.getElem?_cons_succ, Option.getD_some, map_c, map_n, List.length_nil, Nat.reduceSub, List.cons_append, List.nil_append]
      refine CallK.of (s31 hf2) ?_
      by_cases hE : paE f ps = 0
      · obtain ⟨h0, h1, hfit⟩ := paE_0 hE
        have hg := (good_of h0).1
        have hlb := len_bound hg
        have hT : tuL f = f.reverse := by unfold tuL; rw [if_pos h0]
        rw [hT] at hL2
        simp (maxSteps := 4000000) -implicitDefEqProofs -dsimp (disch := omega) only [↓AW_skip, ↓AW_ops, ↓AW_seq, ↓AW_cond, ↓AW_block, ↓AOps_nil, ↓AOps_pu, on_some, extK_same, condB_f, ↓then_normal, pval, rd_S, rd_C, put_S, ↓AW_toLoop, eq_self, List.replicate_succ, List.replicate_zero, List.set_cons_zero, List.set_cons_succ, List.getElem?_cons_zero, List.getElem?_cons_succ, Option.getD_some, List.length_nil, Nat.reduceSub, List.cons_append, List.nil_append, bin_neq, if_true, decide_false, not_true_eq_false, hE, h0]
        refine LoopK.by 130 (fun i : Nat => i ≤ f.length ∧ ∀ z ∈ f.take i, z.2 ≠ 0) (fun i => [(0, v), (1, u), (5, y1), (7, y2), (8, I 0), (9, I (len f)), (10, I 0), (11, I i)]) (fun _ => A2) (fun i => f.length - i) 0 ⟨by omega, by simp⟩ rfl (by simp [Has, rd_s]) rfl ?_
        rintro i ⟨hi, he⟩
        by_cases hlt : i < f.length
        · obtain ⟨z, hz⟩ : ∃ z, f[i]? = some z := ⟨_, List.getElem?_eq_getElem hlt⟩
          have hlt' : (i : Int) < f.length := by omega
          by_cases hz0 : z.2 = 0
          · simp (maxSteps := 4000000) -implicitDefEqProofs -dsimp (disch := omega) only [↓AW_skip, ↓AW_ops, ↓AW_seq, ↓AW_cond, ↓AW_block, ↓AOps_nil, ↓AOps_pu, ↓AOps_ld, ↓AOps_call, on_some, condB_t, ↓then_normal, pval, lval, rd_S, rd_C, put_S, partA, eq_self, mk, List.foldl_cons, List.foldl_nil, List.replicate_succ, List.replicate_zero, List.set_cons_zero, List.set_cons_succ, List.getElem?_cons_zero, List.getElem?_cons_succ, List.drop_zero, List.drop_succ_cons, List.take_succ_cons, List.take_nil, Option.getD_some, map_n, List.length_cons, List.length_nil, Nat.reduceAdd, Nat.reduceLeDiff, Nat.zero_add, bin_eql, bin_lss, if_true, if_false, Bool.false_eq_true, decide_true, Go.Eng.e2, hlt', hf2.len, hf2.idx hlt, hf2.ld hz 1 1 false (by decide), hz0]
            refine CallK.of (known _) ?_
            simp (maxSteps := 4000000) -implicitDefEqProofs -dsimp (disch := omega) only [↓AW_ret, ↓AOps_nil, ↓AOps_pu, on_some, extK_same, ↓then_normal, ↓then_ret, ↓inBlock_ret, ↓Fin_ret, pval, rd_S, put_S, resV, resL, mk, List.foldl_cons, List.foldl_nil, List.replicate_succ, List.replicate_zero, List.set_cons_zero, List.set_cons_succ, List.getElem?_cons_zero, List.getElem?_cons_succ, Option.getD_some]
            exact gc_val p12 rfl
          · simp (maxSteps := 4000000) -implicitDefEqProofs -dsimp (disch := omega) only [↓AW_skip, ↓AW_ops, ↓AW_seq, ↓AW_cond, ↓AW_block, ↓AOps_nil, ↓AOps_pu, ↓AOps_ld, on_some, condB_t, condB_f, ↓then_normal, ↓inBlock_normal, pval, lval, rd_S, rd_C, put_S, partA, eq_self, mk, List.foldl_cons, List.foldl_nil, List.replicate_succ, List.replicate_zero, List.set_cons_zero, List.set_cons_succ, List.getElem?_cons_zero, List.getElem?_cons_succ, List.drop_zero, List.drop_succ_cons, List.take_succ_cons, List.take_nil, Option.getD_some, List.length_cons, List.length_nil, Nat.reduceAdd, Nat.reduceLeDiff, Nat.zero_add, bin_add, bin_eql, bin_lss, w64, if_true, if_false, Bool.false_eq_true, decide_true, decide_false, Go.Eng.e2, true_and, ne_eq, hlt', hf2.len, hf2.idx hlt, hf2.ld hz 1 1 false (by decide), hz0]
            exact ⟨i + 1, ⟨hlt, take_all2 he hz hz0⟩, by simp [Has, rd_s], by omega⟩
        · have hlt' : ¬ ((i : Int) < f.length) := by omega
          rw [List.take_of_length_le (by omega)] at he
          have hone : ∀ z ∈ f, 1 ≤ z.2 := fun z hz => by
            have h3 := (vz_iff z).1 (List.all_eq_true.1 hg.2 z hz)
            have := he z hz
            omega
          obtain ⟨c1, c2⟩ := cuL_get hE
          have hE2 := pa_rev hE
          obtain ⟨d1, d2⟩ := cuL_get hE2
          rw [List.length_reverse] at d1
          simp (maxSteps := 4000000) -implicitDefEqProofs -dsimp (disch := omega) only [↓AW_ops, ↓AW_seq, ↓AW_cond, ↓AW_block, ↓AW_exit, ↓AOps_nil, ↓AOps_pu, on_some, condB_f, ↓then_normal, ↓then_exit, ↓inBlock_exit, pval, rd_S, rd_C, put_S, ↓AW_toLoop, eq_self, mk, List.foldl_cons, List.foldl_nil, List.replicate_succ, List.replicate_zero, List.set_cons_zero, List.set_cons_succ, List.getElem?_cons_zero, List.getElem?_cons_succ, Option.getD_some, bin_sub, bin_lss, w64, if_true, decide_false, hlt', hf2.len, hp2.len]
          refine LoopK.by 130 (fun x : Nat × AV × AHeap => x.1 ≤ ps.length ∧ AccL 1 e1 A2 x.2.2 x.2.1 (ps.reverse.take x.1)) (fun x => [(1, u), (5, y1), (7, y2), (8, I 0), (9, I (len f)), (10, I 0), (12, x.2.1), (13, I ((ps.length : Int) - 1 - x.1))]) (fun x => x.2.2) (fun x => ps.length - x.1) (0, .nilS, A2) ⟨by simp only; omega, AccL.nil (List.prefix_refl _)⟩ rfl (by simp [Has, rd_s]) rfl ?_
          rintro ⟨k, o, A3⟩ ⟨hk, ho⟩
          simp only at hk ho
          have hp3 := hp2.mono ho.pre
          by_cases hltk : k < ps.length
          · have hj : (ps.length : Int) - 1 - k = ((ps.length - 1 - k : Nat) : Int) := by omega
            have hjl : ps.length - 1 - k < ps.length := by omega
            obtain ⟨z, hz⟩ : ∃ z, ps[ps.length - 1 - k]? = some z := ⟨_, List.getElem?_eq_getElem hjl⟩
            have hrz : ps.reverse[k]? = some z := by rw [rev_get hltk, hz]
            have hc0 : (0 : Int) ≤ ((ps.length - 1 - k : Nat) : Int) := by omega
            obtain ⟨v3, A4, happ, h3⟩ := ho.push e1_len z (by simp [lim]; omega)
            simp only [Go.Eng.e1] at happ
            generalize hJ : ps.length - 1 - k = j at *
            simp (maxSteps := 4000000) -implicitDefEqProofs -dsimp (disch := omega) only [↓AW_skip, ↓AW_ops, ↓AW_seq, ↓AW_cond, ↓AW_block, ↓AOps_nil, ↓AOps_pu, ↓AOps_ld, ↓AOps_ha, on_some, extK_false, extK_app, condB_t, ↓then_normal, ↓inBlock_normal, pval, lval, hval, rd_S, rd_C, put_S, AV.cells?, splice, partA, fillA, repl, eq_self, mk, List.foldl_cons, List.foldl_nil, List.replicate_succ, List.replicate_zero, List.set_cons_zero, List.set_cons_succ, List.getElem?_cons_zero, List.getElem?_cons_succ, List.drop_zero, List.drop_succ_cons, List.drop_nil, List.take_zero, List.take_succ_cons, List.take_nil, Option.getD_some, map_c, map_n, List.length_cons, List.length_nil, Nat.reduceAdd, Nat.reduceLeDiff, Nat.zero_add, List.nil_append, List.append_nil, bin_sub, bin_geq, w64, if_true, if_false, Bool.false_eq_true, decide_true, Go.Eng.e1, true_and, and_true, hj, hc0, hp3.idx hjl, hp3.ld0 hz 1 false (by decide), happ]
            refine ⟨(k + 1, v3, A4), ⟨hltk, ?_⟩, by simp [Has, rd_s]; omega, rfl, by simp only; omega⟩
            simp only
            rw [List.take_add_one, hrz]
            exact h3
          · have hneg : ¬ (0 : Int) ≤ (ps.length : Int) - 1 - k := by omega
            rw [List.take_of_length_le (by simp; omega)] at ho
            have hback := AccL_ls ho e1_len
            have hL3 := hL2.mono ho.pre
            have hcc := hc2.mono ho.pre
            simp (maxSteps := 4000000) -implicitDefEqProofs -dsimp (disch := omega) only [↓AW_ops, ↓AW_seq, ↓AW_cond, ↓AW_exit, ↓AOps_nil, ↓AOps_pu, ↓AOps_call, on_some, condB_f, ↓then_normal, ↓then_exit, ↓inBlock_exit, pval, rd_S, rd_C, put_S, eq_self, mk, List.foldl_cons, List.foldl_nil, List.replicate_succ, List.replicate_zero, List.set_cons_zero, List.set_cons_succ, List.getElem?_cons_zero, List.getElem?_cons_succ, Option.getD_some, map_c, map_n, bin_geq, if_true, decide_false, hneg]
            refine CallK.of (s50 hL3 hback) ?_
            rw [hE2]
            have p4 := pre_out A3 ((cuL f.reverse ps.reverse).flatMap Go.Eng.e2) (cuL f.reverse ps.reverse).length
            have hL4 := Ls_out A3 e2_len (cuL f.reverse ps.reverse)
            generalize outH A3 ((cuL f.reverse ps.reverse).flatMap Go.Eng.e2) (cuL f.reverse ps.reverse).length = A4 at *
            generalize outV 2 A3 (cuL f.reverse ps.reverse).length = y4 at *
            have hc4 := hcc.mono p4
            have pA4 := (p12.trans ho.pre).trans p4
            have hll : ((cuL f.reverse ps.reverse).length : Int) = (cuL f ps).length := by omega
            simp (maxSteps := 4000000) -implicitDefEqProofs -dsimp (disch := omega) only [↓AW_ops, ↓AW_seq, ↓AOps_nil, ↓AOps_pu, ↓AOps_call, ↓AOps_guard, on_some, extK_false, guardB_ff, ↓then_normal, pval, rd_S, rd_C, put_S, eq_self, mk, List.foldl_cons, List.foldl_nil, List.replicate_succ, List.replicate_zero, List.set_cons_zero, List.set_cons_succ, List.getElem?_cons_zero, List.getElem?_cons_succ, Option.getD_some, map_c, map_n, bin_neq, if_false, Bool.false_eq_true, decide_false, not_true_eq_false, hL4.len, hc4.len, hll]
            refine CallK.of (s23 hc4 (by omega)) ?_
            rw [decide_eq_true (show ∀ r ∈ cuL f ps, fairR r from fun r hr => (cuL_fair r hr).1)]
            simp (maxSteps := 4000000) -implicitDefEqProofs -dsimp (disch := omega) only [↓AW_skip, ↓AW_ops, ↓AW_seq, ↓AW_cond, ↓AW_block, ↓AOps_nil, ↓AOps_pu, ↓AOps_guard, on_some, extK_same, guardB_ff, condB_f, ↓then_normal, pval, rd_S, rd_C, put_S, ↓AW_toLoop, mk, List.foldl_cons, List.foldl_nil, List.replicate_succ, List.replicate_zero, List.set_cons_zero, List.set_cons_succ, List.getElem?_cons_zero, List.getElem?_cons_succ, Option.getD_some, if_false, Bool.false_eq_true, Bool.not_true]
            refine LoopK.by 130 (fun k : Nat => k ≤ (cuL f ps).length) (fun k => [(5, y1), (9, I (len f)), (14, y4), (16, I k)]) (fun _ => A4) (fun k => (cuL f ps).length - k) 0 (by omega) rfl (by simp [Has, rd_s]) rfl ?_
            intro k2 hk2
            by_cases hlt2 : k2 < (cuL f ps).length
            · have hlt2' : (k2 : Int) < (cuL f ps).length := by omega
              have hz := c2 k2 hlt2
              have hfz := cuL_fair _ (List.mem_of_getElem? hz)
              have hden : ¬ ((cA f ps (k2 + 1)).den : Int) < 1 := by have := den_pos (cA f ps (k2 + 1)); omega
              have hmn : (cuL f.reverse ps.reverse).length = (cuL f ps).length := by omega
              have hoi : (cuL f ps).length - 1 - k2 < (cuL f.reverse ps.reverse).length := by omega
              have hz2 := d2 _ hoi
              have hmir := mirror hE hone ((cuL f ps).length - 1 - k2 + 1) (by omega)
              have hidx : ps.length - ((cuL f ps).length - 1 - k2 + 1) = k2 + 1 := by omega
              rw [hmir, hidx] at hz2
              have hj : ((cuL f ps).length : Int) - 1 - k2 = (((cuL f ps).length - 1 - k2 : Nat) : Int) := by omega
              obtain ⟨a1, _, a3⟩ := cA_facts hg hfit (k2 + 1) (by omega)
              have hS := (Pl.of a1.1 a1.2 (by omega)).sm hg
              generalize hJ : (cuL f ps).length - 1 - k2 = j at *
              simp (maxSteps := 4000000) -implicitDefEqProofs -dsimp (disch := omega) only [↓AW_skip, ↓AW_ops, ↓AW_seq, ↓AW_cond, ↓AW_block, ↓AOps_nil, ↓AOps_pu, ↓AOps_ld, ↓AOps_call, ↓AOps_guard, on_some, guardB_ff, condB_t, ↓then_normal, pval, lval, rd_S, rd_C, put_S, partA, eq_self, mk, List.foldl_cons, List.foldl_nil, List.replicate_succ, List.replicate_zero, List.set_cons_zero, List.set_cons_succ, List.getElem?_cons_zero, List.getElem?_cons_succ, List.drop_zero, List.drop_succ_cons, List.take_succ_cons, List.take_nil, Option.getD_some, map_c, map_n, List.length_cons, List.length_nil, Nat.reduceAdd, Nat.reduceLeDiff, Nat.reduceEqDiff, Nat.zero_add, bin_sub, bin_lss, w64, if_true, if_false, Bool.false_eq_true, decide_true, decide_false, Go.Eng.e2, hlt2', hc4.len, hc4.idx hlt2, hc4.ld hz 1 1 false (by decide), hden, hL4.len, hll, hj, hL4.idx hoi, hL4.ld0 hz2 2 true (by decide)]
              refine CallK.of (s30 _ _) ?_
              simp (maxSteps := 4000000) -implicitDefEqProofs -dsimp (disch := omega) only [↓AOps_pu, ↓AOps_ld, ↓AOps_call, ↓AOps_guard, on_some, extK_same, guardB_ff, pval, lval, rd_S, put_S, partA, eq_self, mk, List.foldl_cons, List.foldl_nil, List.replicate_succ, List.replicate_zero, List.set_cons_zero, List.set_cons_succ, List.getElem?_cons_zero, List.getElem?_cons_succ, List.drop_zero, List.take_succ_cons, List.take_nil, Option.getD_some, map_c, map_n, List.length_cons, List.length_nil, Nat.reduceAdd, Nat.reduceLeDiff, Nat.reduceEqDiff, Nat.zero_add, if_true, if_false, Go.Eng.e2, hc4.idx hlt2, hc4.ld0 hz 2 true (by decide)]
              refine CallK.of (s53 _ _ _ (Sm_int (by omega)) hS) ?_
              simp (maxSteps := 4000000) -implicitDefEqProofs -dsimp (disch := omega) only [↓AW_skip, ↓AW_ops, ↓AW_cond, ↓AOps_nil, ↓AOps_pu, ↓AOps_guard, on_some, extK_same, guardB_ff, condB_f, ↓then_normal, ↓inBlock_normal, pval, rd_S, rd_C, put_S, eqc, beq_self_eq_true, eq_self, mk, List.foldl_cons, List.foldl_nil, List.replicate_succ, List.replicate_zero, List.set_cons_zero, List.set_cons_succ, List.getElem?_cons_zero, List.getElem?_cons_succ, Option.getD_some, Option.map_some, List.length_cons, List.length_nil, Nat.reduceAdd, Nat.zero_add, bin_add, w64, if_true, if_false, Bool.false_eq_true, Bool.not_true, Bool.true_and, true_and]
              exact ⟨k2 + 1, hlt2, by simp [Has, rd_s], by omega⟩
            · have hlt2' : ¬ ((k2 : Int) < (cuL f ps).length) := by omega
              simp (maxSteps := 4000000) -implicitDefEqProofs -dsimp (disch := omega) only [↓AW_ops, ↓AW_seq, ↓AW_cond, ↓AW_exit, ↓AOps_nil, ↓AOps_pu, ↓AOps_call, on_some, condB_f, ↓then_normal, ↓then_exit, ↓inBlock_exit, pval, rd_S, put_S, eq_self, mk, List.foldl_cons, List.foldl_nil, List.replicate_succ, List.replicate_zero, List.set_cons_zero, List.set_cons_succ, List.getElem?_cons_zero, List.getElem?_cons_succ, Option.getD_some, map_n, bin_lss, if_true, decide_false, hlt2', hc4.len]
              refine CallK.of (known _) ?_
              simp (maxSteps := 4000000) -implicitDefEqProofs -dsimp (disch := omega) only [↓AW_ret, ↓AOps_nil, ↓AOps_pu, on_some, extK_same, ↓then_normal, ↓Fin_ret, pval, rd_S, put_S, resV, resL, mk, List.foldl_cons, List.foldl_nil, List.replicate_succ, List.replicate_zero, List.set_cons_zero, List.set_cons_succ, List.getElem?_cons_zero, List.getElem?_cons_succ, Option.getD_some]
              exact gc_val pA4 rfl
      · simp (maxSteps := 4000000) -implicitDefEqProofs -dsimp (disch := omega) only [↓AW_ops, ↓AW_seq, ↓AW_cond, ↓AOps_nil, ↓AOps_pu, ↓AOps_call, on_some, extK_same, condB_t, ↓then_normal, pval, rd_S, rd_C, put_S, List.replicate_succ, List.replicate_zero, List.set_cons_zero, List.set_cons_succ, List.getElem?_cons_zero, List.getElem?_cons_succ, Option.getD_some, map_n, List.length_nil, Nat.reduceSub, List.cons_append, List.nil_append, bin_neq, decide_true, not_false_eq_true, hE]
        refine CallK.of (known _) ?_
        simp (maxSteps := 4000000) -implicitDefEqProofs -dsimp (disch := omega) only [↓AW_ret, ↓AOps_nil, ↓AOps_pu, on_some, extK_same, ↓then_normal, ↓then_ret, ↓Fin_ret, pval, rd_S, put_S, resV, resL, List.replicate_succ, List.replicate_zero, List.set_cons_zero, List.set_cons_succ, List.getElem?_cons_zero, List.getElem?_cons_succ, Option.getD_some, List.length_nil, Nat.reduceSub, List.cons_append, List.nil_append]
        exact gc_val p12 rfl
end Go.Proofs.Ytnnbggcckabhdaa

