/- What the law's proof rests on, part 4: for all that is said in each line. No conditions. -/
import Derived.Test.YtkgfcdpckfhknaaRows
import Derived.Test.YtkgfcdpckfhknaaCnA
namespace Go.Proofs.Ytkgfcdpckfhknaa
open Go Go.Eng
def e3 (x : Rd) : List AV := [I x.1, I x.2.1, I x.2.2]
abbrev L3 := Ls 3 e3
theorem e3_len (x : Rd) : (e3 x).length = 3 := rfl
theorem c0 : ((0 : Nat) : Int) = 0 := rfl
theorem c_w (n lo hi : Int) (A : AHeap) : ACalls Try.prog 76 [I n, I lo, I hi] A (B (decide (lo ≤ n ∧ n ≤ hi))) A := by
  refine acalls hmix Try.func76 (by kernel_rfl) t76 3 rfl (by decide) ?_
  by_cases h : lo ≤ n
  · dsimp only [m76]
    simp (maxSteps := 4000000) -implicitDefEqProofs -dsimp (disch := omega) only [↓AW_ops, ↓AW_seq, ↓AW_ret, ↓AOps_nil, ↓AOps_pu, ↓AOps_guard, on_some, guardB_tt, ↓then_normal, ↓Fin_ret, pval, rd_S, rd_C, put_S, resV, resL, eq_self, List.replicate_succ, List.replicate_zero, List.set_cons_zero, List.set_cons_succ, List.getElem?_cons_zero, List.getElem?_cons_succ, Option.getD_some, Nat.reduceSub, List.cons_append, List.nil_append, bin_leq, bin_geq, if_true, decide_true, true_and, h]
    exact gc_same rfl
  · dsimp only [m76]
    simp (maxSteps := 4000000) -implicitDefEqProofs -dsimp (disch := omega) only [↓AW_ops, ↓AW_seq, ↓AW_ret, ↓AOps_nil, ↓AOps_pu, ↓AOps_guard, on_some, guardB_ft, skipS_some, ↓then_normal, ↓Fin_ret, pval, rd_S, rd_C, put_S, resV, resL, List.replicate_succ, List.replicate_zero, List.set_cons_zero, List.set_cons_succ, List.getElem?_cons_zero, List.getElem?_cons_succ, Option.getD_some, Nat.reduceSub, List.cons_append, List.nil_append, bin_geq, if_false, Bool.false_eq_true, decide_false, h]
    exact gc_same rfl
/-- A road of a net of so many places. -/
def rK (P : Int) (r : Rd) : Prop := ((0 ≤ r.1 ∧ r.1 ≤ P - 1) ∧ (0 ≤ r.2.1 ∧ r.2.1 ≤ P - 1)) ∧ ¬ r.1 = r.2.1 ∧ 0 ≤ r.2.2 ∧ r.2.2 ≤ 99
instance rKdec (P : Int) (r : Rd) : Decidable (rK P r) := by unfold rK; infer_instance
/-- The error of a net. -/
def vE (P : Int) (rs : List Rd) : Int := if 1 ≤ P ∧ P ≤ 7 then (if (14 : Int) < rs.length then 3 else if ∀ r ∈ rs, rK P r then 0 else 1) else 1
structure Net (P : Int) (rs : List Rd) : Prop where
  p1 : 1 ≤ P
  p7 : P ≤ 7
  l : rs.length ≤ 14
  r : ∀ r ∈ rs, rK P r
theorem vE_0 {P : Int} {rs : List Rd} : vE P rs = 0 ↔ Net P rs := by
  unfold vE
  constructor
  · intro h
    split at h
    · rename_i h1
      split at h
      · cases h
      · rename_i h2
        split at h
        · rename_i h3; exact ⟨h1.1, h1.2, by omega, h3⟩
        · cases h
    · cases h
  · intro h
    have := h.p1
    have := h.p7
    have := h.l
    rw [if_pos ⟨h.p1, h.p7⟩, if_neg (by omega), if_pos h.r]
theorem all_take {α : Type} {p : α → Prop} {rs : List α} {i : Nat} {z : α} (h : ∀ r ∈ rs.take i, p r) (hz : rs[i]? = some z) (hp : p z) : ∀ r ∈ rs.take (i + 1), p r := by
  intro r hr
  rw [List.take_add_one, hz, List.mem_append] at hr
  rcases hr with hr | hr
  · exact h r hr
  · have : r = z := by simpa using hr
    rw [this]; exact hp
section
variable {P : Int} {rs : List Rd} {u v : AV} {A : AHeap}
set_option maxHeartbeats 8000000 in
theorem s28 (hu : L3 A u rs) (hW : W P) : ACalls Try.prog 28 [.agg [I P, u]] A (I (vE P rs)) A := by
  refine acalls hmix Try.func28 (by kernel_rfl) t28 1 rfl (by decide) ?_
  dsimp only [m28]
  simp (maxSteps := 4000000) -implicitDefEqProofs -dsimp (disch := omega) only [↓AW_ops, ↓AW_seq, ↓AOps_nil, ↓AOps_pu, ↓AOps_call, on_some, ↓then_normal, pval, rd_S, rd_C, put_S, chkd, isAdr, bgot, AV.cells?, partA, eq_self, List.replicate_succ, List.replicate_zero, List.set_cons_zero, List.set_cons_succ, List.getElem?_cons_zero, List.getElem?_cons_succ, List.drop_zero, List.take_zero, List.take_succ_cons, Option.getD_some, map_c, map_n, List.length_cons, List.length_nil, Nat.reduceAdd, Nat.reduceSub, Nat.reduceLeDiff, Nat.zero_add, List.cons_append, List.nil_append, if_true, if_false, Bool.false_eq_true]
  refine CallK.of (c_w _ _ _ _) ?_
  by_cases h1 : 1 ≤ P ∧ P ≤ 7
  case neg =>
    simp (maxSteps := 4000000) -implicitDefEqProofs -dsimp (disch := omega) only [↓AW_ops, ↓AW_seq, ↓AW_cond, ↓AW_ret, ↓AOps_nil, ↓AOps_pu, on_some, extK_same, condB_t, ↓then_normal, ↓then_ret, ↓Fin_ret, pval, rd_S, rd_C, put_S, resV, resL, List.replicate_succ, List.replicate_zero, List.set_cons_zero, List.set_cons_succ, List.getElem?_cons_zero, List.getElem?_cons_succ, Option.getD_some, Nat.reduceSub, List.cons_append, List.nil_append, Bool.not_false, decide_false, h1]
    exact gc_same (by unfold vE; rw [if_neg h1])
  by_cases h2 : (14 : Int) < rs.length
  · simp (maxSteps := 4000000) -implicitDefEqProofs -dsimp (disch := omega) only [↓AW_skip, ↓AW_ops, ↓AW_seq, ↓AW_cond, ↓AW_ret, ↓AOps_nil, ↓AOps_pu, on_some, extK_same, condB_t, condB_f, ↓then_normal, ↓then_ret, ↓Fin_ret, pval, rd_S, rd_C, put_S, resV, resL, chkd, isAdr, bgot, AV.cells?, partA, eq_self, List.replicate_succ, List.replicate_zero, List.set_cons_zero, List.set_cons_succ, List.getElem?_cons_zero, List.getElem?_cons_succ, List.drop_zero, List.drop_succ_cons, List.take_succ_cons, List.take_nil, Option.getD_some, List.length_cons, List.length_nil, Nat.reduceAdd, Nat.reduceSub, Nat.reduceLeDiff, Nat.zero_add, List.cons_append, List.nil_append, bin_gtr, if_true, if_false, Bool.false_eq_true, Bool.not_true, decide_true, and_true, h1, hu.len, h2]
    exact gc_same (by unfold vE; rw [if_pos h1, if_pos h2])
  simp (maxSteps := 4000000) -implicitDefEqProofs -dsimp (disch := omega) only [↓AW_skip, ↓AW_ops, ↓AW_seq, ↓AW_cond, ↓AW_block, ↓AOps_nil, ↓AOps_pu, on_some, extK_same, condB_f, ↓then_normal, pval, rd_S, rd_C, put_S, ↓AW_toLoop, chkd, isAdr, bgot, AV.cells?, partA, eq_self, List.replicate_succ, List.replicate_zero, List.set_cons_zero, List.set_cons_succ, List.getElem?_cons_zero, List.getElem?_cons_succ, List.drop_zero, List.drop_succ_cons, List.take_succ_cons, List.take_nil, Option.getD_some, List.length_cons, List.length_nil, Nat.reduceAdd, Nat.reduceSub, Nat.reduceLeDiff, Nat.zero_add, List.cons_append, List.nil_append, bin_gtr, if_true, if_false, Bool.false_eq_true, Bool.not_true, decide_true, decide_false, and_true, h1, hu.len, h2]
  refine LoopK.by 50 (fun i : Nat => i ≤ rs.length ∧ ∀ r ∈ rs.take i, rK P r) (fun i => [(1, .agg [I P, u]), (14, u), (15, I rs.length), (16, I i)]) (fun _ => A) (fun i => rs.length - i) 0 ⟨by omega, by simp⟩ rfl (by simp [Has, rd_s]) rfl ?_
  rintro i ⟨hi, he⟩
  by_cases hlt : i < rs.length
  · obtain ⟨z, hz⟩ : ∃ z, rs[i]? = some z := ⟨_, List.getElem?_eq_getElem hlt⟩
    have hlt' : (i : Int) < rs.length := by omega
    have bad : ¬ rK P z → vE P rs = 1 := fun hn => by
      unfold vE
      rw [if_pos h1, if_neg h2, if_neg (fun hh => hn (hh z (List.mem_of_getElem? hz)))]
    simp (maxSteps := 4000000) -implicitDefEqProofs -dsimp (disch := omega) only [↓AW_skip, ↓AW_ops, ↓AW_seq, ↓AW_cond, ↓AW_block, ↓AOps_nil, ↓AOps_pu, ↓AOps_ld, ↓AOps_call, on_some, condB_t, ↓then_normal, pval, lval, rd_S, rd_C, put_S, chkd, isAdr, bput, bgot, AV.cells?, splice, partA, eq_self, mk, List.foldl_cons, List.foldl_nil, List.replicate_succ, List.replicate_zero, List.set_cons_zero, List.set_cons_succ, List.getElem?_cons_zero, List.getElem?_cons_succ, List.drop_zero, List.drop_succ_cons, List.drop_nil, List.take_zero, List.take_succ_cons, List.take_nil, Option.getD_some, map_c, map_n, List.length_cons, List.length_nil, Nat.reduceAdd, Nat.reduceLeDiff, Nat.reduceEqDiff, Nat.zero_add, List.nil_append, List.append_nil, bin_sub, bin_lss, w64, if_true, if_false, Bool.false_eq_true, decide_true, ne_eq, not_true_eq_false, hlt', hu.idx hlt, hu.ld0 hz 3 true (by decide), e3]
    refine CallK.of (c_w _ _ _ _) ?_
    by_cases g1 : 0 ≤ z.1 ∧ z.1 ≤ P - 1
    case neg =>
      simp (maxSteps := 4000000) -implicitDefEqProofs -dsimp (disch := omega) only [↓AW_ops, ↓AW_seq, ↓AW_cond, ↓AW_ret, ↓AOps_nil, ↓AOps_pu, ↓AOps_guard, on_some, extK_same, guardB_tf, skipS_some, condB_t, ↓then_normal, ↓then_ret, ↓inBlock_ret, ↓Fin_ret, pval, rd_S, rd_C, put_S, resV, resL, eq_self, mk, List.foldl_cons, List.foldl_nil, List.replicate_succ, List.replicate_zero, List.set_cons_zero, List.set_cons_succ, List.getElem?_cons_zero, List.getElem?_cons_succ, Option.getD_some, if_true, Bool.not_false, decide_false, g1]
      exact gc_same (by rw [bad (fun hh => g1 hh.1.1)])
    simp (maxSteps := 4000000) -implicitDefEqProofs -dsimp (disch := omega) only [↓AOps_pu, ↓AOps_call, ↓AOps_guard, on_some, extK_same, guardB_ff, pval, rd_S, rd_C, put_S, chkd, isAdr, bgot, AV.cells?, partA, eq_self, mk, List.foldl_cons, List.foldl_nil, List.replicate_succ, List.replicate_zero, List.set_cons_zero, List.set_cons_succ, List.getElem?_cons_zero, List.getElem?_cons_succ, List.drop_zero, List.drop_succ_cons, List.take_zero, List.take_succ_cons, Option.getD_some, map_c, map_n, List.length_cons, List.length_nil, Nat.reduceAdd, Nat.reduceLeDiff, Nat.zero_add, bin_sub, w64, if_true, if_false, Bool.false_eq_true, Bool.not_true, decide_true, and_true, g1]
    refine CallK.of (c_w _ _ _ _) ?_
    by_cases g2 : 0 ≤ z.2.1 ∧ z.2.1 ≤ P - 1
    case neg =>
      simp (maxSteps := 4000000) -implicitDefEqProofs -dsimp (disch := omega) only [↓AW_ops, ↓AW_seq, ↓AW_cond, ↓AW_ret, ↓AOps_nil, ↓AOps_pu, ↓AOps_guard, on_some, extK_same, guardB_tf, guardB_ff, skipS_some, condB_t, ↓then_normal, ↓then_ret, ↓inBlock_ret, ↓Fin_ret, pval, rd_S, rd_C, put_S, resV, resL, eq_self, mk, List.foldl_cons, List.foldl_nil, List.replicate_succ, List.replicate_zero, List.set_cons_zero, List.set_cons_succ, List.getElem?_cons_zero, List.getElem?_cons_succ, Option.getD_some, if_true, if_false, Bool.false_eq_true, Bool.not_false, decide_false, g2]
      exact gc_same (by rw [bad (fun hh => g2 hh.1.2)])
    by_cases g3 : z.1 = z.2.1
    · simp (maxSteps := 4000000) -implicitDefEqProofs -dsimp (disch := omega) only [↓AW_ops, ↓AW_seq, ↓AW_cond, ↓AW_ret, ↓AOps_nil, ↓AOps_pu, ↓AOps_guard, on_some, extK_same, guardB_tf, guardB_ff, skipS_some, condB_t, ↓then_normal, ↓then_ret, ↓inBlock_ret, ↓Fin_ret, pval, rd_S, rd_C, put_S, resV, resL, chkd, isAdr, bgot, AV.cells?, partA, eq_self, mk, List.foldl_cons, List.foldl_nil, List.replicate_succ, List.replicate_zero, List.set_cons_zero, List.set_cons_succ, List.getElem?_cons_zero, List.getElem?_cons_succ, List.drop_zero, List.drop_succ_cons, List.take_zero, List.take_succ_cons, Option.getD_some, List.length_cons, List.length_nil, Nat.reduceAdd, Nat.reduceLeDiff, Nat.zero_add, bin_eql, if_true, if_false, Bool.false_eq_true, Bool.not_true, decide_true, and_true, g2, g3]
      exact gc_same (by rw [bad (fun hh => hh.2.1 g3)])
    simp (maxSteps := 4000000) -implicitDefEqProofs -dsimp (disch := omega) only [↓AOps_pu, ↓AOps_call, ↓AOps_guard, on_some, extK_same, guardB_ff, pval, rd_S, rd_C, put_S, chkd, isAdr, bgot, AV.cells?, partA, eq_self, mk, List.foldl_cons, List.foldl_nil, List.replicate_succ, List.replicate_zero, List.set_cons_zero, List.set_cons_succ, List.getElem?_cons_zero, List.getElem?_cons_succ, List.drop_zero, List.drop_succ_cons, List.take_zero, List.take_succ_cons, List.take_nil, Option.getD_some, map_c, map_n, List.length_cons, List.length_nil, Nat.reduceAdd, Nat.reduceLeDiff, Nat.zero_add, bin_eql, if_true, if_false, Bool.false_eq_true, Bool.not_true, decide_true, decide_false, and_true, g2, g3]
    refine CallK.of (c_w _ _ _ _) ?_
    by_cases g4 : 0 ≤ z.2.2 ∧ z.2.2 ≤ 99
    case neg =>
      simp (maxSteps := 4000000) -implicitDefEqProofs -dsimp (disch := omega) only [↓AW_ops, ↓AW_seq, ↓AW_cond, ↓AW_ret, ↓AOps_nil, ↓AOps_pu, ↓AOps_guard, on_some, extK_same, guardB_ff, condB_t, ↓then_normal, ↓then_ret, ↓inBlock_ret, ↓Fin_ret, pval, rd_S, rd_C, put_S, resV, resL, mk, List.foldl_cons, List.foldl_nil, List.replicate_succ, List.replicate_zero, List.set_cons_zero, List.set_cons_succ, List.getElem?_cons_zero, List.getElem?_cons_succ, Option.getD_some, if_false, Bool.false_eq_true, Bool.not_false, decide_false, g4]
      exact gc_same (by rw [bad (fun hh => g4 hh.2.2)])
    simp (maxSteps := 4000000) -implicitDefEqProofs -dsimp (disch := omega) only [↓AW_skip, ↓AW_ops, ↓AW_cond, ↓AOps_nil, ↓AOps_pu, ↓AOps_guard, on_some, extK_same, guardB_ff, condB_f, ↓then_normal, ↓inBlock_normal, pval, rd_S, rd_C, put_S, eq_self, mk, List.foldl_cons, List.foldl_nil, List.replicate_succ, List.replicate_zero, List.set_cons_zero, List.set_cons_succ, List.getElem?_cons_zero, List.getElem?_cons_succ, Option.getD_some, List.length_cons, List.length_nil, Nat.reduceAdd, Nat.zero_add, bin_add, w64, if_false, Bool.false_eq_true, Bool.not_true, decide_true, true_and, and_true, g4]
    exact ⟨i + 1, ⟨hlt, all_take he hz ⟨⟨g1, g2⟩, g3, g4⟩⟩, by simp [Has, rd_s], by omega⟩
  · have hlt' : ¬ ((i : Int) < rs.length) := by omega
    simp (maxSteps := 4000000) -implicitDefEqProofs -dsimp (disch := omega) only [↓AW_ops, ↓AW_seq, ↓AW_cond, ↓AW_exit, ↓AW_ret, ↓AOps_nil, ↓AOps_pu, on_some, condB_f, ↓then_normal, ↓then_exit, ↓inBlock_exit, ↓Fin_ret, pval, rd_S, rd_C, put_S, resV, resL, eq_self, mk, List.foldl_cons, List.foldl_nil, List.replicate_succ, List.replicate_zero, List.set_cons_zero, List.set_cons_succ, List.getElem?_cons_zero, List.getElem?_cons_succ, Option.getD_some, bin_lss, if_true, decide_false, hlt']
    rw [List.take_of_length_le (by omega)] at he
    exact gc_same (by unfold vE; rw [if_pos h1, if_neg h2, if_pos he])
/-- A set of numbers from 0 on, below a number. -/
def okS (b : Int) (l : List Int) : Prop := (∀ x ∈ l, 0 ≤ x ∧ x ≤ b - 1) ∧ l.Pairwise (· < ·)
instance okSdec (b : Int) (l : List Int) : Decidable (okS b l) := by unfold okS; infer_instance
theorem okS_nil (b : Int) : okS b [] := ⟨by simp, .nil⟩
theorem okS_snoc {b : Int} {l : List Int} {i : Nat} {z : Int} (h : okS b (l.take i)) (hz : l[i]? = some z) (h1 : 0 ≤ z ∧ z ≤ b - 1) (h2 : ∀ y, 0 < i → l[i - 1]? = some y → y < z) : okS b (l.take (i + 1)) := by
  rw [List.take_add_one, hz]
  refine ⟨fun x hx => ?_, ?_⟩
  · rcases List.mem_append.1 hx with hx | hx
    · exact h.1 x hx
    · have : x = z := by simpa using hx
      rw [this]; exact h1
  · rw [List.pairwise_append]
    refine ⟨h.2, List.pairwise_singleton _ _, fun x hx y hy => ?_⟩
    have hyz : y = z := by simpa using hy
    rw [hyz]
    obtain ⟨k, hk, hke⟩ := List.mem_iff_getElem.1 hx
    have hki : k < i := by rw [List.length_take] at hk; omega
    have hil : i < l.length := (List.getElem?_eq_some_iff.1 hz).1
    have hp : l[i - 1]? = some l[i - 1] := List.getElem?_eq_getElem (by omega)
    have h3 := h2 _ (by omega) hp
    by_cases hlast : k = i - 1
    · rw [← hke, List.getElem_take]
      subst hlast
      exact h3
    · have h4 := List.pairwise_iff_getElem.1 h.2 k (i - 1) hk (by rw [List.length_take]; omega) (by omega)
      rw [hke, List.getElem_take] at h4
      omega
theorem okS_of {b : Int} {l : List Int} (h : okS b l) {i : Nat} {z : Int} (hz : l[i]? = some z) : (0 ≤ z ∧ z ≤ b - 1) ∧ ∀ y, 0 < i → l[i - 1]? = some y → y < z := by
  refine ⟨h.1 z (List.mem_of_getElem? hz), fun y hi hy => ?_⟩
  obtain ⟨h1, h2⟩ := List.getElem?_eq_some_iff.1 hz
  obtain ⟨k1, k2⟩ := List.getElem?_eq_some_iff.1 hy
  have := List.pairwise_iff_getElem.1 h.2 (i - 1) i k1 h1 (by omega)
  omega
theorem s73 {l : List Int} (hx : L1 A v l) (hl : l.length ≤ 1000000) {b : Int} (hb : 0 ≤ b ∧ b ≤ 1000000) : ACalls Try.prog 73 [v, I b] A (I (if okS b l then 0 else 1)) A := by
  refine acalls hmix Try.func73 (by kernel_rfl) t73 2 rfl (by decide) ?_
  dsimp only [m73]
  simp (maxSteps := 4000000) -implicitDefEqProofs -dsimp (disch := omega) only [↓AW_ops, ↓AW_seq, ↓AW_block, ↓AOps_nil, ↓AOps_pu, on_some, ↓then_normal, pval, rd_S, rd_C, put_S, ↓AW_toLoop, List.replicate_succ, List.replicate_zero, List.set_cons_zero, List.set_cons_succ, List.getElem?_cons_zero, List.getElem?_cons_succ, Option.getD_some, Nat.reduceSub, List.cons_append, List.nil_append, hx.len]
  refine LoopK.by 33 (fun i : Nat => i ≤ l.length ∧ okS b (l.take i)) (fun i => [(0, v), (1, I b), (7, v), (8, I l.length), (9, I i)]) (fun _ => A) (fun i => l.length - i) 0 ⟨by omega, by rw [List.take_zero]; exact okS_nil b⟩ rfl (by simp [Has, rd_s]) rfl ?_
  rintro i ⟨hi, he⟩
  by_cases hlt : i < l.length
  · obtain ⟨z, hz⟩ : ∃ z, l[i]? = some z := ⟨_, List.getElem?_eq_getElem hlt⟩
    have hlt' : (i : Int) < l.length := by omega
    simp (maxSteps := 4000000) -implicitDefEqProofs -dsimp (disch := omega) only [↓AW_skip, ↓AW_ops, ↓AW_seq, ↓AW_cond, ↓AW_block, ↓AOps_nil, ↓AOps_pu, ↓AOps_ld, ↓AOps_call, on_some, condB_t, ↓then_normal, pval, lval, rd_S, rd_C, put_S, partA, eq_self, mk, List.foldl_cons, List.foldl_nil, List.replicate_succ, List.replicate_zero, List.set_cons_zero, List.set_cons_succ, List.getElem?_cons_zero, List.getElem?_cons_succ, List.drop_zero, List.take_succ_cons, List.take_nil, Option.getD_some, map_c, map_n, List.length_cons, List.length_nil, Nat.reduceLeDiff, Nat.zero_add, bin_sub, bin_lss, w64, if_true, if_false, Bool.false_eq_true, decide_true, Go.Eng.e1, hlt', hx.idx hlt, hx.ld0 hz 1 false (by decide)]
    refine CallK.of (c_w _ _ _ _) ?_
    by_cases g1 : 0 ≤ z ∧ z ≤ b - 1
    case neg =>
      simp (maxSteps := 4000000) -implicitDefEqProofs -dsimp (disch := omega) only [↓AW_ops, ↓AW_seq, ↓AW_cond, ↓AW_ret, ↓AOps_nil, ↓AOps_pu, ↓AOps_guard, on_some, extK_same, guardB_tf, guardB_undef, skipS_some, condB_t, ↓then_normal, ↓then_ret, ↓inBlock_ret, ↓Fin_ret, pval, rd_S, rd_C, put_S, resV, resL, eq_self, mk, List.foldl_cons, List.foldl_nil, List.replicate_succ, List.replicate_zero, List.set_cons_zero, List.set_cons_succ, List.getElem?_cons_zero, List.getElem?_cons_succ, Option.getD_some, if_true, Bool.not_false, decide_false, g1]
      exact gc_same (by rw [if_neg (fun hh => g1 (okS_of hh hz).1)])
    by_cases g0 : i = 0
    · subst g0
      simp (maxSteps := 4000000) -implicitDefEqProofs -dsimp (disch := omega) only [↓AW_skip, ↓AW_ops, ↓AW_cond, ↓AOps_nil, ↓AOps_pu, ↓AOps_guard, on_some, extK_same, guardB_ft, guardB_ff, skipS_some, condB_f, ↓then_normal, ↓inBlock_normal, pval, rd_S, rd_C, put_S, eq_self, mk, List.foldl_cons, List.foldl_nil, List.replicate_succ, List.replicate_zero, List.set_cons_zero, List.set_cons_succ, List.getElem?_cons_zero, List.getElem?_cons_succ, Option.getD_some, List.length_cons, List.length_nil, Nat.reduceAdd, Nat.reduceMul, Nat.zero_add, Nat.add_zero, bin_add, bin_gtr, w64, if_false, Bool.false_eq_true, Bool.not_true, decide_true, decide_false, true_and, and_true, Int.reduceLT, Int.reduceAdd, g1, c0]
      exact ⟨1, ⟨hlt, okS_snoc he hz g1 (fun y hy _ => absurd hy (by omega))⟩, by simp [Has, rd_s], by omega⟩
    · have hi0 : (0 : Int) < (i : Int) := by omega
      have hi1 : ((i : Int) - 1).toNat = i - 1 := by omega
      have hlt1 : i - 1 < l.length := by omega
      obtain ⟨y, hy⟩ : ∃ y, l[i - 1]? = some y := ⟨_, List.getElem?_eq_getElem hlt1⟩
      have hyI := hx.idxI (k := .i64) (i := (i : Int) - 1) (by omega) (by omega)
      rw [hi1] at hyI
      by_cases g2 : z ≤ y
      · simp (maxSteps := 4000000) -implicitDefEqProofs -dsimp (disch := omega) only [↓AW_ops, ↓AW_seq, ↓AW_cond, ↓AW_ret, ↓AOps_nil, ↓AOps_pu, ↓AOps_ld, ↓AOps_guard, on_some, extK_same, guardB_tt, guardB_ff, condB_t, ↓then_normal, ↓then_ret, ↓inBlock_ret, ↓Fin_ret, pval, lval, rd_S, rd_C, put_S, resV, resL, partA, eq_self, mk, List.foldl_cons, List.foldl_nil, List.replicate_succ, List.replicate_zero, List.set_cons_zero, List.set_cons_succ, List.getElem?_cons_zero, List.getElem?_cons_succ, List.drop_zero, List.take_succ_cons, List.take_nil, Option.getD_some, List.length_cons, List.length_nil, Nat.reduceLeDiff, Nat.zero_add, bin_sub, bin_gtr, bin_geq, w64, if_true, if_false, Bool.false_eq_true, Bool.not_true, decide_true, Go.Eng.e1, and_true, g1, hi0, hyI, hx.ld0 hy 1 false (by decide), g2]
        exact gc_same (by rw [if_neg (fun hh => by have := (okS_of hh hz).2 y (by omega) hy; omega)])
      · simp (maxSteps := 4000000) -implicitDefEqProofs -dsimp (disch := omega) only [↓AW_skip, ↓AW_ops, ↓AW_cond, ↓AOps_nil, ↓AOps_pu, ↓AOps_ld, ↓AOps_guard, on_some, extK_same, guardB_tt, guardB_ff, condB_f, ↓then_normal, ↓inBlock_normal, pval, lval, rd_S, rd_C, put_S, partA, eq_self, mk, List.foldl_cons, List.foldl_nil, List.replicate_succ, List.replicate_zero, List.set_cons_zero, List.set_cons_succ, List.getElem?_cons_zero, List.getElem?_cons_succ, List.drop_zero, List.take_succ_cons, List.take_nil, Option.getD_some, List.length_cons, List.length_nil, Nat.reduceAdd, Nat.reduceLeDiff, Nat.zero_add, bin_add, bin_sub, bin_gtr, bin_geq, w64, if_true, if_false, Bool.false_eq_true, Bool.not_true, decide_true, decide_false, Go.Eng.e1, true_and, and_true, g1, hi0, hyI, hx.ld0 hy 1 false (by decide), g2]
        exact ⟨i + 1, ⟨hlt, okS_snoc he hz g1 (fun y' hy' hye => by rw [hy] at hye; cases hye; omega)⟩, by simp [Has, rd_s], by omega⟩
  · have hlt' : ¬ ((i : Int) < l.length) := by omega
    simp (maxSteps := 4000000) -implicitDefEqProofs -dsimp (disch := omega) only [↓AW_ops, ↓AW_seq, ↓AW_cond, ↓AW_exit, ↓AW_ret, ↓AOps_nil, ↓AOps_pu, on_some, condB_f, ↓then_normal, ↓then_exit, ↓inBlock_exit, ↓Fin_ret, pval, rd_S, rd_C, put_S, resV, resL, eq_self, mk, List.foldl_cons, List.foldl_nil, List.replicate_succ, List.replicate_zero, List.set_cons_zero, List.set_cons_succ, List.getElem?_cons_zero, List.getElem?_cons_succ, Option.getD_some, bin_lss, if_true, decide_false, hlt']
    rw [List.take_of_length_le (by omega)] at he
    exact gc_same (by rw [if_pos he])
theorem s83 (c : Int) (A : AHeap) : ACalls Try.prog 83 [I c] A (I (if 0 ≤ c ∧ c ≤ 99 then 0 else 1)) A := by
  refine acalls hmix Try.func83 (by kernel_rfl) t83 1 rfl (by decide) ?_
  dsimp only [m83]
  simp (maxSteps := 4000000) -implicitDefEqProofs -dsimp (disch := omega) only [↓AW_ops, ↓AW_seq, ↓AOps_nil, ↓AOps_pu, ↓AOps_call, on_some, ↓then_normal, pval, rd_S, rd_C, put_S, List.replicate_succ, List.replicate_zero, List.set_cons_zero, List.set_cons_succ, List.getElem?_cons_zero, List.getElem?_cons_succ, Option.getD_some, map_c, map_n, Nat.reduceSub, List.cons_append, List.nil_append]
  refine CallK.of (c_w _ _ _ _) ?_
  by_cases h : 0 ≤ c ∧ c ≤ 99
  · simp (maxSteps := 4000000) -implicitDefEqProofs -dsimp (disch := omega) only [↓AW_skip, ↓AW_ops, ↓AW_seq, ↓AW_cond, ↓AW_ret, ↓AOps_nil, ↓AOps_pu, on_some, extK_same, condB_f, ↓then_normal, ↓Fin_ret, pval, rd_S, rd_C, put_S, resV, resL, List.replicate_succ, List.replicate_zero, List.set_cons_zero, List.set_cons_succ, List.getElem?_cons_zero, List.getElem?_cons_succ, Option.getD_some, Nat.reduceSub, List.cons_append, List.nil_append, if_true, Bool.not_true, decide_true, and_true, h]
    exact gc_same rfl
  · simp (maxSteps := 4000000) -implicitDefEqProofs -dsimp (disch := omega) only [↓AW_ops, ↓AW_seq, ↓AW_cond, ↓AW_ret, ↓AOps_nil, ↓AOps_pu, on_some, extK_same, condB_t, ↓then_normal, ↓then_ret, ↓Fin_ret, pval, rd_S, rd_C, put_S, resV, resL, List.replicate_succ, List.replicate_zero, List.set_cons_zero, List.set_cons_succ, List.getElem?_cons_zero, List.getElem?_cons_succ, Option.getD_some, Nat.reduceSub, List.cons_append, List.nil_append, if_false, Bool.not_false, decide_false, h]
    exact gc_same rfl
/-- The first error, or none. -/
def orE : List Int → Int
  | [] => 0
  | x :: xs => if x = 0 then orE xs else x
theorem orE_at {xs : List Int} {i : Nat} {z : Int} (h : ∀ x ∈ xs.take i, x = 0) (hz : xs[i]? = some z) (h0 : ¬ z = 0) : orE xs = z := by
  induction xs generalizing i with
  | nil => simp at hz
  | cons x xs ih =>
    cases i with
    | zero =>
      have : x = z := by simpa using hz
      subst this
      rw [orE, if_neg h0]
    | succ i =>
      rw [orE, if_pos (h x (by simp))]
      exact ih (fun y hy => h y (by rw [List.take_succ_cons]; exact List.mem_cons_of_mem _ hy)) (by simpa using hz)
theorem orE_0 {xs : List Int} (h : ∀ x ∈ xs, x = 0) : orE xs = 0 := by
  induction xs with
  | nil => rfl
  | cons x xs ih => rw [orE, if_pos (h x (by simp)), ih (fun y hy => h y (by simp [hy]))]
theorem s57 {xs : List Int} (hx : L1 A v xs) (hl : xs.length ≤ 1000000) : ACalls Try.prog 57 [v] A (I (orE xs)) A := by
  refine acalls hmix Try.func57 (by kernel_rfl) t57 1 rfl (by decide) ?_
  dsimp only [m57]
  simp (maxSteps := 4000000) -implicitDefEqProofs -dsimp (disch := omega) only [↓AW_ops, ↓AW_seq, ↓AW_block, ↓AOps_nil, ↓AOps_pu, on_some, ↓then_normal, pval, rd_S, rd_C, put_S, ↓AW_toLoop, List.replicate_succ, List.replicate_zero, List.set_cons_zero, List.set_cons_succ, List.getElem?_cons_zero, List.getElem?_cons_succ, Option.getD_some, Nat.reduceSub, List.cons_append, List.nil_append, hx.len]
  refine LoopK.by 18 (fun i : Nat => i ≤ xs.length ∧ ∀ x ∈ xs.take i, x = 0) (fun i => [(3, I 0), (6, v), (7, I xs.length), (8, I i)]) (fun _ => A) (fun i => xs.length - i) 0 ⟨by omega, by simp⟩ rfl (by simp [Has, rd_s]) rfl ?_
  rintro i ⟨hi, he⟩
  by_cases hlt : i < xs.length
  · obtain ⟨z, hz⟩ : ∃ z, xs[i]? = some z := ⟨_, List.getElem?_eq_getElem hlt⟩
    have hlt' : (i : Int) < xs.length := by omega
    by_cases h0 : z = 0
    · simp (maxSteps := 4000000) -implicitDefEqProofs -dsimp (disch := omega) only [↓AW_skip, ↓AW_ops, ↓AW_seq, ↓AW_cond, ↓AW_block, ↓AOps_nil, ↓AOps_pu, ↓AOps_ld, on_some, condB_t, condB_f, ↓then_normal, ↓inBlock_normal, pval, lval, rd_S, rd_C, put_S, partA, eq_self, mk, List.foldl_cons, List.foldl_nil, List.replicate_succ, List.replicate_zero, List.set_cons_zero, List.set_cons_succ, List.getElem?_cons_zero, List.getElem?_cons_succ, List.drop_zero, List.take_succ_cons, List.take_nil, Option.getD_some, List.length_cons, List.length_nil, Nat.reduceAdd, Nat.reduceLeDiff, Nat.zero_add, bin_add, bin_neq, bin_lss, w64, if_true, if_false, Bool.false_eq_true, decide_true, decide_false, Go.Eng.e1, true_and, not_true_eq_false, hlt', hx.idx hlt, hx.ld0 hz 1 false (by decide), h0]
      exact ⟨i + 1, ⟨hlt, all_take he hz h0⟩, by simp [Has, rd_s], by omega⟩
    · simp (maxSteps := 4000000) -implicitDefEqProofs -dsimp (disch := omega) only [↓AW_skip, ↓AW_ops, ↓AW_seq, ↓AW_cond, ↓AW_block, ↓AW_ret, ↓AOps_nil, ↓AOps_pu, ↓AOps_ld, on_some, condB_t, ↓then_normal, ↓then_ret, ↓inBlock_ret, ↓Fin_ret, pval, lval, rd_S, put_S, resV, resL, partA, eq_self, mk, List.foldl_cons, List.foldl_nil, List.replicate_succ, List.replicate_zero, List.set_cons_zero, List.set_cons_succ, List.getElem?_cons_zero, List.getElem?_cons_succ, List.drop_zero, List.take_succ_cons, List.take_nil, Option.getD_some, List.length_cons, List.length_nil, Nat.reduceLeDiff, Nat.zero_add, bin_neq, bin_lss, if_true, if_false, Bool.false_eq_true, decide_true, Go.Eng.e1, not_false_eq_true, hlt', hx.idx hlt, hx.ld0 hz 1 false (by decide), h0]
      exact gc_same (by rw [orE_at he hz h0])
  · have hlt' : ¬ ((i : Int) < xs.length) := by omega
    simp (maxSteps := 4000000) -implicitDefEqProofs -dsimp (disch := omega) only [↓AW_ops, ↓AW_seq, ↓AW_cond, ↓AW_exit, ↓AW_ret, ↓AOps_nil, ↓AOps_pu, on_some, condB_f, ↓then_normal, ↓then_exit, ↓inBlock_exit, ↓Fin_ret, pval, rd_S, put_S, resV, resL, eq_self, mk, List.foldl_cons, List.foldl_nil, List.replicate_succ, List.replicate_zero, List.set_cons_zero, List.set_cons_succ, List.getElem?_cons_zero, List.getElem?_cons_succ, Option.getD_some, bin_lss, if_true, decide_false, hlt']
    rw [List.take_of_length_le (by omega)] at he
    exact gc_same (by rw [orE_0 he])
theorem s96 {c n : Int} {q : Nat} (hW : W (c - 1)) (hq : ldA 1 false (.ptr q 0) A = some (I c)) : ACalls Try.prog 96 [I n, .ptr q 0] A (B (!decide (0 ≤ n ∧ n ≤ c - 1))) A := by
  refine acalls hmix Try.func96 (by kernel_rfl) t96 2 rfl (by decide) ?_
  dsimp only [m96]
  simp (maxSteps := 4000000) -implicitDefEqProofs -dsimp (disch := omega) only [↓AW_ops, ↓AW_seq, ↓AOps_nil, ↓AOps_pu, ↓AOps_ld, ↓AOps_call, on_some, ↓then_normal, pval, lval, rd_S, rd_C, put_S, List.replicate_succ, List.replicate_zero, List.set_cons_zero, List.set_cons_succ, List.getElem?_cons_zero, List.getElem?_cons_succ, Option.getD_some, map_c, map_n, Nat.reduceSub, List.cons_append, List.nil_append, bin_sub, w64, hq]
  refine CallK.of (c_w _ _ _ _) ?_
  simp (maxSteps := 4000000) -implicitDefEqProofs -dsimp (disch := omega) only [↓AW_ret, ↓AOps_nil, ↓AOps_pu, on_some, extK_same, ↓then_normal, ↓Fin_ret, pval, rd_S, put_S, resV, resL, List.replicate_succ, List.replicate_zero, List.set_cons_zero, List.set_cons_succ, List.getElem?_cons_zero, List.getElem?_cons_succ, Option.getD_some, Nat.reduceSub, List.cons_append, List.nil_append]
  exact gc_same rfl
/-- Whether some number is not one below a number. -/
def notOf (c : Int) (xs : List Int) : Bool := xs.any (fun n => !decide (0 ≤ n ∧ n ≤ c - 1))
theorem s58 {xs : List Int} (hx : L1 A v xs) (hl : xs.length ≤ 1000000) {c : Int} (hc : 0 ≤ c ∧ c ≤ 1000000) : ACalls Try.prog 58 [I c, v] A (I (if notOf c xs = true then 4 else 0)) A := by
  refine acalls hmix Try.func58 (by kernel_rfl) t58 2 rfl (by decide) ?_
  dsimp only [m58]
  simp (maxSteps := 4000000) -implicitDefEqProofs -dsimp (disch := omega) only [↓AW_ops, ↓AW_seq, ↓AOps_nil, ↓AOps_pu, ↓AOps_ha, ↓AOps_call, on_some, extK_app, ↓then_normal, pval, hval, rd_S, rd_C, put_S, AV.cells?, List.replicate_succ, List.replicate_zero, List.set_cons_zero, List.set_cons_succ, List.getElem?_cons_zero, List.getElem?_cons_succ, Option.getD_some, map_c, map_n, Nat.reduceSub, List.cons_append, List.nil_append]
  have hp := pre_app A [.cells true [I c]]
  have hq : ldA 1 false (.ptr A.length 0) (A ++ [.cells true [I c]]) = some (I c) := by simp [ldA, partA]
  refine CallK.of (c_ContainsFunc (hx.mono hp) hl 96 [.ptr A.length 0] (fun n => !decide (0 ≤ n ∧ n ≤ c - 1)) (fun x _ => s96 ⟨by omega, by omega⟩ hq)) ?_
  by_cases h : notOf c xs = true
  · have h' : xs.any (fun n => !decide (0 ≤ n ∧ n ≤ c - 1)) = true := h
    rw [h', if_pos h]
    simp (maxSteps := 4000000) -implicitDefEqProofs -dsimp (disch := omega) only [↓AW_ops, ↓AW_seq, ↓AW_cond, ↓AW_ret, ↓AOps_nil, ↓AOps_pu, on_some, extK_same, condB_t, ↓then_normal, ↓then_ret, ↓Fin_ret, pval, rd_S, rd_C, put_S, resV, resL, List.replicate_succ, List.replicate_zero, List.set_cons_zero, List.set_cons_succ, List.getElem?_cons_zero, List.getElem?_cons_succ, Option.getD_some, Nat.reduceSub, List.cons_append, List.nil_append]
    exact gc_val hp rfl
  · have h' : xs.any (fun n => !decide (0 ≤ n ∧ n ≤ c - 1)) = false := by
      cases hh : notOf c xs with
      | true => exact absurd hh h
      | false => exact hh
    rw [h', if_neg h]
    simp (maxSteps := 4000000) -implicitDefEqProofs -dsimp (disch := omega) only [↓AW_skip, ↓AW_ops, ↓AW_seq, ↓AW_cond, ↓AW_ret, ↓AOps_nil, ↓AOps_pu, on_some, extK_same, condB_f, ↓then_normal, ↓Fin_ret, pval, rd_S, rd_C, put_S, resV, resL, List.replicate_succ, List.replicate_zero, List.set_cons_zero, List.set_cons_succ, List.getElem?_cons_zero, List.getElem?_cons_succ, Option.getD_some, Nat.reduceSub, List.cons_append, List.nil_append]
    exact gc_val hp rfl
end
end Go.Proofs.Ytkgfcdpckfhknaa

namespace Go.Eng
open Go
/-- What a map holds for a key. -/
def lkA (zero : AV) (ok : Bool) (x key : AV) (H : AHeap) : Option AV := lval (.look zero ok (.c x) (.c key)) [] H
theorem lval_look (zero : AV) (ok : Bool) (x key : Opd) (S : List AV) (H : AHeap) : lval (.look zero ok x key) S H = lkA zero ok (rd S x) (rd S key) H := rfl
theorem lval_ld (sz : Nat) (ag : Bool) (p : Opd) (S : List AV) (H : AHeap) : lval (.ld sz ag p) S H = ldA sz ag (rd S p) H := rfl
/-- A map with one entry set. -/
def msA (m k v : AV) (H : AHeap) : Option AHeap := (hval (.mset (.c m) (.c k) (.c v)) [] H).map (·.2)
theorem hval_mset (m k v : Opd) (S : List AV) (H : AHeap) : hval (.mset m k v) S H = (msA (rd S m) (rd S k) (rd S v) H).map (fun H' => (undefA, H')) := by
  unfold msA
  have : ∀ (a b c : AV), hval (.mset (.c a) (.c b) (.c c)) [] H = ((hval (.mset (.c a) (.c b) (.c c)) [] H).map (·.2)).map (fun H' => (undefA, H')) := by
    intro a b c
    simp only [hval]
    repeat' split
    all_goals simp
  exact this _ _ _
theorem hval_mkm (S : List AV) (H : AHeap) : hval .mkm S H = some (.mp H.length, H ++ [.mp []]) := rfl
/-- Entries for the numbers of a list. -/
def mpl (ks : List Int) (f : Int → AV) : List (AV × AV) := ks.map (fun k => (I k, f k))
theorem mpl_all (ks : List Int) (f : Int → AV) {g : AV × AV → Bool} (hg : ∀ k v, g (I k, v) = true) : (mpl ks f).all g = true := by
  rw [List.all_eq_true]
  intro p hp
  obtain ⟨k, _, rfl⟩ := List.mem_map.1 hp
  exact hg _ _
theorem findK_mpl {k : Int} : ∀ {ks : List Int} {f : Int → AV}, k ∈ ks → findK k (mpl ks f) = some (f k)
  | [], _, h => by simp at h
  | x :: ks, f, h => by
    unfold mpl
    rw [List.map_cons, findK]
    by_cases hx : k = x
    · rw [if_pos hx, hx]
    · rw [if_neg hx]
      have h2 : k ∈ ks := by
        rcases List.mem_cons.1 h with e | e
        · exact absurd e hx
        · exact e
      exact findK_mpl h2
theorem findK_none {k : Int} : ∀ {ks : List Int} {f : Int → AV}, k ∉ ks → findK k (mpl ks f) = none
  | [], _, _ => rfl
  | x :: ks, f, h => by
    unfold mpl
    rw [List.map_cons, findK]
    have hx : ¬ k = x := fun e => h (by simp [e])
    rw [if_neg hx]
    exact findK_none (fun e => h (by simp [e]))
/-- A function with another value at one place. -/
def upd (f : Int → AV) (k : Int) (x : AV) : Int → AV := fun p => if p = k then x else f p
theorem mpl_congr {ks : List Int} {f g : Int → AV} (h : ∀ k ∈ ks, f k = g k) : mpl ks f = mpl ks g := List.map_congr_left (fun k hk => by rw [h k hk])
theorem setK_mpl {k : Int} {x : AV} : ∀ {ks : List Int} {f : Int → AV}, k ∈ ks → ks.Nodup → setK k x (mpl ks f) = some (mpl ks (upd f k x))
  | [], _, h, _ => by simp at h
  | y :: ks, f, h, hn => by
    rw [List.nodup_cons] at hn
    unfold mpl
    rw [List.map_cons, setK, List.map_cons]
    by_cases hy : k = y
    · rw [if_pos hy]
      have e1 : mpl ks f = mpl ks (upd f k x) := mpl_congr (fun z hz => by
        unfold upd
        rw [if_neg (fun e => hn.1 (by rw [← hy, ← e]; exact hz))])
      have e2 : upd f k x y = x := by unfold upd; rw [if_pos hy.symm]
      show some ((I k, x) :: mpl ks f) = some ((I y, upd f k x y) :: mpl ks (upd f k x))
      rw [e1, e2, hy]
    · rw [if_neg hy]
      have h2 : k ∈ ks := by
        rcases List.mem_cons.1 h with e | e
        · exact absurd e hy
        · exact e
      have ih := setK_mpl (x := x) (f := f) h2 hn.2
      have e2 : upd f k x y = f y := by unfold upd; rw [if_neg (fun e => hy e.symm)]
      unfold mpl at ih
      rw [ih, e2]
      rfl
theorem setK_new {k : Int} {x : AV} : ∀ {ks : List Int} {f : Int → AV}, k ∉ ks → setK k x (mpl ks f) = some (mpl ks f ++ [(I k, x)])
  | [], _, _ => rfl
  | y :: ks, f, h => by
    unfold mpl
    rw [List.map_cons, setK]
    have hy : ¬ k = y := fun e => h (by simp [e])
    rw [if_neg hy]
    have ih := setK_new (x := x) (f := f) (k := k) (ks := ks) (fun e => h (by simp [e]))
    unfold mpl at ih
    rw [ih]
    rfl
theorem lk_at {A : AHeap} {n : Nat} {l : List (AV × AV)} (h : A[n]? = some (.mp l)) {ks : List Int} {f : Int → AV} (hl : l = mpl ks f) (z : AV) (k : Int) (hk : k ∈ ks) : lkA z false (.mp n) (I k) A = some (f k) := by
  unfold lkA
  simp only [lval, rd]
  rw [h]
  simp only
  rw [hl, if_pos (mpl_all ks f (fun _ _ => rfl)), findK_mpl hk]
  rfl
theorem lk_ok {A : AHeap} {n : Nat} {l : List (AV × AV)} (h : A[n]? = some (.mp l)) {ks : List Int} {f : Int → AV} (hl : l = mpl ks f) (z : AV) (k : Int) : lkA z true (.mp n) (I k) A = some (.tuple [if k ∈ ks then f k else z, .bool (decide (k ∈ ks))]) := by
  unfold lkA
  simp only [lval, rd]
  rw [h]
  simp only
  rw [hl, if_pos (mpl_all ks f (fun _ _ => rfl))]
  by_cases hk : k ∈ ks
  · rw [findK_mpl hk, if_pos hk, decide_eq_true hk]
    rfl
  · rw [findK_none hk, if_neg hk, decide_eq_false hk]
    rfl
theorem ms_at {A : AHeap} {n : Nat} {l l' : List (AV × AV)} (h : A[n]? = some (.mp l)) {k : Int} {x : AV} (hl : setK k x l = some l') : msA (.mp n) (I k) x A = some (A.set n (.mp l')) := by
  unfold msA
  simp only [hval, rd]
  rw [h]
  simp only
  rw [hl]
  rfl
theorem mp_new (A : AHeap) (o : AObj) : (A ++ [o])[A.length]? = some o := by simp
theorem mp_set (A : AHeap) (o o' : AObj) : (A ++ [o]).set A.length o' = A ++ [o'] := by simp
end Go.Eng

namespace Go.Proofs.Ytkgfcdpckfhknaa
/-- A road joins two places. -/
def Adj (S : List Rd) (p q : Int) : Prop := ∃ e ∈ S, (e.1 = p ∧ e.2.1 = q) ∨ (e.1 = q ∧ e.2.1 = p)
theorem filter_lt {xs : List Int} {f g : Int → Prop} [DecidablePred f] [DecidablePred g] (h : ∀ x ∈ xs, f x → g x) {y : Int} (hy : y ∈ xs) (hg : g y) (hf : ¬ f y) : (xs.filter (fun x => decide (f x))).length + 1 ≤ (xs.filter (fun x => decide (g x))).length := by
  induction xs with
  | nil => simp at hy
  | cons x xs ih =>
    have hmono : ∀ {zs : List Int}, (∀ z ∈ zs, f z → g z) → (zs.filter (fun x => decide (f x))).length ≤ (zs.filter (fun x => decide (g x))).length := by
      intro zs hz
      induction zs with
      | nil => simp
      | cons z zs ihz =>
        have := ihz (fun w hw => hz w (by simp [hw]))
        by_cases h1 : f z
        · rw [List.filter_cons_of_pos (by simpa using h1), List.filter_cons_of_pos (by simpa using hz z (by simp) h1)]
          simp only [List.length_cons]
          omega
        · rw [List.filter_cons_of_neg (by simpa using h1)]
          by_cases h2 : g z
          · rw [List.filter_cons_of_pos (by simpa using h2)]
            simp only [List.length_cons]
            omega
          · rw [List.filter_cons_of_neg (by simpa using h2)]
            exact this
    rcases List.mem_cons.1 hy with rfl | hy
    · rw [List.filter_cons_of_neg (by simpa using hf), List.filter_cons_of_pos (by simpa using hg)]
      have := hmono (zs := xs) (fun z hz => h z (by simp [hz]))
      simp only [List.length_cons]
      omega
    · have := ih (fun z hz => h z (by simp [hz])) hy
      by_cases h1 : f x
      · rw [List.filter_cons_of_pos (by simpa using h1), List.filter_cons_of_pos (by simpa using h x (by simp) h1)]
        simp only [List.length_cons]
        omega
      · rw [List.filter_cons_of_neg (by simpa using h1)]
        by_cases h2 : g x
        · rw [List.filter_cons_of_pos (by simpa using h2)]
          simp only [List.length_cons]
          omega
        · rw [List.filter_cons_of_neg (by simpa using h2)]
          exact this
theorem filter_full {xs : List Int} {f : Int → Prop} [DecidablePred f] (h : xs.length ≤ (xs.filter (fun x => decide (f x))).length) : ∀ x ∈ xs, f x := by
  have h1 : (xs.filter (fun x => decide (f x))).length = xs.length := Nat.le_antisymm (List.length_filter_le _ _) h
  have h2 := List.length_filter_eq_length_iff.1 h1
  intro x hx
  exact of_decide_eq_true (h2 x hx)
/-- What has come up in so many rounds; each one brings at least the neighbors of what was there. -/
theorem saturate {P : Nat} {S : List Rd} (hS : ∀ e ∈ S, InP P e) {X : Nat → Int → Prop} (mono : ∀ t p, X t p → X (t + 1) p) (next : ∀ (t : Nat) (p q : Int), 0 ≤ p → p < P → X t p → Adj S p q → X (t + 1) q)
    {s p : Int} (h0 : X 0 s) (s0 : 0 ≤ s) (s1 : s < P) (hc : Cn S s p) : X P p := by
  have up : ∀ t, ∀ q, X 0 q → X t q := by
    intro t
    induction t with
    | zero => exact fun q h => h
    | succ t ih => exact fun q h => mono t q (ih q h)
  have reach : ∀ {q : Int}, Cn S s q → 0 ≤ q ∧ q < P := by
    intro q h
    induction h with
    | refl => exact ⟨s0, s1⟩
    | step _ e he hr ih =>
      have := hS e he
      rcases hr with ⟨_, rfl⟩ | ⟨rfl, _⟩
      · exact this.2
      · exact this.1
  -- either all is there, or there is something new
  have new : ∀ t, (∀ q, Cn S s q → X t q) ∨ ∃ r : Int, (0 ≤ r ∧ r < P) ∧ X (t + 1) r ∧ ¬ X t r := by
    intro t
    refine Classical.byContradiction (fun hh => ?_)
    have h1 : ¬ ∀ q, Cn S s q → X t q := fun h => hh (.inl h)
    have h2 : ∀ r : Int, (0 ≤ r ∧ r < P) → X (t + 1) r → X t r := fun r hr hx => Classical.byContradiction (fun hn => hh (.inr ⟨r, hr, hx, hn⟩))
    refine h1 (fun q hq => ?_)
    induction hq with
    | refl => exact up t s h0
    | step hpre e he hr ih =>
      have hb := reach hpre
      refine h2 _ (reach (.step hpre e he hr)) (next t _ _ hb.1 hb.2 ih ⟨e, he, ?_⟩)
      exact hr
  have count : ∀ t, (∀ q, Cn S s q → X t q) ∨ t ≤ (by classical exact ((plc P).filter (fun p => decide (X t p))).length) := by
    intro t
    induction t with
    | zero => exact .inr (Nat.zero_le _)
    | succ t ih =>
      rcases ih with h | h
      · exact .inl (fun q hq => mono t q (h q hq))
      · rcases new t with k | ⟨r, hr, k1, k2⟩
        · exact .inl (fun q hq => mono t q (k q hq))
        · right
          have := @filter_lt (plc P) (X t) (X (t + 1)) (fun _ => Classical.propDecidable _) (fun _ => Classical.propDecidable _) (fun x _ hx => mono t x hx) r (mem_plc.2 hr) k1 k2
          exact Nat.le_trans (Nat.succ_le_succ h) this
  rcases count P with h | h
  · exact h p hc
  · have := @filter_full (plc P) (X P) (fun _ => Classical.propDecidable _) (by rw [plc_len]; exact h)
    exact this p (mem_plc.2 (reach hc))
/-- One road's step: both ends get the smaller number. -/
def rst (f : Int → Int) (r : Rd) : Int → Int := fun p => if p = r.2.1 then min (f r.1) (f r.2.1) else if p = r.1 then min (f r.1) (f r.2.1) else f p
/-- So many rounds. -/
def rnd (S : List Rd) : Nat → (Int → Int) → Int → Int
  | 0, f => f
  | n + 1, f => S.foldl rst (rnd S n f)
/-- Numbers of places that are joined with the place. -/
structure Jn (P : Nat) (S : List Rd) (f : Int → Int) : Prop where
  b : ∀ p : Int, 0 ≤ p → p < P → 0 ≤ f p ∧ f p ≤ p
  c : ∀ p : Int, 0 ≤ p → p < P → Cn S (f p) p
theorem Jn.id (P : Nat) (S : List Rd) : Jn P S (fun p => p) := ⟨fun p h _ => ⟨h, Int.le_refl _⟩, fun p _ _ => .refl _⟩
theorem Jn.lab {P : Nat} {S : List Rd} {f : Int → Int} (h : Jn P S f) {p : Int} (p0 : 0 ≤ p) (p1 : p < P) : Go.Proofs.Ytkgfcdpckfhknaa.lab S p ≤ f p := by
  obtain ⟨a, _, b, c⟩ := lab_spec S p0
  have h1 := (h.b p p0 p1).1
  rcases Int.lt_or_le (f p) (Go.Proofs.Ytkgfcdpckfhknaa.lab S p) with k | k
  · exact absurd ((h.c p p0 p1).trans b.symm) (c _ h1 k)
  · exact k
theorem Jn.step {P : Nat} {S : List Rd} {f : Int → Int} (h : Jn P S f) {r : Rd} (hr : r ∈ S) (hP : InP P r) (hne : True) : Jn P S (rst f r) ∧
    (∀ p : Int, 0 ≤ p → p < P → f p = Go.Proofs.Ytkgfcdpckfhknaa.lab S p → rst f r p = Go.Proofs.Ytkgfcdpckfhknaa.lab S p) ∧
    (∀ p q, (r.1 = p ∧ r.2.1 = q) ∨ (r.1 = q ∧ r.2.1 = p) → f p = Go.Proofs.Ytkgfcdpckfhknaa.lab S p → rst f r q = Go.Proofs.Ytkgfcdpckfhknaa.lab S q) := by
  obtain ⟨⟨a0, a1⟩, ⟨b0, b1⟩⟩ := hP
  have hab : Cn S r.1 r.2.1 := Cn.one hr
  have hl : Go.Proofs.Ytkgfcdpckfhknaa.lab S r.1 = Go.Proofs.Ytkgfcdpckfhknaa.lab S r.2.1 := (lab_eq_iff a0 b0).2 hab
  have la := h.lab a0 a1
  have lb := h.lab b0 b1
  have ba := h.b r.1 a0 a1
  have bb := h.b r.2.1 b0 b1
  have ca := h.c r.1 a0 a1
  have cb := h.c r.2.1 b0 b1
  have hm : min (f r.1) (f r.2.1) = f r.1 ∨ min (f r.1) (f r.2.1) = f r.2.1 := by omega
  have cm1 : Cn S (min (f r.1) (f r.2.1)) r.1 := by
    rcases hm with e | e <;> rw [e]
    · exact ca
    · exact cb.trans hab.symm
  refine ⟨⟨fun p p0 p1 => ?_, fun p p0 p1 => ?_⟩, fun p p0 p1 hp => ?_, fun p q hpq hp => ?_⟩
  · unfold rst
    split
    · rename_i e; subst e; omega
    · split
      · rename_i e; subst e; omega
      · exact h.b p p0 p1
  · unfold rst
    split
    · rename_i e; subst e; exact cm1.trans hab
    · split
      · rename_i e; subst e; exact cm1
      · exact h.c p p0 p1
  · unfold rst
    split
    · rename_i e; subst e; omega
    · split
      · rename_i e; subst e; omega
      · exact hp
  · unfold rst
    rcases hpq with ⟨rfl, rfl⟩ | ⟨rfl, rfl⟩
    · rw [if_pos rfl]; omega
    · split
      · rename_i e; omega
      · rw [if_pos rfl]; omega
theorem Jn.fold {P : Nat} {S : List Rd} (hS : ∀ e ∈ S, InP P e) : ∀ (L : List Rd) {f : Int → Int}, (∀ e ∈ L, e ∈ S) → Jn P S f → Jn P S (L.foldl rst f) ∧
    (∀ p : Int, 0 ≤ p → p < P → f p = Go.Proofs.Ytkgfcdpckfhknaa.lab S p → L.foldl rst f p = Go.Proofs.Ytkgfcdpckfhknaa.lab S p) ∧
    (∀ p q : Int, 0 ≤ p → p < P → (∃ r ∈ L, (r.1 = p ∧ r.2.1 = q) ∨ (r.1 = q ∧ r.2.1 = p)) → f p = Go.Proofs.Ytkgfcdpckfhknaa.lab S p → L.foldl rst f q = Go.Proofs.Ytkgfcdpckfhknaa.lab S q)
  | [], f, _, h => ⟨h, fun p _ _ hp => hp, fun p q _ _ ⟨r, hr, _⟩ => by simp at hr⟩
  | e :: L, f, hL, h => by
    have he := hL e (by simp)
    obtain ⟨h1, h2, h3⟩ := h.step he (hS e he) trivial
    obtain ⟨k1, k2, k3⟩ := Jn.fold hS L (fun x hx => hL x (by simp [hx])) h1
    refine ⟨k1, fun p p0 p1 hp => k2 p p0 p1 (h2 p p0 p1 hp), fun p q p0 p1 ⟨r, hr, hpq⟩ hp => ?_⟩
    rcases List.mem_cons.1 hr with rfl | hr
    · have hq : 0 ≤ q ∧ q < P := by
        have := hS r he
        rcases hpq with ⟨_, rfl⟩ | ⟨rfl, _⟩
        · exact this.2
        · exact this.1
      exact k2 q hq.1 hq.2 (h3 p q hpq hp)
    · exact k3 p q p0 p1 ⟨r, hr, hpq⟩ (h2 p p0 p1 hp)
theorem Jn.rnd {P : Nat} {S : List Rd} (hS : ∀ e ∈ S, InP P e) (n : Nat) : Jn P S (Go.Proofs.Ytkgfcdpckfhknaa.rnd S n (fun p => p)) := by
  induction n with
  | zero => exact Jn.id P S
  | succ n ih => exact (Jn.fold hS S (fun _ h => h) ih).1
/-- After as many rounds as places each place has the smallest one that is joined with it. -/
theorem rnd_lab {P : Nat} {S : List Rd} (hS : ∀ e ∈ S, InP P e) {p : Int} (p0 : 0 ≤ p) (p1 : p < P) : Go.Proofs.Ytkgfcdpckfhknaa.rnd S P (fun p => p) p = Go.Proofs.Ytkgfcdpckfhknaa.lab S p := by
  obtain ⟨a, a1, b, c⟩ := lab_spec S p0
  have key := saturate hS (X := fun t q => (0 ≤ q ∧ q < P) ∧ Go.Proofs.Ytkgfcdpckfhknaa.rnd S t (fun p => p) q = Go.Proofs.Ytkgfcdpckfhknaa.lab S q) (fun t q h => ⟨h.1, (Jn.fold hS S (fun _ h => h) (Jn.rnd hS t)).2.1 q h.1.1 h.1.2 h.2⟩)
    (fun t q r q0 q1 h hadj => ?_) (s := Go.Proofs.Ytkgfcdpckfhknaa.lab S p) (p := p) ⟨⟨a, by omega⟩, ?_⟩ a (by omega) b
  · exact key.2
  · obtain ⟨e, he, hr⟩ := hadj
    have hq : 0 ≤ r ∧ r < P := by
      have := hS e he
      rcases hr with ⟨_, rfl⟩ | ⟨rfl, _⟩
      · exact this.2
      · exact this.1
    exact ⟨hq, (Jn.fold hS S (fun _ h => h) (Jn.rnd hS t)).2.2 q r q0 q1 ⟨e, he, hr⟩ h.2⟩
  · show Go.Proofs.Ytkgfcdpckfhknaa.lab S p = _
    exact ((lab_self_iff a).2 c).symm
end Go.Proofs.Ytkgfcdpckfhknaa

namespace Go.Proofs.Ytkgfcdpckfhknaa
open Go Go.Eng
/-- The road with a number. -/
def rdx (rs : List Rd) (k : Int) : Rd := (rs[k.toNat]?).getD (0, 0, 0)
theorem rdx_at {rs : List Rd} {k : Int} (h0 : 0 ≤ k) (h1 : k ≤ (rs.length : Int) - 1) : rs[k.toNat]? = some (rdx rs k) ∧ rdx rs k ∈ rs := by
  have hk : k.toNat < rs.length := by omega
  have h : rs[k.toNat]? = some rs[k.toNat] := List.getElem?_eq_getElem hk
  unfold rdx
  rw [h]
  exact ⟨rfl, List.getElem_mem hk⟩
/-- Numbers of roads of a net. -/
def Nos (rs : List Rd) (ks : List Int) : Prop := ∀ k ∈ ks, 0 ≤ k ∧ k ≤ (rs.length : Int) - 1
theorem Net.inP {P : Nat} {rs : List Rd} (h : Net P rs) {k : Int} (h0 : 0 ≤ k) (h1 : k ≤ (rs.length : Int) - 1) : InP P (rdx rs k) := by
  have := h.r _ (rdx_at h0 h1).2
  exact ⟨⟨this.1.1.1, by have := this.1.1.2; omega⟩, ⟨this.1.2.1, by have := this.1.2.2; omega⟩⟩
theorem Nos.inP {P : Nat} {rs : List Rd} (h : Net P rs) {ks : List Int} (hk : Nos rs ks) : ∀ k ∈ ks, InP P (rdx rs k) := fun k hkm => h.inP (hk k hkm).1 (hk k hkm).2
/-- A map from places to numbers. -/
def mI (P : Nat) (g : Int → Int) : List (AV × AV) := mpl (plc P) (fun p => I (g p))
def updI (g : Int → Int) (k x : Int) : Int → Int := fun p => if p = k then x else g p
theorem mI_congr {P : Nat} {f g : Int → Int} (h : ∀ p : Int, 0 ≤ p → p < P → f p = g p) : mI P f = mI P g := mpl_congr (fun k hk => by
  have := mem_plc.1 hk
  rw [h k this.1 this.2])
theorem lkI {A : AHeap} {P : Nat} {g : Int → Int} {k : Int} (h0 : 0 ≤ k) (h1 : k < P) : lkA (I 0) false (.mp A.length) (I k) (A ++ [.mp (mI P g)]) = some (I (g k)) :=
  lk_at (mp_new A _) rfl _ _ (mem_plc.2 ⟨h0, h1⟩)
theorem msI {A : AHeap} {P : Nat} {g : Int → Int} {k x : Int} (h0 : 0 ≤ k) (h1 : k < P) : msA (.mp A.length) (I k) (I x) (A ++ [.mp (mI P g)]) = some (A ++ [.mp (mI P (updI g k x))]) := by
  have hs := setK_mpl (x := I x) (f := fun p => I (g p)) (mem_plc.2 ⟨h0, h1⟩) (plc_nodup P)
  have e : mpl (plc P) (upd (fun p => I (g p)) k (I x)) = mI P (updI g k x) := mpl_congr (fun p _ => by
    unfold upd updI
    split <;> rfl)
  rw [e] at hs
  have := ms_at (mp_new A (.mp (mI P g))) hs
  rw [mp_set] at this
  exact this
theorem plc_succ (i : Nat) : plc (i + 1) = plc i ++ [(i : Int)] := by
  unfold plc
  rw [List.range_succ, List.map_append]
  rfl
theorem msN {A : AHeap} {i : Nat} {g : Int → Int} : msA (.mp A.length) (I i) (I (g i)) (A ++ [.mp (mI i g)]) = some (A ++ [.mp (mI (i + 1) g)]) := by
  have hn : (i : Int) ∉ plc i := fun h => by have := (mem_plc.1 h).2; omega
  have hs := setK_new (x := I (g i)) (f := fun p => I (g p)) hn
  have e : mpl (plc i) (fun p => I (g p)) ++ [(I i, I (g i))] = mI (i + 1) g := by
    unfold mI mpl
    rw [plc_succ, List.map_append]
    rfl
  rw [e] at hs
  have := ms_at (mp_new A (.mp (mI i g))) hs
  rw [mp_set] at this
  exact this
theorem map_take_snoc {α β : Type} (f : α → β) {xs : List α} {i : Nat} {x : α} (h : xs[i]? = some x) : (xs.map f).take (i + 1) = (xs.map f).take i ++ [f x] := by
  rw [List.take_add_one, List.getElem?_map, h]
  rfl
section
variable {P : Nat} {rs : List Rd} {ks : List Int} {u v : AV} {A : AHeap}
set_option maxHeartbeats 8000000 in
theorem s99 (hu : L3 A u rs) (hx : L1 A v ks) (hn : Net P rs) (hk : Nos rs ks) (hl : ks.length ≤ 1000000) : ACalls Try.prog 99 [.agg [I P, u], v] A (.mp A.length) (A ++ [.mp (mI P (lab (ks.map (rdx rs))))]) := by
  refine acalls hmix Try.func99 (by kernel_rfl) t99 2 rfl (by decide) ?_
  have hP7 := hn.p7
  have hP1 := hn.p1
  have hS : ∀ e ∈ ks.map (rdx rs), InP P e := inP_map (hk.inP hn)
  dsimp only [m99]
  simp (maxSteps := 4000000) -implicitDefEqProofs -dsimp (disch := omega) only [↓AW_ops, ↓AW_seq, ↓AW_block, ↓AOps_nil, ↓AOps_pu, ↓AOps_ha, on_some, extK_app, ↓then_normal, pval, hval_mkm, rd_S, rd_C, put_S, ↓AW_toLoop, chkd, isAdr, bgot, cells_agg, partA, eq_self, List.replicate_succ, List.replicate_zero, List.set_cons_zero, List.set_cons_succ, List.getElem?_cons_zero, List.getElem?_cons_succ, List.drop_zero, List.take_zero, List.take_succ_cons, Option.getD_some, List.length_cons, List.length_nil, Nat.reduceAdd, Nat.reduceSub, Nat.reduceLeDiff, Nat.zero_add, List.cons_append, List.nil_append, if_true, if_false, Bool.false_eq_true]
  refine LoopK.by 56 (fun i : Nat => i ≤ P) (fun i => [(1, v), (2, .agg [I P, u]), (5, .mp A.length), (13, I P), (14, I i)]) (fun i => A ++ [.mp (mI i (fun p => p))]) (fun i => P - i) 0 (by omega) rfl (by simp [Has, rd_s]) rfl ?_
  intro i hi
  by_cases hlt : i < P
  · have hlt' : (i : Int) < P := by omega
    simp (maxSteps := 4000000) -implicitDefEqProofs -dsimp (disch := omega) only [↓AW_skip, ↓AW_ops, ↓AW_seq, ↓AW_cond, ↓AW_block, ↓AOps_nil, ↓AOps_pu, ↓AOps_ha, on_some, extK_false, condB_t, ↓then_normal, ↓inBlock_normal, pval, hval_mset, rd_S, rd_C, put_S, putS_none, eq_self, mk, List.foldl_cons, List.foldl_nil, List.replicate_succ, List.replicate_zero, List.set_cons_zero, List.set_cons_succ, List.getElem?_cons_zero, List.getElem?_cons_succ, Option.getD_some, Option.map_some, List.length_cons, List.length_nil, Nat.reduceAdd, Nat.zero_add, bin_add, bin_lss, w64, decide_true, true_and, hlt', msN (g := fun p => p)]
    exact ⟨i + 1, hlt, by simp [Has, rd_s], rfl, by omega⟩
  have hlt' : ¬ (i : Int) < P := by omega
  have hiP : i = P := by omega
  subst hiP
  simp (maxSteps := 4000000) -implicitDefEqProofs -dsimp (disch := omega) only [↓AW_ops, ↓AW_seq, ↓AW_cond, ↓AW_block, ↓AW_exit, ↓AOps_nil, ↓AOps_pu, on_some, condB_f, ↓then_normal, ↓then_exit, ↓inBlock_exit, pval, rd_S, rd_C, put_S, ↓AW_toLoop, chkd, isAdr, bgot, cells_agg, partA, eq_self, mk, List.foldl_cons, List.foldl_nil, List.replicate_succ, List.replicate_zero, List.set_cons_zero, List.set_cons_succ, List.getElem?_cons_zero, List.getElem?_cons_succ, List.drop_zero, List.take_zero, List.take_succ_cons, Option.getD_some, List.length_cons, List.length_nil, Nat.reduceAdd, Nat.reduceLeDiff, Nat.zero_add, bin_lss, if_true, if_false, Bool.false_eq_true, decide_false, hlt']
  refine LoopK.by 56 (fun t : Nat => t ≤ i) (fun t => [(1, v), (2, .agg [I i, u]), (5, .mp A.length), (22, I i), (23, I t)]) (fun t => A ++ [.mp (mI i (rnd (ks.map (rdx rs)) t (fun p => p)))]) (fun t => i - t) 0 (by omega) rfl (by simp [Has, rd_s]) rfl ?_
  intro t ht
  by_cases htl : t < i
  · have htl' : (t : Int) < i := by omega
    simp (maxSteps := 4000000) -implicitDefEqProofs -dsimp (disch := omega) only [↓AW_skip, ↓AW_ops, ↓AW_seq, ↓AW_cond, ↓AW_block, ↓AOps_nil, ↓AOps_pu, on_some, condB_t, ↓then_normal, pval, rd_S, rd_C, put_S, ↓AW_toLoop, mk, List.foldl_cons, List.foldl_nil, List.replicate_succ, List.replicate_zero, List.set_cons_zero, List.set_cons_succ, List.getElem?_cons_zero, List.getElem?_cons_succ, Option.getD_some, bin_lss, decide_true, htl', (hx.mono (pre_app A [.mp (mI i (rnd (ks.map (rdx rs)) t (fun p => p)))])).len]
    refine LoopK.by 56 (fun j : Nat => j ≤ ks.length) (fun j => [(1, v), (2, .agg [I i, u]), (5, .mp A.length), (22, I i), (23, I t), (25, v), (26, I ks.length), (27, I j)]) (fun j => A ++ [.mp (mI i (((ks.map (rdx rs)).take j).foldl rst (rnd (ks.map (rdx rs)) t (fun p => p))))]) (fun j => ks.length - j) 0 (by omega) rfl (by simp [Has, rd_s]) rfl ?_
    intro j hj
    generalize hg : ((ks.map (rdx rs)).take j).foldl rst (rnd (ks.map (rdx rs)) t (fun p => p)) = g
    have hxm := hx.mono (pre_app A [.mp (mI i g)])
    have hum := hu.mono (pre_app A [.mp (mI i g)])
    by_cases hlt : j < ks.length
    · obtain ⟨z, hz⟩ : ∃ z, ks[j]? = some z := ⟨_, List.getElem?_eq_getElem hlt⟩
      have hlt' : (j : Int) < ks.length := by omega
      obtain ⟨k0, k1⟩ := hk z (List.mem_of_getElem? hz)
      obtain ⟨hr, _⟩ := rdx_at k0 k1
      obtain ⟨⟨a0, a1⟩, ⟨b0, b1⟩⟩ := hn.inP k0 k1
      have hri := hum.idxI (k := .i64) k0 (show z < (rs.length : Int) by omega)
      have hst : updI (updI g (rdx rs z).1 (min (g (rdx rs z).1) (g (rdx rs z).2.1))) (rdx rs z).2.1 (min (g (rdx rs z).1) (g (rdx rs z).2.1)) = rst g (rdx rs z) := rfl
      simp (maxSteps := 4000000) -implicitDefEqProofs -dsimp (disch := omega) only [↓AW_skip, ↓AW_ops, ↓AW_seq, ↓AW_cond, ↓AW_block, ↓AOps_nil, ↓AOps_pu, ↓AOps_ld, ↓AOps_ha, on_some, extK_false, condB_t, ↓then_normal, ↓inBlock_normal, pval, lval_ld, lval_look, hval_mset, rd_S, rd_C, put_S, putS_none, chkd, isAdr, bput, bgot, cells_agg, splice, partA, eq_self, mk, List.foldl_cons, List.foldl_nil, List.replicate_succ, List.replicate_zero, List.set_cons_zero, List.set_cons_succ, List.getElem?_cons_zero, List.getElem?_cons_succ, List.drop_zero, List.drop_succ_cons, List.drop_nil, List.take_zero, List.take_succ_cons, List.take_nil, Option.getD_some, Option.map_some, map_c, map_n, List.length_cons, List.length_nil, Nat.reduceAdd, Nat.reduceLeDiff, Nat.reduceEqDiff, Nat.zero_add, List.nil_append, List.append_nil, bin_add, bin_lss, mm_min, w64, if_true, if_false, Bool.false_eq_true, decide_true, Go.Eng.e1, true_and, ne_eq, not_true_eq_false, hlt', hxm.idx hlt, hxm.ld0 hz 1 false (by decide), hri, hum.ld0 hr 3 true (by decide), e3, lkI, msI, hst]
      refine ⟨j + 1, hlt, by simp [Has, rd_s], ?_⟩
      rw [map_take_snoc _ hz, List.foldl_append, hg]
      exact ⟨rfl, by omega⟩
    · have hlt' : ¬ ((j : Int) < ks.length) := by omega
      simp (maxSteps := 4000000) -implicitDefEqProofs -dsimp (disch := omega) only [↓AW_ops, ↓AW_seq, ↓AW_cond, ↓AW_exit, ↓AW_ret, ↓AOps_nil, ↓AOps_pu, on_some, condB_f, ↓then_normal, ↓then_exit, ↓inBlock_normal, ↓inBlock_exit, ↓Fin_ret, pval, rd_S, rd_C, put_S, resV, resL, eq_self, mk, List.foldl_cons, List.foldl_nil, List.replicate_succ, List.replicate_zero, List.set_cons_zero, List.set_cons_succ, List.getElem?_cons_zero, List.getElem?_cons_succ, Option.getD_some, List.length_cons, List.length_nil, Nat.reduceAdd, Nat.reduceEqDiff, Nat.zero_add, bin_add, bin_lss, w64, if_true, if_false, decide_false, true_and, hlt']
      refine ⟨t + 1, htl, by simp [Has, rd_s], ?_⟩
      rw [List.take_of_length_le (by simp; omega)] at hg
      rw [← hg]
      exact ⟨rfl, by omega⟩
  · have htl' : ¬ (t : Int) < i := by omega
    have hti : t = i := by omega
    subst hti
    simp (maxSteps := 4000000) -implicitDefEqProofs -dsimp (disch := omega) only [↓AW_ops, ↓AW_seq, ↓AW_cond, ↓AW_exit, ↓AW_ret, ↓AOps_nil, ↓AOps_pu, on_some, condB_f, ↓then_normal, ↓then_exit, ↓inBlock_exit, ↓Fin_ret, pval, rd_S, put_S, resV, resL, eq_self, mk, List.foldl_cons, List.foldl_nil, List.replicate_succ, List.replicate_zero, List.set_cons_zero, List.set_cons_succ, List.getElem?_cons_zero, List.getElem?_cons_succ, Option.getD_some, bin_lss, if_true, decide_false, htl']
    refine gc_same_all rfl ?_
    rw [mI_congr (fun p p0 p1 => rnd_lab hS p0 p1)]
end
end Go.Proofs.Ytkgfcdpckfhknaa

namespace Go.Proofs.Ytkgfcdpckfhknaa
open Go Go.Eng
def e0 (x : AV × List Int) : List AV := [x.1]
/-- A list of lists in memory. -/
structure LL (A : AHeap) (v : AV) (ws : List (AV × List Int)) : Prop where
  ls : Ls 1 e0 A v ws
  inn : ∀ x ∈ ws, L1 A x.1 x.2
theorem LL.mono {A A' : AHeap} {v : AV} {ws : List (AV × List Int)} (h : LL A v ws) (hp : A <+: A') : LL A' v ws := ⟨h.ls.mono hp, fun x hx => (h.inn x hx).mono hp⟩
abbrev lists (ws : List (AV × List Int)) : List (List Int) := ws.map Prod.snd
theorem e0_len (x : AV × List Int) : (e0 x).length = 1 := rfl
/-- Where the rows of a list of lists stand: each in an object of its own that the call has made, with more cells behind. -/
structure NR (A H : AHeap) (u : AV) (x : AV × List Int) : Prop where
  row : (x.1 = .nilS ∧ x.2 = []) ∨ ∃ n full cs, x.1 = .sl 1 n 0 x.2.length full ∧ A.length ≤ n ∧ H[n]? = some (.cells true (x.2.flatMap e1 ++ cs)) ∧ nm u ≠ n
theorem NR.l1 {A H : AHeap} {u : AV} {x : AV × List Int} (h : NR A H u x) : L1 H x.1 x.2 := by
  rcases h.row with ⟨h1, h2⟩ | ⟨n, full, cs, h1, _, h3, _⟩
  · rw [h1, h2]; exact L1_nil _
  · rw [h1]
    refine ⟨e1_len, ?_⟩
    have hl := flatMap_length e1_len x.2
    simp only [slCells, cellsAt, h3, if_true, Nat.zero_add]
    rw [if_pos (by rw [List.length_append]; omega)]
    simp only [List.drop_zero, Option.map_some, Option.some.injEq, Prod.mk.injEq, true_and]
    rw [← hl, List.take_left]
/-- Rows stand in different objects. -/
def Apart (ws : List (AV × List Int)) : Prop := ws.Pairwise (fun x y => x.1 = .nilS ∨ y.1 = .nilS ∨ nm x.1 ≠ nm y.1)
/-- A list of lists that the call has made. -/
structure NL (A H : AHeap) (u : AV) (ws : List (AV × List Int)) : Prop where
  acc : AccL 1 e0 A H u ws
  rows : ∀ x ∈ ws, NR A H u x
  apart : Apart ws
theorem NL.ll {A H : AHeap} {u : AV} {ws : List (AV × List Int)} (h : NL A H u ws) : LL H u ws := ⟨AccL_ls h.acc e0_len, fun x hx => (h.rows x hx).l1⟩
theorem NL.nil {A H : AHeap} (h : A <+: H) : NL A H .nilS [] := ⟨AccL.nil h, by simp, List.Pairwise.nil⟩
/-- One row more. -/
theorem NL.push {A H : AHeap} {u : AV} {ws : List (AV × List Int)} (h : NL A H u ws) (x : AV × List Int) (hx : (x.1 = .nilS ∧ x.2 = [] ∧ True) ∨ ∃ n full cs, x.1 = .sl 1 n 0 x.2.length full ∧ A.length ≤ n ∧ H[n]? = some (.cells true (x.2.flatMap e1 ++ cs)) ∧ nm u ≠ n ∧ ∀ y ∈ ws, y.1 = .nilS ∨ nm y.1 ≠ n) (hl : ws.length + 1 ≤ lim) :
    ∃ v' H2, appA 1 (H ++ [.cells true [x.1]]) u (.sl 1 H.length 0 1 true) = some (v', H2) ∧ NL A H2 v' (ws ++ [x]) := by
  obtain ⟨v', H2, h1, h2, h3, n', len', h4, h5⟩ := AccL_push2 h.acc e0_len (by omega) x hl
  have hold : ∀ (y : AV × List Int), NR A H u y → NR A H2 v' y := by
    intro y hy
    refine ⟨?_⟩
    rcases hy.row with h6 | ⟨n, full, cs, g1, g2, g3, g4⟩
    · exact .inl h6
    · have hn := (List.getElem?_eq_some_iff.1 g3).1
      refine .inr ⟨n, full, cs, g1, g2, h3 n _ g3 (fun k len hk hnk => ?_), ?_⟩
      · rw [hk] at g4; exact g4 hnk.symm
      · rw [h4]; simp only [nm]; omega
  have hxr : NR A H u x := by
    refine ⟨?_⟩
    rcases hx with ⟨a, b, _⟩ | ⟨n, full, cs, g1, g2, g3, g4, _⟩
    · exact .inl ⟨a, b⟩
    · exact .inr ⟨n, full, cs, g1, g2, g3, g4⟩
  refine ⟨v', H2, h1, h2, fun y hy => ?_, ?_⟩
  · rcases List.mem_append.1 hy with hy | hy
    · exact hold y (h.rows y hy)
    · have : y = x := by simpa using hy
      rw [this]; exact hold x hxr
  · unfold Apart
    rw [List.pairwise_append]
    refine ⟨h.apart, by simp, fun a ha b hb => ?_⟩
    have : b = x := by simpa using hb
    subst this
    rcases hx with ⟨g1, _⟩ | ⟨n, full, cs, g1, _, _, _, g5⟩
    · exact .inr (.inl g1)
    · rcases g5 a ha with g | g
      · exact .inl g
      · refine .inr (.inr ?_)
        rw [g1]; exact g
theorem NL.mono {A H H' : AHeap} {u : AV} {ws : List (AV × List Int)} (h : NL A H u ws) (hp : H <+: H') : NL A H' u ws := by
  refine ⟨h.acc.mono hp, fun x hx => ⟨?_⟩, h.apart⟩
  rcases (h.rows x hx).row with h6 | ⟨n, full, cs, g1, g2, g3, g4⟩
  · exact .inl h6
  · exact .inr ⟨n, full, cs, g1, g2, pre_get hp g3, g4⟩
theorem NL.lt {A H : AHeap} {u : AV} {ws : List (AV × List Int)} (h : NL A H u ws) : (∀ y ∈ ws, y.1 = .nilS ∨ nm y.1 < H.length) ∧ (ws = [] ∨ nm u < H.length) := by
  refine ⟨fun y hy => ?_, ?_⟩
  · rcases (h.rows y hy).row with ⟨h6, _⟩ | ⟨n, full, cs, g1, g2, g3, g4⟩
    · exact .inl h6
    · right; rw [g1]; exact (List.getElem?_eq_some_iff.1 g3).1
  · rcases h.acc.2.2 with ⟨h3, _⟩ | ⟨h3, n, h4, h5, h6⟩
    · exact .inl (List.eq_nil_of_length_eq_zero h3)
    · right; rw [h4]; exact (List.getElem?_eq_some_iff.1 h6).1
theorem NL.base {A0 A H : AHeap} {u : AV} {ws : List (AV × List Int)} (hp : A0 <+: A) (h : NL A H u ws) : NL A0 H u ws := by
  refine ⟨AccL_base0 hp h.acc, fun x hx => ⟨?_⟩, h.apart⟩
  rcases (h.rows x hx).row with h6 | ⟨n, full, cs, g1, g2, g3, g4⟩
  · exact .inl h6
  · exact .inr ⟨n, full, cs, g1, Nat.le_trans hp.length_le g2, g3, g4⟩
theorem Ls_cells {α : Type} {es : Nat} {e : α → List AV} {A : AHeap} {u : AV} {xs : List α} (h : Ls es e A u xs) : u.cells? = some [u] := by
  rcases h.inv with ⟨rfl, _⟩ | ⟨n, off, full, rw, l, rfl, _⟩ <;> rfl
theorem nm_ne_nil {A H : AHeap} {u : AV} {ws : List (AV × List Int)} (h : NL A H u ws) {n : Nat} (hn : H.length ≤ n) (hu : 0 < A.length) : nm u ≠ n := by
  rcases h.acc.2.2 with ⟨_, h4⟩ | ⟨_, m, h4, _, h6⟩
  · rw [h4]; simp only [nm]
    have := h.acc.1.length_le
    omega
  · rw [h4]; have := (List.getElem?_eq_some_iff.1 h6).1; simp only [nm]; omega
theorem splice_more {a c cs : List AV} {off : Nat} (h : off + c.length ≤ a.length) : splice (a ++ cs) off c = splice a off c ++ cs := by
  unfold splice
  rw [List.take_append_of_le_length (by omega), List.drop_append_of_le_length h]
  simp only [List.append_assoc]
theorem flat0 (ws : List (AV × List Int)) : ws.flatMap e0 = ws.map Prod.fst := by
  induction ws with
  | nil => rfl
  | cons x r ih => rw [List.flatMap_cons, ih]; rfl
theorem fst_set {ws : List (AV × List Int)} {i : Nat} {x : AV × List Int} (hz : ws[i]? = some x) (l : List Int) : (ws.set i (x.1, l)).map Prod.fst = ws.map Prod.fst := by
  apply List.ext_getElem?
  intro j
  rw [List.getElem?_map, List.getElem?_map, List.getElem?_set]
  by_cases hij : i = j
  · subst hij
    have := (List.getElem?_eq_some_iff.1 hz).1
    rw [if_pos rfl, if_pos this, hz]; rfl
  · rw [if_neg hij]
theorem Apart_fst {ws vs : List (AV × List Int)} (h : ws.map Prod.fst = vs.map Prod.fst) (ha : Apart vs) : Apart ws := by
  unfold Apart at *
  have h1 := (List.pairwise_map (f := Prod.fst) (R := fun a b : AV => a = .nilS ∨ b = .nilS ∨ nm a ≠ nm b) (l := vs)).2 ha
  rw [← h] at h1
  exact List.pairwise_map.1 h1
theorem Apart_ne {ws : List (AV × List Int)} (h : Apart ws) {i j : Nat} {x y : AV × List Int} (hi : ws[i]? = some x) (hj : ws[j]? = some y) (hij : i ≠ j) : x.1 = .nilS ∨ y.1 = .nilS ∨ nm x.1 ≠ nm y.1 := by
  obtain ⟨h1, rfl⟩ := List.getElem?_eq_some_iff.1 hi
  obtain ⟨h2, rfl⟩ := List.getElem?_eq_some_iff.1 hj
  rcases Nat.lt_or_gt_of_ne hij with h3 | h3
  · exact List.pairwise_iff_getElem.1 h i j h1 h2 h3
  · rcases List.pairwise_iff_getElem.1 h j i h2 h1 h3 with h4 | h4 | h4
    · exact .inr (.inl h4)
    · exact .inl h4
    · exact .inr (.inr (Ne.symm h4))
/-- A number of a row is written. -/
theorem NL.st {A H : AHeap} {u : AV} {ws : List (AV × List Int)} (h : NL A H u ws) {i : Nat} {x : AV × List Int} (hz : ws[i]? = some x) {k : Nat} (hk : k < x.2.length) (q : Int) :
    ∃ H2, stA 1 (.ptr (nm x.1) (of x.1 + k * 1)) (I q) H = some H2 ∧ NL A H2 u (ws.set i (x.1, x.2.set k q)) := by
  rcases (h.rows x (List.mem_of_getElem? hz)).row with ⟨_, h2⟩ | ⟨n, full, cs, g1, g2, g3, g4⟩
  · rw [h2] at hk; simp at hk
  · have hil := (List.getElem?_eq_some_iff.1 hz).1
    have hnl := (List.getElem?_eq_some_iff.1 g3).1
    have hfl := flatMap_length e1_len x.2
    have hsp : splice (x.2.flatMap e1 ++ cs) (k * 1) (e1 q) = (x.2.set k q).flatMap e1 ++ cs := by
      rw [splice_more (by rw [e1_len, hfl]; omega), splice_flat e1_len hk q]
    refine ⟨H.set n (.cells true ((x.2.set k q).flatMap e1 ++ cs)), ?_, ?_, ?_, ?_⟩
    · rw [g1]
      have hq : (I q).cells? = some (e1 q) := rfl
      simp only [stA, nm, of, hq, g3, Nat.zero_add]
      rw [if_pos ⟨e1_len q, by rw [List.length_append, hfl]; omega⟩, hsp]
    · have hlen : (ws.set i (x.1, x.2.set k q)).length = ws.length := List.length_set ..
      have hfm : (ws.set i (x.1, x.2.set k q)).flatMap e0 = ws.flatMap e0 := by rw [flat0, flat0, fst_set hz]
      unfold AccL
      rw [hlen, hfm]
      obtain ⟨a1, a2, a3⟩ := h.acc
      refine ⟨pre_set a1 g2 _, a2, ?_⟩
      rcases a3 with a4 | ⟨b0, m, b4, b5, b6⟩
      · exact .inl a4
      · refine .inr ⟨b0, m, b4, b5, ?_⟩
        rw [b4] at g4
        have g5 : m ≠ n := g4
        rw [List.getElem?_set_ne (Ne.symm g5)]
        exact b6
    · intro y hy
      obtain ⟨j, hj⟩ := List.mem_iff_getElem?.1 hy
      rw [List.getElem?_set] at hj
      by_cases hij : i = j
      · rw [if_pos hij, if_pos (by omega)] at hj
        have : (x.1, x.2.set k q) = y := Option.some.inj hj
        subst this
        refine ⟨.inr ⟨n, full, cs, ?_, g2, by rw [List.getElem?_set_self hnl], g4⟩⟩
        simp only [List.length_set]
        exact g1
      · rw [if_neg hij] at hj
        refine ⟨?_⟩
        rcases (h.rows y (List.mem_of_getElem? hj)).row with c1 | ⟨n', full', cs', c1, c2, c3, c4⟩
        · exact .inl c1
        · refine .inr ⟨n', full', cs', c1, c2, ?_, c4⟩
          rcases Apart_ne h.apart hz hj hij with d | d | d
          · rw [g1] at d; cases d
          · rw [c1] at d; cases d
          · rw [g1, c1] at d
            have d2 : n ≠ n' := d
            rw [List.getElem?_set_ne d2]
            exact c3
    · exact Apart_fst (fst_set hz _) h.apart
section
variable {α : Type} {f : α → α} {l : List α} {k : Nat} {z : α}
end
end Go.Proofs.Ytkgfcdpckfhknaa

namespace Go.Proofs.Ytkgfcdpckfhknaa
open Go Go.Eng
theorem lkI' {H : AHeap} {n P : Nat} {g : Int → Int} (h : H[n]? = some (.mp (mI P g))) {k : Int} (h0 : 0 ≤ k) (h1 : k < P) : lkA (I 0) false (.mp n) (I k) H = some (I (g k)) :=
  lk_at h rfl _ _ (mem_plc.2 ⟨h0, h1⟩)
/-- The groups that some roads join. -/
noncomputable def grp (P : Nat) (S : List Rd) : List (List Int) := (roots P S).map (fun p => (plc P).filter (fun q => decide (lab S q = p)))
theorem grp_len (P : Nat) (S : List Rd) : (grp P S).length = comps P S := by simp [grp, comps]
theorem filt_succ (f : Int → Bool) (i : Nat) : (plc (i + 1)).filter f = (plc i).filter f ++ (if f (i : Int) = true then [(i : Int)] else []) := by
  rw [plc_succ, List.filter_append]
  congr 1
  by_cases h : f (i : Int) = true
  · rw [if_pos h, List.filter_cons_of_pos h, List.filter_nil]
  · rw [if_neg h, List.filter_cons_of_neg h, List.filter_nil]
theorem filt_len (f : Int → Bool) (i : Nat) : ((plc i).filter f).length ≤ i := by
  have := List.length_filter_le f (plc i)
  rw [plc_len] at this
  exact this
section
variable {P : Nat} {rs : List Rd} {ks : List Int} {u v : AV} {A : AHeap}
set_option maxHeartbeats 8000000 in
theorem c_groups (hu : L3 A u rs) (hx : L1 A v ks) (hn : Net P rs) (hk : Nos rs ks) (hl : ks.length ≤ 1000000) : ∃ r H, ACalls Try.prog 74 [.agg [I P, u], v] A r H ∧ A <+: H ∧ ∃ ws, NL A H r ws ∧ lists ws = grp P (ks.map (rdx rs)) := by
  refine acallsR hmix Try.func74 (by kernel_rfl) t74 _ 2 rfl (by decide) ?_
  have hP7 := hn.p7
  dsimp only [m74]
  simp (maxSteps := 4000000) -implicitDefEqProofs -dsimp (disch := omega) only [↓AW_ops, ↓AW_seq, ↓AOps_nil, ↓AOps_pu, ↓AOps_call, on_some, ↓then_normal, pval, rd_S, rd_C, put_S, chkd, bgot, cells_agg, partA, eq_self, List.replicate_succ, List.replicate_zero, List.set_cons_zero, List.set_cons_succ, List.getElem?_cons_zero, List.getElem?_cons_succ, List.drop_zero, List.take_succ_cons, List.take_nil, Option.getD_some, map_c, map_n, List.length_cons, List.length_nil, Nat.reduceAdd, Nat.reduceSub, Nat.reduceLeDiff, Nat.reduceEqDiff, Nat.zero_add, List.cons_append, List.nil_append, if_true, if_false]
  refine CallK.of (s99 hu hx hn hk hl) ?_
  generalize hS : ks.map (rdx rs) = S at *
  have hpA := pre_app A [.mp (mI P (lab S))]
  have hmA := mp_new A (.mp (mI P (lab S)))
  generalize hA1 : A ++ [.mp (mI P (lab S))] = A1 at *
  simp (maxSteps := 4000000) -implicitDefEqProofs -dsimp (disch := omega) only [↓AW_ops, ↓AW_seq, ↓AW_block, ↓AOps_nil, ↓AOps_pu, on_some, extK_false, ↓then_normal, pval, rd_S, rd_C, put_S, ↓AW_toLoop, chkd, isAdr, bgot, cells_agg, partA, eq_self, List.replicate_succ, List.replicate_zero, List.set_cons_zero, List.set_cons_succ, List.getElem?_cons_zero, List.getElem?_cons_succ, List.drop_zero, List.take_zero, List.take_succ_cons, Option.getD_some, List.length_cons, List.length_nil, Nat.reduceAdd, Nat.reduceSub, Nat.reduceLeDiff, Nat.zero_add, List.cons_append, List.nil_append, if_true, if_false, Bool.false_eq_true]
  refine LoopK.by 44 (fun x : Nat × AV × AHeap × List (AV × List Int) => x.1 ≤ P ∧ NL A1 x.2.2.1 x.2.1 x.2.2.2 ∧ lists x.2.2.2 = ((plc x.1).filter (fun p => decide (Root S p))).map (fun p => (plc P).filter (fun q => decide (lab S q = p))))
    (fun z => [(2, .agg [I P, u]), (5, .mp A.length), (6, z.2.1), (14, I P), (15, I z.1)]) (fun z => z.2.2.1) (fun z => P - z.1) (0, .nilS, A1, []) ⟨by simp only; omega, NL.nil (List.prefix_refl _), rfl⟩ rfl (by simp [Has, rd_s]) rfl ?_
  rintro ⟨i, y, H, ws⟩ ⟨hi, hnl, hli⟩
  simp only at hi hnl hli
  have hmH := pre_get hnl.acc.1 hmA
  by_cases hlt : i < P
  · have hlt' : (i : Int) < P := by omega
    have hlk := lkI' hmH (k := (i : Int)) (by omega) hlt'
    by_cases hr : Root S (i : Int)
    · have hlab := (lab_self_iff (by omega)).2 hr
      simp (maxSteps := 4000000) -implicitDefEqProofs -dsimp (disch := omega) only [↓AW_skip, ↓AW_ops, ↓AW_seq, ↓AW_cond, ↓AW_block, ↓AOps_nil, ↓AOps_pu, ↓AOps_ld, on_some, condB_t, condB_f, ↓then_normal, pval, lval_look, rd_S, rd_C, put_S, ↓AW_toLoop, chkd, isAdr, bgot, cells_agg, partA, eq_self, mk, List.foldl_cons, List.foldl_nil, List.replicate_succ, List.replicate_zero, List.set_cons_zero, List.set_cons_succ, List.getElem?_cons_zero, List.getElem?_cons_succ, List.drop_zero, List.take_zero, List.take_succ_cons, Option.getD_some, List.length_cons, List.length_nil, Nat.reduceAdd, Nat.reduceLeDiff, Nat.zero_add, bin_neq, bin_lss, if_true, if_false, Bool.false_eq_true, decide_true, decide_false, not_true_eq_false, hlt', hlk, hlab]
      refine LoopK.by 44 (fun x : Nat × AV × AHeap => x.1 ≤ P ∧ AccL 1 e1 H x.2.2 x.2.1 ((plc x.1).filter (fun q => decide (lab S q = (i : Int)))))
        (fun z => [(2, .agg [I P, u]), (5, .mp A.length), (6, y), (7, I i), (8, z.2.1), (14, I P), (15, I i), (24, I P), (25, I z.1)]) (fun z => z.2.2) (fun z => P - z.1) (0, .nilS, H) ⟨by simp only; omega, AccL.nil (List.prefix_refl _)⟩ rfl (by simp [Has, rd_s]) rfl ?_
      rintro ⟨j, z, G⟩ ⟨hj, hac⟩
      simp only at hj hac
      have hmG := pre_get hac.1 hmH
      by_cases hjl : j < P
      · have hjl' : (j : Int) < P := by omega
        have hlkj := lkI' hmG (k := (j : Int)) (by omega) hjl'
        by_cases hq : lab S (j : Int) = (i : Int)
        · have hfl := filt_len (fun q => decide (lab S q = (i : Int))) j
          obtain ⟨v', H2, happ, hacc, _, n, len, rfl, _⟩ := AccL_push2 hac e1_len (by omega) (j : Int) (by simp only [lim]; omega)
          simp only [Go.Eng.e1] at happ
          simp (maxSteps := 4000000) -implicitDefEqProofs -dsimp (disch := omega) only [↓AW_skip, ↓AW_ops, ↓AW_seq, ↓AW_cond, ↓AW_block, ↓AOps_nil, ↓AOps_pu, ↓AOps_ld, ↓AOps_ha, on_some, extK_false, extK_app, condB_t, ↓then_normal, ↓inBlock_normal, pval, lval_look, hval_blds, hval_app, rd_S, rd_C, put_S, cells_int, splice, fillA, repl, eq_self, mk, List.foldl_cons, List.foldl_nil, List.replicate_succ, List.replicate_zero, List.set_cons_zero, List.set_cons_succ, List.getElem?_cons_zero, List.getElem?_cons_succ, List.drop_succ_cons, List.drop_nil, List.take_zero, Option.getD_some, map_c, map_n, List.length_cons, List.length_nil, Nat.reduceAdd, Nat.reduceLeDiff, Nat.zero_add, List.nil_append, List.append_nil, bin_add, bin_eql, bin_lss, w64, if_true, decide_true, true_and, and_true, hjl', hlkj, hq, happ, List.replicate_zero, repl]
          refine ⟨(j + 1, .sl 1 n 0 len false, H2), ⟨hjl, ?_⟩, by simp [Has, rd_s], rfl, by simp only; omega⟩
          rw [filt_succ, if_pos (decide_eq_true hq)]
          exact hacc
        · simp (maxSteps := 4000000) -implicitDefEqProofs -dsimp (disch := omega) only [↓AW_skip, ↓AW_ops, ↓AW_seq, ↓AW_cond, ↓AW_block, ↓AOps_nil, ↓AOps_pu, ↓AOps_ld, on_some, condB_t, condB_f, ↓then_normal, ↓inBlock_normal, pval, lval_look, rd_S, rd_C, put_S, eq_self, mk, List.foldl_cons, List.foldl_nil, List.replicate_succ, List.replicate_zero, List.set_cons_zero, List.set_cons_succ, List.getElem?_cons_zero, List.getElem?_cons_succ, Option.getD_some, List.length_cons, List.length_nil, Nat.reduceAdd, Nat.zero_add, bin_add, bin_eql, bin_lss, w64, decide_true, decide_false, true_and, hjl', hlkj, hq]
          refine ⟨(j + 1, z, G), ⟨hjl, ?_⟩, by simp [Has, rd_s], rfl, by simp only; omega⟩
          rw [filt_succ, if_neg (by simpa using hq), List.append_nil]
          exact hac
      · have hjl' : ¬ (j : Int) < P := by omega
        have hjP : j = P := by omega
        subst hjP
        have hmem : (i : Int) ∈ (plc j).filter (fun q => decide (lab S q = (i : Int))) := by
          rw [List.mem_filter, mem_plc]
          exact ⟨⟨by omega, hlt'⟩, decide_eq_true hlab⟩
        have hpos := List.length_pos_of_mem hmem
        obtain ⟨n, hn1, hn2, hn3⟩ : ∃ n, z = .sl 1 n 0 ((plc j).filter (fun q => decide (lab S q = (i : Int)))).length false ∧ H.length ≤ n ∧ G[n]? = some (.cells true (((plc j).filter (fun q => decide (lab S q = (i : Int)))).flatMap e1)) := by
          rcases hac.2.2 with ⟨h3, _⟩ | ⟨_, n, h4, h5, h6⟩
          · omega
          · exact ⟨n, h4, h5, h6⟩
        have hA1l : 0 < A1.length := by rw [← hA1]; simp
        have hwl : ws.length = ((plc i).filter (fun p => decide (Root S p))).length := by
          have := congrArg List.length hli
          simpa using this
        have hwl2 := filt_len (fun p => decide (Root S p)) i
        obtain ⟨v3, H4, happ, h3⟩ := (hnl.mono hac.1).push (z, (plc j).filter (fun q => decide (lab S q = (i : Int)))) (.inr ⟨n, false, [], hn1, Nat.le_trans hnl.acc.1.length_le hn2, by rw [List.append_nil]; exact hn3, nm_ne_nil hnl hn2 hA1l, fun y hy => (hnl.lt.1 y hy).imp id (fun h => by omega)⟩) (by simp only [lim]; omega)
        simp only at happ
        have hv3c : v3.cells? = some [v3] := Ls_cells (AccL_ls h3.acc e0_len)
        have hzc : z.cells? = some [z] := by rw [hn1]; rfl
        simp (maxSteps := 4000000) -implicitDefEqProofs -dsimp (disch := omega) only [↓AW_ops, ↓AW_seq, ↓AW_cond, ↓AW_exit, ↓AW_ret, ↓AOps_nil, ↓AOps_pu, ↓AOps_ha, on_some, extK_false, extK_app, condB_f, ↓then_normal, ↓then_exit, ↓inBlock_normal, ↓inBlock_exit, ↓FinR_ret, pval, hval_blds, hval_app, rd_S, rd_C, put_S, resV, resL, splice, fillA, repl, eq_self, mk, List.foldl_cons, List.foldl_nil, List.replicate_succ, List.replicate_zero, List.set_cons_zero, List.set_cons_succ, List.getElem?_cons_zero, List.getElem?_cons_succ, List.drop_succ_cons, List.drop_nil, List.take_zero, Option.getD_some, map_c, map_n, List.length_cons, List.length_nil, Nat.reduceAdd, Nat.reduceLeDiff, Nat.reduceEqDiff, Nat.zero_add, List.nil_append, List.append_nil, bin_add, bin_lss, w64, if_true, if_false, decide_false, true_and, and_true, reduceCtorEq, hjl', hzc, happ, List.replicate_zero, repl]
        refine ⟨(i + 1, v3, H4, ws ++ [(z, (plc j).filter (fun q => decide (lab S q = (i : Int))))]), ⟨hlt, h3, ?_⟩, by simp [Has, rd_s], rfl, by simp only; omega⟩
        simp only [lists, List.map_append, List.map_cons, List.map_nil]
        rw [filt_succ, if_pos (decide_eq_true hr), List.map_append, show List.map Prod.snd ws = _ from hli]
        rfl
    · have hlab : ¬ lab S (i : Int) = (i : Int) := fun e => hr ((lab_self_iff (by omega)).1 e)
      simp (maxSteps := 4000000) -implicitDefEqProofs -dsimp (disch := omega) only [↓AW_skip, ↓AW_ops, ↓AW_seq, ↓AW_cond, ↓AW_block, ↓AW_exit, ↓AW_ret, ↓AOps_nil, ↓AOps_pu, ↓AOps_ld, on_some, condB_t, ↓then_normal, ↓then_exit, ↓inBlock_exit, ↓FinR_ret, pval, lval_look, rd_S, rd_C, put_S, resV, resL, eq_self, mk, List.foldl_cons, List.foldl_nil, List.replicate_succ, List.replicate_zero, List.set_cons_zero, List.set_cons_succ, List.getElem?_cons_zero, List.getElem?_cons_succ, Option.getD_some, List.length_cons, List.length_nil, Nat.reduceAdd, Nat.zero_add, bin_add, bin_neq, bin_lss, w64, if_true, if_false, decide_true, true_and, reduceCtorEq, not_false_eq_true, hlt', hlk, hlab]
      refine ⟨(i + 1, y, H, ws), ⟨hlt, hnl, ?_⟩, by simp [Has, rd_s], rfl, by simp only; omega⟩
      rw [filt_succ, if_neg (by simpa using hr), List.append_nil]
      exact hli
  · have hlt' : ¬ (i : Int) < P := by omega
    have hiP : i = P := by omega
    subst hiP
    simp (maxSteps := 4000000) -implicitDefEqProofs -dsimp (disch := omega) only [↓AW_ops, ↓AW_seq, ↓AW_cond, ↓AW_exit, ↓AW_ret, ↓AOps_nil, ↓AOps_pu, on_some, condB_f, ↓then_normal, ↓then_exit, ↓inBlock_exit, ↓FinR_ret, pval, rd_S, put_S, resV, resL, eq_self, mk, List.foldl_cons, List.foldl_nil, List.replicate_succ, List.replicate_zero, List.set_cons_zero, List.set_cons_succ, List.getElem?_cons_zero, List.getElem?_cons_succ, Option.getD_some, bin_lss, if_true, decide_false, hlt']
    exact ⟨_, _, gc_all, hpA.trans hnl.acc.1, ws, hnl.base hpA, hli⟩
noncomputable instance treeDec (P : Nat) (R : Int → Rd) (T : List Int) : Decidable (Tree P R T) := by unfold Tree; infer_instance
theorem s60 (hu : L3 A u rs) (hx : L1 A v ks) (hn : Net P rs) (hk : Nos rs ks) (hl : ks.length ≤ 1000000) : ACalls Try.prog 60 [.agg [I P, u], v] A (B (decide (Tree P (rdx rs) ks))) A := by
  refine acalls hmix Try.func60 (by kernel_rfl) t60 2 rfl (by decide) ?_
  have hP7 := hn.p7
  have hP1 := hn.p1
  by_cases h1 : (ks.length : Int) = P - 1
  · dsimp only [m60]
    simp (maxSteps := 4000000) -implicitDefEqProofs -dsimp (disch := omega) only [↓AW_ops, ↓AW_seq, ↓AOps_nil, ↓AOps_pu, ↓AOps_call, ↓AOps_guard, on_some, guardB_tt, ↓then_normal, pval, rd_S, rd_C, put_S, chkd, isAdr, bgot, AV.cells?, partA, eq_self, List.replicate_succ, List.replicate_zero, List.set_cons_zero, List.set_cons_succ, List.getElem?_cons_zero, List.getElem?_cons_succ, List.drop_zero, List.take_zero, List.take_succ_cons, List.take_nil, Option.getD_some, map_c, map_n, List.length_cons, List.length_nil, Nat.reduceAdd, Nat.reduceSub, Nat.reduceLeDiff, Nat.reduceEqDiff, Nat.zero_add, List.cons_append, List.nil_append, bin_sub, bin_eql, w64, if_true, if_false, Bool.false_eq_true, decide_true, hx.len, h1]
    obtain ⟨r, H, hc, hp, ws, hnl, hli⟩ := c_groups hu hx hn hk hl
    refine CallK.of hc ?_
    have hwl : ws.length = comps P (ks.map (rdx rs)) := by
      have := congrArg List.length hli
      rw [grp_len] at this
      simpa using this
    have hlen := hnl.ll.ls.len
    rw [hwl] at hlen
    simp (maxSteps := 4000000) -implicitDefEqProofs -dsimp (disch := omega) only [↓AW_ret, ↓AOps_nil, ↓AOps_pu, ↓AOps_guard, on_some, extK_false, guardB_tt, ↓then_normal, ↓Fin_ret, pval, rd_S, rd_C, put_S, resV, resL, eq_self, List.replicate_succ, List.replicate_zero, List.set_cons_zero, List.set_cons_succ, List.getElem?_cons_zero, List.getElem?_cons_succ, Option.getD_some, Nat.reduceSub, List.cons_append, List.nil_append, bin_eql, if_true, hlen]
    refine gc_val hp ?_
    show AV.bool _ = _
    congr 1
    rw [decide_eq_decide]
    unfold Tree
    omega
  · dsimp only [m60]
    simp (maxSteps := 4000000) -implicitDefEqProofs -dsimp (disch := omega) only [↓AW_ops, ↓AW_seq, ↓AW_ret, ↓AOps_nil, ↓AOps_pu, ↓AOps_guard, on_some, guardB_ft, skipS_some, ↓then_normal, ↓Fin_ret, pval, rd_S, rd_C, put_S, resV, resL, chkd, isAdr, bgot, AV.cells?, partA, eq_self, List.replicate_succ, List.replicate_zero, List.set_cons_zero, List.set_cons_succ, List.getElem?_cons_zero, List.getElem?_cons_succ, List.drop_zero, List.take_zero, List.take_succ_cons, Option.getD_some, List.length_cons, List.length_nil, Nat.reduceAdd, Nat.reduceSub, Nat.reduceLeDiff, Nat.zero_add, List.cons_append, List.nil_append, bin_sub, bin_eql, w64, if_true, if_false, Bool.false_eq_true, decide_false, hx.len, h1]
    exact gc_same (by rw [decide_eq_false (fun hh => h1 (by have := hh.1; omega))])
end
end Go.Proofs.Ytkgfcdpckfhknaa

namespace Go.Proofs.Ytkgfcdpckfhknaa
open Go Go.Eng
section
variable {P : Nat} {rs : List Rd} {ks : List Int} {u v : AV} {A : AHeap}
end
end Go.Proofs.Ytkgfcdpckfhknaa

namespace Go.Proofs.Ytkgfcdpckfhknaa
open Go Go.Eng
/-- A road's cost. -/
def wct (rs : List Rd) (k : Int) : Int := (rdx rs k).2.2
theorem Net.wb {P : Int} {rs : List Rd} (h : Net P rs) {k : Int} (h0 : 0 ≤ k) (h1 : k ≤ (rs.length : Int) - 1) : 0 ≤ wct rs k ∧ wct rs k ≤ 99 := by
  have := h.r _ (rdx_at h0 h1).2
  exact this.2.2
theorem cst_snoc {w : Int → Int} {ks : List Int} {i : Nat} {z : Int} (h : ks[i]? = some z) : cst w (ks.take (i + 1)) = cst w (ks.take i) + w z := by
  unfold cst
  rw [List.take_add_one, h, List.map_append, List.sum_append]
  simp
theorem cst_bd {w : Int → Int} {M : Int} : ∀ {ks : List Int}, (∀ k ∈ ks, 0 ≤ w k ∧ w k ≤ M) → 0 ≤ cst w ks ∧ cst w ks ≤ M * ks.length
  | [], _ => by simp [cst]
  | k :: ks, h => by
    have ih := cst_bd (fun x hx => h x (List.mem_cons_of_mem k hx))
    have hk := h k (by simp)
    rw [cst_cons]
    simp only [List.length_cons, Int.natCast_add, Int.cast_ofNat_Int, Int.mul_add, Int.mul_one]
    omega
theorem Net.nat {P : Int} {rs : List Rd} (h : Net P rs) : ∃ p : Nat, P = p := ⟨P.toNat, by have := h.p1; omega⟩
/-- The error of a set that should be a tree. -/
noncomputable def tE (P : Int) (rs : List Rd) (ks : List Int) : Int := if vE P rs = 0 then (if okS rs.length ks then (if Tree P.toNat (rdx rs) ks then 0 else 7) else 1) else vE P rs
theorem tE_v {P : Int} {rs : List Rd} {ks : List Int} (h : ¬ vE P rs = 0) : tE P rs ks = vE P rs := by unfold tE; rw [if_neg h]
theorem tE_1 {P : Int} {rs : List Rd} {ks : List Int} (h : vE P rs = 0) (h2 : ¬ okS rs.length ks) : tE P rs ks = 1 := by unfold tE; rw [if_pos h, if_neg h2]
theorem tE_7 {P : Nat} {rs : List Rd} {ks : List Int} (h : vE P rs = 0) (h2 : okS rs.length ks) (h3 : ¬ Tree P (rdx rs) ks) : tE P rs ks = 7 := by unfold tE; rw [if_pos h, if_pos h2, Int.toNat_natCast, if_neg h3]
theorem tE_0 {P : Nat} {rs : List Rd} {ks : List Int} : tE P rs ks = 0 ↔ Net P rs ∧ okS rs.length ks ∧ Tree P (rdx rs) ks := by
  rw [← vE_0]
  unfold tE
  rw [Int.toNat_natCast]
  constructor
  · intro h
    split at h
    · rename_i h1
      split at h
      · rename_i h2
        split at h
        · rename_i h3; exact ⟨h1, h2, h3⟩
        · cases h
      · cases h
    · rename_i h1; exact absurd h h1
  · rintro ⟨h1, h2, h3⟩
    rw [if_pos h1, if_pos h2, if_pos h3]
theorem tE_net {P : Int} {rs : List Rd} {ks : List Int} (h : tE P rs ks = 0) : Net P rs := by
  rw [← vE_0]
  exact Classical.byContradiction (fun hn => hn (by rw [← tE_v hn]; exact h))
section
variable {P : Nat} {rs : List Rd} {ks : List Int} {u v : AV} {A : AHeap}
theorem s79 (hu : L3 A u rs) (hx : L1 A v ks) (hn : Net P rs) (hk : Nos rs ks) (hl : ks.length ≤ 1000000) : ACalls Try.prog 79 [.agg [I P, u], v] A (I (cst (wct rs) ks)) A := by
  refine acalls hmix Try.func79 (by kernel_rfl) t79 2 rfl (by decide) ?_
  dsimp only [m79]
  simp (maxSteps := 4000000) -implicitDefEqProofs -dsimp (disch := omega) only [↓AW_ops, ↓AW_seq, ↓AW_block, ↓AOps_nil, ↓AOps_pu, on_some, ↓then_normal, pval, rd_S, rd_C, put_S, ↓AW_toLoop, AV.cells?, List.replicate_succ, List.replicate_zero, List.set_cons_zero, List.set_cons_succ, List.getElem?_cons_zero, List.getElem?_cons_succ, Option.getD_some, Nat.reduceSub, List.cons_append, List.nil_append, hx.len]
  refine LoopK.by 24 (fun i : Nat => i ≤ ks.length) (fun i => [(2, .agg [I P, u]), (5, I (cst (wct rs) (ks.take i))), (8, v), (9, I ks.length), (10, I i)]) (fun _ => A) (fun i => ks.length - i) 0 (by omega) rfl (by simp [Has, rd_s, cst]) rfl ?_
  intro i hi
  by_cases hlt : i < ks.length
  · obtain ⟨z, hz⟩ : ∃ z, ks[i]? = some z := ⟨_, List.getElem?_eq_getElem hlt⟩
    have hlt' : (i : Int) < ks.length := by omega
    obtain ⟨k0, k1⟩ := hk z (List.mem_of_getElem? hz)
    obtain ⟨hr, _⟩ := rdx_at k0 k1
    have hri := hu.idxI (k := .i64) k0 (show z < (rs.length : Int) by omega)
    have hw := hn.wb k0 k1
    have hwe : (rdx rs z).2.2 = wct rs z := rfl
    have hb := cst_bd (w := wct rs) (M := 99) (ks := ks.take i) (fun k hk2 => hn.wb (hk k (List.mem_of_mem_take hk2)).1 (hk k (List.mem_of_mem_take hk2)).2)
    have hb2 : (ks.take i).length ≤ 1000000 := by rw [List.length_take]; omega
    simp (maxSteps := 4000000) -implicitDefEqProofs -dsimp (disch := omega) only [↓AW_skip, ↓AW_ops, ↓AW_seq, ↓AW_cond, ↓AW_block, ↓AOps_nil, ↓AOps_pu, ↓AOps_ld, on_some, condB_t, ↓then_normal, ↓inBlock_normal, pval, lval, rd_S, rd_C, put_S, chkd, isAdr, bgot, AV.cells?, partA, eq_self, mk, List.foldl_cons, List.foldl_nil, List.replicate_succ, List.replicate_zero, List.set_cons_zero, List.set_cons_succ, List.getElem?_cons_zero, List.getElem?_cons_succ, List.drop_zero, List.drop_succ_cons, List.take_succ_cons, List.take_nil, Option.getD_some, List.length_cons, List.length_nil, Nat.reduceAdd, Nat.reduceLeDiff, Nat.zero_add, bin_add, bin_lss, w64, if_true, if_false, Bool.false_eq_true, decide_true, Go.Eng.e1, true_and, hlt', hx.idx hlt, hx.ld0 hz 1 false (by decide), hri, hu.ld hr 1 2 false (by decide), e3, hwe]
    exact ⟨i + 1, hlt, by simp [Has, rd_s, cst_snoc hz], by omega⟩
  · have hlt' : ¬ ((i : Int) < ks.length) := by omega
    simp (maxSteps := 4000000) -implicitDefEqProofs -dsimp (disch := omega) only [↓AW_ops, ↓AW_seq, ↓AW_cond, ↓AW_exit, ↓AW_ret, ↓AOps_nil, ↓AOps_pu, on_some, condB_f, ↓then_normal, ↓then_exit, ↓inBlock_exit, ↓Fin_ret, pval, rd_S, put_S, resV, resL, eq_self, mk, List.foldl_cons, List.foldl_nil, List.replicate_succ, List.replicate_zero, List.set_cons_zero, List.set_cons_succ, List.getElem?_cons_zero, List.getElem?_cons_succ, Option.getD_some, bin_lss, if_true, decide_false, hlt']
    rw [List.take_of_length_le (by omega)]
    exact gc_same rfl
theorem Net.lenb {P : Int} (h : Net P rs) : 0 ≤ (rs.length : Int) ∧ (rs.length : Int) ≤ 1000000 := by have := h.l; omega
end
section
variable {Q : Int} {rs : List Rd} {ks : List Int} {u v : AV} {A : AHeap}
theorem s78 (hu : L3 A u rs) (hx : L1 A v ks) (hP : W Q) (hl : ks.length ≤ 1000000) : ACalls Try.prog 78 [.agg [I Q, u], v] A (I (tE Q rs ks)) A := by
  refine acalls hmix Try.func78 (by kernel_rfl) t78 2 rfl (by decide) ?_
  dsimp only [m78]
  simp (maxSteps := 4000000) -implicitDefEqProofs -dsimp (disch := omega) only [↓AW_ops, ↓AW_seq, ↓AOps_nil, ↓AOps_pu, ↓AOps_call, on_some, ↓then_normal, pval, rd_S, rd_C, put_S, chkd, bgot, AV.cells?, partA, eq_self, List.replicate_succ, List.replicate_zero, List.set_cons_zero, List.set_cons_succ, List.getElem?_cons_zero, List.getElem?_cons_succ, List.drop_zero, List.take_succ_cons, List.take_nil, Option.getD_some, map_c, map_n, List.length_cons, List.length_nil, Nat.reduceAdd, Nat.reduceSub, Nat.reduceLeDiff, Nat.reduceEqDiff, Nat.zero_add, List.cons_append, List.nil_append, if_true, if_false]
  refine CallK.of (s28 hu hP) ?_
  by_cases h0 : vE Q rs = 0
  case neg =>
    rw [tE_v h0]
    simp (maxSteps := 4000000) -implicitDefEqProofs -dsimp (disch := omega) only [↓AW_ops, ↓AW_seq, ↓AW_cond, ↓AW_ret, ↓AOps_nil, ↓AOps_pu, on_some, extK_same, condB_t, ↓then_normal, ↓then_ret, ↓Fin_ret, pval, rd_S, rd_C, put_S, resV, resL, List.replicate_succ, List.replicate_zero, List.set_cons_zero, List.set_cons_succ, List.getElem?_cons_zero, List.getElem?_cons_succ, Option.getD_some, Nat.reduceSub, List.cons_append, List.nil_append, bin_neq, decide_true, not_false_eq_true, h0]
    exact gc_same rfl
  have hn := vE_0.1 h0
  obtain ⟨p, rfl⟩ := hn.nat
  simp (maxSteps := 4000000) -implicitDefEqProofs -dsimp (disch := omega) only [↓AW_skip, ↓AW_ops, ↓AW_seq, ↓AW_cond, ↓AOps_nil, ↓AOps_pu, ↓AOps_call, on_some, extK_same, condB_f, ↓then_normal, pval, rd_S, rd_C, put_S, chkd, isAdr, bgot, AV.cells?, partA, eq_self, List.replicate_succ, List.replicate_zero, List.set_cons_zero, List.set_cons_succ, List.getElem?_cons_zero, List.getElem?_cons_succ, List.drop_zero, List.drop_succ_cons, List.take_succ_cons, List.take_nil, Option.getD_some, map_c, map_n, List.length_cons, List.length_nil, Nat.reduceAdd, Nat.reduceSub, Nat.reduceLeDiff, Nat.zero_add, List.cons_append, List.nil_append, bin_neq, if_true, if_false, Bool.false_eq_true, decide_false, not_true_eq_false, h0, hu.len]
  refine CallK.of (s73 hx hl hn.lenb) ?_
  by_cases h1 : okS rs.length ks
  case neg =>
    rw [if_neg h1, tE_1 h0 h1]
    simp (maxSteps := 4000000) -implicitDefEqProofs -dsimp (disch := omega) only [↓AW_ops, ↓AW_seq, ↓AW_cond, ↓AW_ret, ↓AOps_nil, ↓AOps_pu, on_some, extK_same, condB_t, ↓then_normal, ↓then_ret, ↓Fin_ret, pval, rd_S, rd_C, put_S, resV, resL, List.replicate_succ, List.replicate_zero, List.set_cons_zero, List.set_cons_succ, List.getElem?_cons_zero, List.getElem?_cons_succ, Option.getD_some, Nat.reduceSub, List.cons_append, List.nil_append, bin_neq, decide_true, not_false_eq_true, Int.reduceEq]
    exact gc_same rfl
  rw [if_pos h1]
  simp (maxSteps := 4000000) -implicitDefEqProofs -dsimp (disch := omega) only [↓AW_skip, ↓AW_ops, ↓AW_seq, ↓AW_cond, ↓AOps_nil, ↓AOps_pu, ↓AOps_call, on_some, extK_same, condB_f, ↓then_normal, pval, rd_S, rd_C, put_S, chkd, bgot, partA, eq_self, List.replicate_succ, List.replicate_zero, List.set_cons_zero, List.set_cons_succ, List.getElem?_cons_zero, List.getElem?_cons_succ, List.drop_zero, List.take_succ_cons, List.take_nil, Option.getD_some, map_c, map_n, List.length_cons, List.length_nil, Nat.reduceAdd, Nat.reduceSub, Nat.reduceLeDiff, Nat.reduceEqDiff, Nat.zero_add, List.cons_append, List.nil_append, bin_neq, if_true, if_false, decide_false, not_true_eq_false]
  refine CallK.of (s60 hu hx hn h1.1 hl) ?_
  by_cases h2 : Tree p (rdx rs) ks
  · rw [decide_eq_true h2, tE_0.2 ⟨hn, h1, h2⟩]
    simp (maxSteps := 4000000) -implicitDefEqProofs -dsimp (disch := omega) only [↓AW_skip, ↓AW_ops, ↓AW_seq, ↓AW_cond, ↓AW_ret, ↓AOps_nil, ↓AOps_pu, on_some, extK_same, condB_f, ↓then_normal, ↓Fin_ret, pval, rd_S, rd_C, put_S, resV, resL, List.replicate_succ, List.replicate_zero, List.set_cons_zero, List.set_cons_succ, List.getElem?_cons_zero, List.getElem?_cons_succ, Option.getD_some, Nat.reduceSub, List.cons_append, List.nil_append, Bool.not_true]
    exact gc_same rfl
  · rw [decide_eq_false h2, tE_7 h0 h1 h2]
    simp (maxSteps := 4000000) -implicitDefEqProofs -dsimp (disch := omega) only [↓AW_ops, ↓AW_seq, ↓AW_cond, ↓AW_ret, ↓AOps_nil, ↓AOps_pu, on_some, extK_same, condB_t, ↓then_normal, ↓then_ret, ↓Fin_ret, pval, rd_S, rd_C, put_S, resV, resL, List.replicate_succ, List.replicate_zero, List.set_cons_zero, List.set_cons_succ, List.getElem?_cons_zero, List.getElem?_cons_succ, Option.getD_some, Nat.reduceSub, List.cons_append, List.nil_append, Bool.not_false]
    exact gc_same rfl
theorem s51 (hx : L1 A v ks) (hl : ks.length ≤ 1000000) (p : Int) : ACalls Try.prog 51 [v, I p] A (B (decide (p ∈ ks))) A := by
  refine acalls hmix Try.func51 (by kernel_rfl) t51 2 rfl (by decide) ?_
  dsimp only [m51]
  simp (maxSteps := 4000000) -implicitDefEqProofs -dsimp (disch := omega) only [↓AW_ops, ↓AW_seq, ↓AW_block, ↓AOps_nil, ↓AOps_pu, on_some, ↓then_normal, pval, rd_C, put_S, ↓AW_toLoop, List.replicate_succ, List.replicate_zero, List.set_cons_zero, List.set_cons_succ, Nat.reduceSub, List.cons_append, List.nil_append]
  refine LoopK.by 18 (fun i : Nat => i ≤ ks.length ∧ ∀ x ∈ ks.take i, ¬ x = p) (fun i => [(0, v), (1, I p), (5, I i)]) (fun _ => A) (fun i => ks.length - i) 0 ⟨by omega, by simp⟩ rfl (by simp [Has, rd_s]) rfl ?_
  rintro i ⟨hi, he⟩
  by_cases hlt : i < ks.length
  · obtain ⟨z, hz⟩ : ∃ z, ks[i]? = some z := ⟨_, List.getElem?_eq_getElem hlt⟩
    have hlt' : (i : Int) < ks.length := by omega
    by_cases h : z = p
    · simp (maxSteps := 4000000) -implicitDefEqProofs -dsimp (disch := omega) only [↓AW_skip, ↓AW_ops, ↓AW_seq, ↓AW_cond, ↓AW_block, ↓AW_ret, ↓AOps_nil, ↓AOps_pu, ↓AOps_ld, on_some, condB_t, ↓then_normal, ↓then_ret, ↓inBlock_ret, ↓Fin_ret, pval, lval, rd_S, rd_C, put_S, resV, resL, partA, eq_self, mk, List.foldl_cons, List.foldl_nil, List.replicate_succ, List.replicate_zero, List.set_cons_zero, List.set_cons_succ, List.getElem?_cons_zero, List.getElem?_cons_succ, List.drop_zero, List.take_succ_cons, List.take_nil, Option.getD_some, List.length_cons, List.length_nil, Nat.reduceLeDiff, Nat.zero_add, bin_eql, bin_lss, if_true, if_false, Bool.false_eq_true, decide_true, Go.Eng.e1, hlt', hx.len, hx.idx hlt, hx.ld0 hz 1 false (by decide), h]
      exact gc_same (by rw [decide_eq_true (h ▸ List.mem_of_getElem? hz)])
    · simp (maxSteps := 4000000) -implicitDefEqProofs -dsimp (disch := omega) only [↓AW_skip, ↓AW_ops, ↓AW_seq, ↓AW_cond, ↓AW_block, ↓AOps_nil, ↓AOps_pu, ↓AOps_ld, on_some, condB_t, condB_f, ↓then_normal, ↓inBlock_normal, pval, lval, rd_S, rd_C, put_S, partA, eq_self, mk, List.foldl_cons, List.foldl_nil, List.replicate_succ, List.replicate_zero, List.set_cons_zero, List.set_cons_succ, List.getElem?_cons_zero, List.getElem?_cons_succ, List.drop_zero, List.take_succ_cons, List.take_nil, Option.getD_some, List.length_cons, List.length_nil, Nat.reduceAdd, Nat.reduceLeDiff, Nat.zero_add, bin_add, bin_eql, bin_lss, w64, if_true, if_false, Bool.false_eq_true, decide_true, decide_false, Go.Eng.e1, true_and, hlt', hx.len, hx.idx hlt, hx.ld0 hz 1 false (by decide), h]
      exact ⟨i + 1, ⟨hlt, all_take he hz h⟩, by simp [Has, rd_s], by omega⟩
  · have hlt' : ¬ ((i : Int) < ks.length) := by omega
    simp (maxSteps := 4000000) -implicitDefEqProofs -dsimp (disch := omega) only [↓AW_ops, ↓AW_seq, ↓AW_cond, ↓AW_exit, ↓AW_ret, ↓AOps_nil, ↓AOps_pu, on_some, condB_f, ↓then_normal, ↓then_exit, ↓inBlock_exit, ↓Fin_ret, pval, rd_S, rd_C, put_S, resV, resL, eq_self, mk, List.foldl_cons, List.foldl_nil, List.replicate_succ, List.replicate_zero, List.set_cons_zero, List.set_cons_succ, List.getElem?_cons_zero, List.getElem?_cons_succ, Option.getD_some, bin_lss, if_true, decide_false, hx.len, hlt']
    rw [List.take_of_length_le (by omega)] at he
    exact gc_same (by rw [decide_eq_false (fun hh => he p hh rfl)])
theorem s17 (hu : L3 A u rs) (P : Int) : ACalls Try.prog 17 [.agg [I P, u]] A (B (decide ((100 : Int) < rs.length))) A := by
  refine acalls hmix Try.func17 (by kernel_rfl) t17 1 rfl (by decide) ?_
  dsimp only [m17]
  simp (maxSteps := 4000000) -implicitDefEqProofs -dsimp (disch := omega) only [↓AW_ops, ↓AW_seq, ↓AW_ret, ↓AOps_nil, ↓AOps_pu, on_some, ↓then_normal, ↓Fin_ret, pval, rd_S, rd_C, put_S, resV, resL, chkd, isAdr, bgot, AV.cells?, partA, eq_self, List.replicate_succ, List.replicate_zero, List.set_cons_zero, List.set_cons_succ, List.getElem?_cons_zero, List.getElem?_cons_succ, List.drop_zero, List.drop_succ_cons, List.take_succ_cons, List.take_nil, Option.getD_some, List.length_cons, List.length_nil, Nat.reduceAdd, Nat.reduceSub, Nat.reduceLeDiff, Nat.zero_add, List.cons_append, List.nil_append, bin_gtr, if_true, if_false, Bool.false_eq_true, hu.len]
  exact gc_same rfl
end
end Go.Proofs.Ytkgfcdpckfhknaa

namespace Go.Proofs.Ytkgfcdpckfhknaa
open Go Go.Eng
/-- The first elements are in order. -/
def SU (w : Int → Int) (zs : List Int) (i : Nat) : Prop := ∀ (p q : Nat) (a b : Int), p < q → q < i → zs[p]? = some a → zs[q]? = some b → w a ≤ w b
theorem SU.one (w : Int → Int) (zs : List Int) : SU w zs 1 := fun p q a b h k => by omega
theorem SU.zero (w : Int → Int) (zs : List Int) : SU w zs 0 := fun p q a b h k => by omega
theorem SU.all {w : Int → Int} {zs : List Int} (h : SU w zs zs.length) : zs.Pairwise (fun a b => w a ≤ w b) := by
  rw [List.pairwise_iff_getElem]
  intro i j hi hj hij
  exact h i j _ _ hij hj (List.getElem?_eq_getElem hi) (List.getElem?_eq_getElem hj)
/-- An element that goes down to its place. -/
structure IS (w : Int → Int) (xs zs : List Int) (i j : Nat) : Prop where
  perm : zs.Perm xs
  a : ∀ (p q : Nat) (a b : Int), p < q → q ≤ i → p ≠ j → q ≠ j → zs[p]? = some a → zs[q]? = some b → w a ≤ w b
  b : ∀ (q : Nat) (x y : Int), j < q → q ≤ i → zs[j]? = some x → zs[q]? = some y → w x ≤ w y
theorem IS.start {w : Int → Int} {xs zs : List Int} {i : Nat} (hp : zs.Perm xs) (h : SU w zs i) : IS w xs zs i i :=
  ⟨hp, fun p q a b h1 h2 _ h4 => h p q a b h1 (by omega), fun q x y h1 h2 => by omega⟩
theorem IS.zero {w : Int → Int} {xs zs : List Int} {i : Nat} (h : IS w xs zs i 0) : SU w zs (i + 1) := by
  intro p q a b h1 h2 h3 h4
  by_cases hp : p = 0
  · subst hp
    exact h.b q a b h1 (by omega) h3 h4
  · exact h.a p q a b h1 (by omega) hp (by omega) h3 h4
theorem IS.stop {w : Int → Int} {xs zs : List Int} {i j : Nat} {x y : Int} (h : IS w xs zs i (j + 1)) (hx : zs[j + 1]? = some x) (hy : zs[j]? = some y) (hxy : ¬ w x < w y) : SU w zs (i + 1) := by
  intro p q a b h1 h2 h3 h4
  by_cases hq : q = j + 1
  · subst hq
    have hbx : b = x := by rw [hx] at h4; exact (Option.some.inj h4).symm
    subst hbx
    by_cases hp : p = j
    · subst hp
      have e : a = y := by rw [hy] at h3; exact (Option.some.inj h3).symm
      rw [e]
      omega
    · have := h.a p j a y (by omega) (by omega) (by omega) (by omega) h3 hy
      omega
  · by_cases hp : p = j + 1
    · subst hp
      exact h.b q a b h1 (by omega) h3 h4
    · exact h.a p q a b h1 (by omega) hp hq h3 h4
theorem swap_get {zs : List Int} {j : Nat} {x y : Int} (hj : j + 1 < zs.length) (k : Nat) : ((zs.set (j + 1) y).set j x)[k]? = if k = j then some x else if k = j + 1 then some y else zs[k]? := by
  rw [List.getElem?_set, List.getElem?_set]
  by_cases h1 : k = j
  · subst h1
    rw [if_pos rfl, if_pos rfl, if_pos (by simp; omega)]
  · rw [if_neg (Ne.symm h1), if_neg h1]
    by_cases h2 : k = j + 1
    · subst h2
      rw [if_pos rfl, if_pos rfl, if_pos hj]
    · rw [if_neg (Ne.symm h2), if_neg h2]
theorem IS.swap {w : Int → Int} {xs zs : List Int} {i j : Nat} {x y : Int} (h : IS w xs zs i (j + 1)) (hi : j + 1 ≤ i) (hx : zs[j + 1]? = some x) (hy : zs[j]? = some y) (hxy : w x < w y) : IS w xs ((zs.set (j + 1) y).set j x) i j := by
  obtain ⟨h1, rfl⟩ := List.getElem?_eq_some_iff.1 hx
  obtain ⟨h2, rfl⟩ := List.getElem?_eq_some_iff.1 hy
  refine ⟨(List.set_set_perm h1 h2).trans h.perm, fun p q a b hpq hqi hp hq ha hb => ?_, fun q a b hjq hqi ha hb => ?_⟩
  · rw [swap_get h1] at ha hb
    rw [if_neg hp] at ha
    rw [if_neg hq] at hb
    by_cases hq1 : q = j + 1
    · rw [if_pos hq1] at hb
      rw [if_neg (by omega)] at ha
      have := h.a p j a zs[j] (by omega) (by omega) (by omega) (by omega) ha hy
      have e := Option.some.inj hb
      rw [← e]
      omega
    · rw [if_neg hq1] at hb
      by_cases hp1 : p = j + 1
      · rw [if_pos hp1] at ha
        have := h.a j q zs[j] b (by omega) hqi (by omega) hq1 hy hb
        have e := Option.some.inj ha
        rw [← e]
        omega
      · rw [if_neg hp1] at ha
        exact h.a p q a b hpq hqi hp1 hq1 ha hb
  · rw [swap_get h1] at ha hb
    rw [if_pos rfl] at ha
    rw [if_neg (by omega)] at hb
    have ha := Option.some.inj ha
    by_cases hq1 : q = j + 1
    · rw [if_pos hq1] at hb
      have e := Option.some.inj hb
      rw [← e, ← ha]
      omega
    · rw [if_neg hq1] at hb
      have := h.b q _ b (by omega) hqi hx hb
      rw [← ha]
      omega
section
variable {P : Nat} {rs : List Rd} {ks : List Int} {u v : AV} {A : AHeap}
theorem s98 {H : AHeap} {q : Nat} (hq : ldA 1 false (.ptr q 1) H = some u) (hu : L3 H u rs) (hn : Net P rs) {i k : Int} (i0 : 0 ≤ i) (i1 : i ≤ (rs.length : Int) - 1) (k0 : 0 ≤ k) (k1 : k ≤ (rs.length : Int) - 1) :
    ACalls Try.prog 98 [I i, I k, .ptr q 0] H (I (wct rs i - wct rs k)) H := by
  refine acalls hmix Try.func98 (by kernel_rfl) t98 3 rfl (by decide) ?_
  obtain ⟨hi, _⟩ := rdx_at i0 i1
  obtain ⟨hk, _⟩ := rdx_at k0 k1
  have wi := hn.wb i0 i1
  have wk := hn.wb k0 k1
  have hii := hu.idxI (k := .i64) i0 (show i < (rs.length : Int) by omega)
  have hki := hu.idxI (k := .i64) k0 (show k < (rs.length : Int) by omega)
  have e1 : (rdx rs i).2.2 = wct rs i := rfl
  have e2 : (rdx rs k).2.2 = wct rs k := rfl
  dsimp only [m98]
  simp (maxSteps := 4000000) -implicitDefEqProofs -dsimp (disch := omega) only [↓AW_ops, ↓AW_seq, ↓AW_ret, ↓AOps_nil, ↓AOps_pu, ↓AOps_ld, on_some, ↓then_normal, ↓Fin_ret, pval, lval, rd_S, rd_C, put_S, resV, resL, partA, eq_self, List.replicate_succ, List.replicate_zero, List.set_cons_zero, List.set_cons_succ, List.getElem?_cons_zero, List.getElem?_cons_succ, List.drop_zero, List.drop_succ_cons, List.take_succ_cons, List.take_nil, Option.getD_some, List.length_cons, List.length_nil, Nat.reduceAdd, Nat.reduceSub, Nat.reduceLeDiff, Nat.zero_add, List.cons_append, List.nil_append, bin_sub, w64, if_true, if_false, Bool.false_eq_true, hq, hii, hki, hu.ld hi 1 2 false (by decide), hu.ld hk 1 2 false (by decide), e3, e1, e2]
  exact gc_same rfl
/-- Comparing two of a list's numbers, wherever they stand. -/
def CmpOK (w : Int → Int) (H : AHeap) (n q : Nat) (xs : List Int) : Prop := ∀ zs : List Int, zs.Perm xs → ∀ x ∈ xs, ∀ y ∈ xs, ACalls Try.prog 98 [I x, I y, .ptr q 0] (H.set n (.cells true (zs.flatMap e1))) (I (w x - w y)) (H.set n (.cells true (zs.flatMap e1)))
set_option maxHeartbeats 8000000 in
theorem c_insC {w : Int → Int} {xs : List Int} {H : AHeap} {n q : Nat} (h : OL 1 e1 A H n v xs) (hl : xs.length ≤ 1000) (hc : CmpOK w H n q xs) : ∃ zs : List Int, ACalls Try.prog 112 [v, I 0, I xs.length, .fn 98 [.ptr q 0]] H (.tuple []) (H.set n (.cells true (zs.flatMap e1))) ∧ zs.Perm xs ∧ zs.Pairwise (fun a b => w a ≤ w b) := by
  have key : ∃ r H', ACalls Try.prog 112 [v, I 0, I xs.length, .fn 98 [.ptr q 0]] H r H' ∧ ∃ zs : List Int, r = .tuple [] ∧ H' = H.set n (.cells true (zs.flatMap e1)) ∧ zs.Perm xs ∧ zs.Pairwise (fun a b => w a ≤ w b) := by
    refine acallsR hmix Try.func112 (by kernel_rfl) t112 _ 4 rfl (by decide) ?_
    dsimp only [m112]
    simp (maxSteps := 4000000) -implicitDefEqProofs -dsimp (disch := omega) only [↓AW_ops, ↓AW_seq, ↓AW_block, ↓AOps_nil, ↓AOps_pu, on_some, ↓then_normal, pval, rd_S, rd_C, put_S, ↓AW_toLoop, List.replicate_succ, List.replicate_zero, List.set_cons_zero, List.set_cons_succ, List.getElem?_cons_zero, List.getElem?_cons_succ, Option.getD_some, Nat.reduceSub, List.cons_append, List.nil_append, bin_add, w64, Int.reduceAdd]
    refine LoopK.by 53 (fun x : Nat × List Int => (1 ≤ x.1 ∧ x.1 ≤ xs.length + 1) ∧ x.2.Perm xs ∧ SU w x.2 x.1) (fun x => [(0, v), (1, I 0), (2, I xs.length), (3, .fn 98 [.ptr q 0]), (8, I x.1)]) (fun x => H.set n (.cells true (x.2.flatMap e1))) (fun x => xs.length + 1 - x.1) (1, xs) ⟨by simp only; omega, List.Perm.refl _, SU.one _ _⟩ rfl (by simp [Has, rd_s]) (by simp only; rw [set_same h.ob]) ?_
    rintro ⟨i, zs⟩ ⟨hi, hpz, hz⟩
    simp only at hi hpz hz
    by_cases hlt : i < xs.length
    · have hlt' : (i : Int) < xs.length := by omega
      simp (maxSteps := 4000000) -implicitDefEqProofs -dsimp (disch := omega) only [↓AW_skip, ↓AW_ops, ↓AW_seq, ↓AW_cond, ↓AW_block, ↓AOps_nil, ↓AOps_pu, on_some, condB_t, ↓then_normal, pval, rd_S, put_S, ↓AW_toLoop, mk, List.foldl_cons, List.foldl_nil, List.replicate_succ, List.replicate_zero, List.set_cons_zero, List.set_cons_succ, List.getElem?_cons_zero, List.getElem?_cons_succ, Option.getD_some, bin_lss, decide_true, hlt']
      refine LoopK.by 53 (fun x : Nat × List Int => x.1 ≤ i ∧ IS w xs x.2 i x.1) (fun x => [(0, v), (1, I 0), (2, I xs.length), (3, .fn 98 [.ptr q 0]), (8, I i), (9, I x.1)]) (fun x => H.set n (.cells true (x.2.flatMap e1))) (fun x => x.1) (i, zs) ⟨by simp only; omega, IS.start hpz hz⟩ rfl (by simp [Has, rd_s]) rfl ?_
      rintro ⟨j, ws⟩ ⟨hj, hs⟩
      simp only at hj hs
      have hlen := hs.perm.length_eq
      have ho := OL_setAll h ws hlen
      cases j with
      | zero =>
        simp (maxSteps := 4000000) -implicitDefEqProofs -dsimp (disch := omega) only [↓AW_ops, ↓AW_seq, ↓AW_cond, ↓AW_exit, ↓AOps_nil, ↓AOps_pu, ↓AOps_guard, on_some, guardB_ft, skipS_some, condB_f, ↓then_normal, ↓then_exit, ↓inBlock_normal, ↓inBlock_exit, ↓FinR_normal, pval, rd_S, rd_C, put_S, resV, resL, eq_self, mk, List.foldl_cons, List.foldl_nil, List.replicate_succ, List.replicate_zero, List.set_cons_zero, List.set_cons_succ, List.getElem?_cons_zero, List.getElem?_cons_succ, Option.getD_some, List.length_cons, List.length_nil, Nat.reduceAdd, Nat.reduceEqDiff, Nat.zero_add, bin_add, bin_gtr, w64, if_true, if_false, Bool.false_eq_true, decide_false, true_and, reduceCtorEq, Int.reduceLT, Int.ofNat_zero]
        exact ⟨(i + 1, ws), ⟨by simp only; omega, hs.perm, hs.zero⟩, by simp [Has, rd_s], rfl, by simp only; omega⟩
      | succ k =>
        have hk1 : k + 1 < ws.length := by omega
        have hk0 : k < ws.length := by omega
        have hjp : (0 : Int) < ((k + 1 : Nat) : Int) := by omega
        have hjm : ((k + 1 : Nat) : Int) - 1 = (k : Int) := by omega
        obtain ⟨x, hx⟩ : ∃ x, ws[k + 1]? = some x := ⟨_, List.getElem?_eq_getElem hk1⟩
        obtain ⟨y, hy⟩ : ∃ y, ws[k]? = some y := ⟨_, List.getElem?_eq_getElem hk0⟩
        have h1 := ho.st hk1 (I y) y rfl
        rw [List.set_set] at h1
        have ho2 := OL_setAll h (ws.set (k + 1) y) (by simp [hlen])
        have h2 := ho2.st (i := k) (by simp; omega) (I x) x rfl
        rw [List.set_set] at h2
        have hswap := hs.swap (x := x) (y := y) hj hx hy
        have hstop := hs.stop hx hy
        generalize hJ : ((k + 1 : Nat) : Int) = J at *
        have hidx1 : idxA 1 v (.int .i64 J) = some (.ptr (nm v) (of v + (k + 1) * 1)) := by rw [← hJ]; exact ho.ls.idx hk1
        simp (maxSteps := 4000000) -implicitDefEqProofs -dsimp (disch := omega) only [↓AW_ops, ↓AW_seq, ↓AOps_pu, ↓AOps_ld, ↓AOps_callv, ↓AOps_guard, on_some, CallF_fn, guardB_tt, pval, lval, rd_S, rd_C, put_S, partA, eq_self, mk, List.foldl_cons, List.foldl_nil, List.replicate_succ, List.replicate_zero, List.set_cons_zero, List.set_cons_succ, List.getElem?_cons_zero, List.getElem?_cons_succ, List.drop_zero, List.take_succ_cons, List.take_nil, Option.getD_some, map_c, map_n, List.length_cons, List.length_nil, Nat.reduceLeDiff, Nat.zero_add, List.cons_append, List.nil_append, bin_sub, bin_gtr, w64, if_true, if_false, Bool.false_eq_true, decide_true, Go.Eng.e1, hjp, hjm, hidx1, ho.ls.ld0 hx 1 false (by decide), ho.ls.idx hk0, ho.ls.ld0 hy 1 false (by decide)]
        refine CallK.of (hc ws hs.perm x (hs.perm.mem_iff.1 (List.mem_of_getElem? hx)) y (hs.perm.mem_iff.1 (List.mem_of_getElem? hy))) ?_
        by_cases hxy : w x < w y
        · have hxy' : w x - w y < 0 := by omega
          simp (maxSteps := 4000000) -implicitDefEqProofs -dsimp (disch := omega) only [↓AW_skip, ↓AW_ops, ↓AW_seq, ↓AW_cond, ↓AW_block, ↓AOps_nil, ↓AOps_pu, ↓AOps_ld, ↓AOps_ha, ↓AOps_guard, on_some, extK_false, extK_same, guardB_tt, condB_t, ↓then_normal, ↓inBlock_normal, pval, lval, hval_st, rd_S, rd_C, put_S, putS_none, partA, eq_self, mk, List.foldl_cons, List.foldl_nil, List.replicate_succ, List.replicate_zero, List.set_cons_zero, List.set_cons_succ, List.getElem?_cons_zero, List.getElem?_cons_succ, List.drop_zero, List.take_succ_cons, List.take_nil, Option.getD_some, Option.map_some, List.length_cons, List.length_nil, Nat.reduceAdd, Nat.reduceLeDiff, Nat.zero_add, bin_sub, bin_lss, w64, if_true, if_false, Bool.false_eq_true, decide_true, Go.Eng.e1, true_and, hxy', hjm, hidx1, ho.ls.ld0 hx 1 false (by decide), ho.ls.idx hk0, ho.ls.ld0 hy 1 false (by decide), h1, h2]
          exact ⟨(k, (ws.set (k + 1) y).set k x), ⟨by simp only; omega, hswap hxy⟩, by simp [Has, rd_s], rfl, by simp only; omega⟩
        · have hxy' : ¬ w x - w y < 0 := by omega
          simp (maxSteps := 4000000) -implicitDefEqProofs -dsimp (disch := omega) only [↓AW_ops, ↓AW_cond, ↓AW_exit, ↓AOps_nil, ↓AOps_pu, ↓AOps_guard, on_some, extK_same, guardB_tt, condB_f, ↓then_normal, ↓then_exit, ↓inBlock_normal, ↓inBlock_exit, ↓FinR_normal, pval, rd_S, rd_C, put_S, resV, resL, eq_self, mk, List.foldl_cons, List.foldl_nil, List.replicate_succ, List.replicate_zero, List.set_cons_zero, List.set_cons_succ, List.getElem?_cons_zero, List.getElem?_cons_succ, Option.getD_some, List.length_cons, List.length_nil, Nat.reduceAdd, Nat.reduceEqDiff, Nat.zero_add, bin_add, bin_lss, w64, if_true, if_false, decide_false, true_and, reduceCtorEq, hxy']
          exact ⟨(i + 1, ws), ⟨by simp only; omega, hs.perm, hstop hxy⟩, by simp [Has, rd_s], rfl, by simp only; omega⟩
    · have hlt' : ¬ (i : Int) < xs.length := by omega
      simp (maxSteps := 4000000) -implicitDefEqProofs -dsimp (disch := omega) only [↓AW_ops, ↓AW_seq, ↓AW_cond, ↓AW_exit, ↓AOps_nil, ↓AOps_pu, on_some, condB_f, ↓then_normal, ↓then_exit, ↓inBlock_exit, ↓FinR_normal, pval, rd_S, put_S, resV, resL, eq_self, mk, List.foldl_cons, List.foldl_nil, List.replicate_succ, List.replicate_zero, List.set_cons_zero, List.set_cons_succ, List.getElem?_cons_zero, List.getElem?_cons_succ, Option.getD_some, bin_lss, if_true, decide_false, hlt']
      have hle := hpz.length_eq
      exact ⟨_, _, gc_all, zs, rfl, rfl, hpz, SU.all (fun p q a b h1 h2 => hz p q a b h1 (by omega))⟩
  obtain ⟨r, H', h1, zs, rfl, rfl, h2, h3⟩ := key
  exact ⟨zs, h1, h2, h3⟩
theorem c_stable {w : Int → Int} {xs : List Int} {H : AHeap} {n q : Nat} (h : OL 1 e1 A H n v xs) (hl : xs.length ≤ 19) (hc : CmpOK w H n q xs) : ∃ zs : List Int, ACalls Try.prog 97 [v, .fn 98 [.ptr q 0]] H (.tuple []) (H.set n (.cells true (zs.flatMap e1))) ∧ zs.Perm xs ∧ zs.Pairwise (fun a b => w a ≤ w b) := by
  obtain ⟨zs, h1, h2, h3⟩ := c_insC h (by omega) hc
  refine ⟨zs, ?_, h2, h3⟩
  have hst : ACalls Try.prog 109 [v, I xs.length, .fn 98 [.ptr q 0]] H (.tuple []) (H.set n (.cells true (zs.flatMap e1))) := by
    refine acalls hmix Try.func109 (by kernel_rfl) t109 3 rfl (by decide) ?_
    have hb : ¬ (20 : Int) ≤ xs.length := by omega
    have hb2 : ¬ (20 : Int) < xs.length := by omega
    dsimp only [m109]
    simp (maxSteps := 4000000) -implicitDefEqProofs -dsimp (disch := omega) only [↓AW_ops, ↓AW_seq, ↓AW_block, ↓AOps_nil, ↓AOps_pu, on_some, ↓then_normal, pval, rd_S, rd_C, put_S, ↓AW_toLoop, List.replicate_succ, List.replicate_zero, List.set_cons_zero, List.set_cons_succ, List.getElem?_cons_zero, List.getElem?_cons_succ, Option.getD_some, Nat.reduceSub, List.cons_append, List.nil_append]
    refine LoopK.by 63 (fun _ : Unit => True) (fun _ => [(0, v), (1, I xs.length), (2, .fn 98 [.ptr q 0]), (6, I 20), (7, I 0), (8, I 20)]) (fun _ => H) (fun _ => 0) () trivial rfl (by simp [Has, rd_s]) rfl ?_
    rintro _ _
    simp (maxSteps := 4000000) -implicitDefEqProofs -dsimp (disch := omega) only [↓AW_ops, ↓AW_seq, ↓AW_cond, ↓AW_exit, ↓AOps_nil, ↓AOps_pu, ↓AOps_call, on_some, condB_f, ↓then_normal, ↓then_exit, ↓inBlock_exit, pval, rd_S, put_S, eq_self, mk, List.foldl_cons, List.foldl_nil, List.replicate_succ, List.replicate_zero, List.set_cons_zero, List.set_cons_succ, List.getElem?_cons_zero, List.getElem?_cons_succ, Option.getD_some, map_c, map_n, bin_leq, if_true, decide_false, hb]
    refine CallK.of h1 ?_
    simp (maxSteps := 4000000) -implicitDefEqProofs -dsimp (disch := omega) only [↓AW_block, ↓AOps_nil, extK_false, ↓then_normal, put_S, ↓AW_toLoop, mk, List.foldl_cons, List.foldl_nil, List.replicate_succ, List.replicate_zero, List.set_cons_zero, List.set_cons_succ]
    refine LoopK.by 63 (fun _ : Unit => True) (fun _ => [(0, v), (1, I xs.length), (2, .fn 98 [.ptr q 0]), (6, I 20)]) (fun _ => H.set n (.cells true (zs.flatMap e1))) (fun _ => 0) () trivial rfl (by simp [Has, rd_s]) rfl ?_
    rintro _ _
    simp (maxSteps := 4000000) -implicitDefEqProofs -dsimp (disch := omega) only [↓AW_ops, ↓AW_seq, ↓AW_cond, ↓AW_exit, ↓AOps_nil, ↓AOps_pu, on_some, condB_f, ↓then_normal, ↓then_exit, ↓inBlock_exit, ↓Fin_normal, pval, rd_S, put_S, resV, resL, eq_self, mk, List.foldl_cons, List.foldl_nil, List.replicate_succ, List.replicate_zero, List.set_cons_zero, List.set_cons_succ, List.getElem?_cons_zero, List.getElem?_cons_succ, Option.getD_some, bin_lss, if_true, decide_false, hb2]
    exact gc_same_all rfl rfl
  refine acalls hmix Try.func97 (by kernel_rfl) t97 2 rfl (by decide) ?_
  dsimp only [m97]
  simp (maxSteps := 4000000) -implicitDefEqProofs -dsimp (disch := omega) only [↓AW_ops, ↓AOps_pu, ↓AOps_call, on_some, pval, rd_S, put_S, List.replicate_succ, List.replicate_zero, List.set_cons_zero, List.set_cons_succ, List.getElem?_cons_zero, List.getElem?_cons_succ, Option.getD_some, map_c, map_n, Nat.reduceSub, List.cons_append, List.nil_append, h.ls.len]
  refine CallK.of hst ?_
  simp (maxSteps := 4000000) -implicitDefEqProofs -dsimp (disch := omega) only [↓AOps_nil, on_some, extK_false, ↓Fin_normal, resV, resL]
  exact gc_same_all rfl rfl
/-- The numbers of all roads. -/
abbrev nums (rs : List Rd) : List Int := plc rs.length
/-- The numbers of all roads, the cheapest first. -/
structure Ord (rs : List Rd) (L : List Int) : Prop where
  p : L.Perm (nums rs)
  s : L.Pairwise (fun a b => wct rs a ≤ wct rs b)
theorem Ord.mem {L : List Int} (h : Ord rs L) {k : Int} : k ∈ L ↔ 0 ≤ k ∧ k ≤ (rs.length : Int) - 1 := by
  rw [h.p.mem_iff, mem_plc]
  omega
theorem Ord.nos {L : List Int} (h : Ord rs L) : Nos rs L := fun k hk => h.mem.1 hk
theorem Ord.nodup {L : List Int} (h : Ord rs L) : L.Nodup := h.p.nodup_iff.2 (plc_nodup _)
theorem Ord.len {L : List Int} (h : Ord rs L) : L.length = rs.length := by rw [h.p.length_eq, plc_len]
set_option maxHeartbeats 8000000 in
theorem c_all (hu : L3 A u rs) (hn : Net P rs) : ∃ r H, ACalls Try.prog 59 [.agg [I P, u]] A r H ∧ A <+: H ∧ ∃ L, L1 H r L ∧ Ord rs L := by
  refine acallsR hmix Try.func59 (by kernel_rfl) t59 _ 1 rfl (by decide) ?_
  have hl14 := hn.l
  have hpA := pre_app A [.cells true [I P, u]]
  have hld1 : ldA 1 false (.ptr A.length 1) (A ++ [.cells true [I P, u]]) = some u := by simp [ldA, partA]
  have hu1 := hu.mono hpA
  dsimp only [m59]
  simp (maxSteps := 4000000) -implicitDefEqProofs -dsimp (disch := omega) only [↓AW_ops, ↓AW_seq, ↓AOps_nil, ↓AOps_pu, ↓AOps_ld, ↓AOps_ha, on_some, extK_app, ↓then_normal, pval, lval, hval_newv, rd_S, rd_C, put_S, cells_agg, List.replicate_succ, List.replicate_zero, List.set_cons_zero, List.set_cons_succ, List.getElem?_cons_zero, List.getElem?_cons_succ, Option.getD_some, Nat.reduceSub, Nat.zero_add, List.cons_append, List.nil_append]
  generalize hA1 : A ++ [.cells true [I P, u]] = A1 at *
  simp (maxSteps := 4000000) -implicitDefEqProofs -dsimp (disch := omega) only [↓AW_block, ↓AOps_nil, ↓AOps_pu, on_some, ↓then_normal, pval, rd_S, rd_C, put_S, ↓AW_toLoop, List.replicate_succ, List.replicate_zero, List.set_cons_zero, List.set_cons_succ, List.getElem?_cons_zero, List.getElem?_cons_succ, Option.getD_some, Nat.reduceSub, List.cons_append, List.nil_append, hld1, hu1.len]
  refine LoopK.by 20 (fun x : Nat × AV × AHeap => x.1 ≤ rs.length ∧ AccL 1 e1 A1 x.2.2 x.2.1 (plc x.1)) (fun x => [(1, .ptr A.length 0), (3, x.2.1), (7, I rs.length), (8, I x.1)]) (fun x => x.2.2) (fun x => rs.length - x.1) (0, .nilS, A1) ⟨by simp only; omega, AccL.nil (List.prefix_refl _)⟩ rfl (by simp [Has, rd_s]) rfl ?_
  rintro ⟨i, z, H⟩ ⟨hi, hac⟩
  simp only at hi hac
  by_cases hlt : i < rs.length
  · have hlt' : (i : Int) < rs.length := by omega
    obtain ⟨v', H2, happ, hacc, _, n, len, rfl, _⟩ := AccL_push2 hac e1_len (by omega) (i : Int) (by rw [plc_len]; simp only [lim]; omega)
    simp only [Go.Eng.e1] at happ
    simp (maxSteps := 4000000) -implicitDefEqProofs -dsimp (disch := omega) only [↓AW_skip, ↓AW_ops, ↓AW_seq, ↓AW_cond, ↓AW_block, ↓AOps_nil, ↓AOps_pu, ↓AOps_ha, on_some, extK_false, extK_app, condB_t, ↓then_normal, ↓inBlock_normal, pval, hval_blds, hval_app, rd_S, rd_C, put_S, cells_int, splice, fillA, repl, eq_self, mk, List.foldl_cons, List.foldl_nil, List.replicate_succ, List.replicate_zero, List.set_cons_zero, List.set_cons_succ, List.getElem?_cons_zero, List.getElem?_cons_succ, List.drop_succ_cons, List.drop_nil, List.take_zero, Option.getD_some, map_c, map_n, List.length_cons, List.length_nil, Nat.reduceAdd, Nat.reduceLeDiff, Nat.zero_add, List.nil_append, List.append_nil, bin_add, bin_lss, w64, if_true, decide_true, true_and, and_true, hlt', happ, List.replicate_zero, repl]
    refine ⟨(i + 1, .sl 1 n 0 len false, H2), ⟨hlt, ?_⟩, by simp [Has, rd_s], rfl, by simp only; omega⟩
    simp only
    rw [plc_succ]
    exact hacc
  · have hlt' : ¬ (i : Int) < rs.length := by omega
    have hil : i = rs.length := by omega
    subst hil
    simp (maxSteps := 4000000) -implicitDefEqProofs -dsimp (disch := omega) only [↓AW_ops, ↓AW_seq, ↓AW_cond, ↓AW_exit, ↓AOps_nil, ↓AOps_pu, ↓AOps_call, on_some, condB_f, ↓then_normal, ↓then_exit, ↓inBlock_exit, pval, rd_S, put_S, eq_self, mk, List.foldl_cons, List.foldl_nil, List.replicate_succ, List.replicate_zero, List.set_cons_zero, List.set_cons_succ, List.getElem?_cons_zero, List.getElem?_cons_succ, Option.getD_some, map_c, map_n, bin_lss, if_true, decide_false, hlt']
    by_cases h0 : rs.length = 0
    · -- there is none
      have hz0 : z = .nilS := by
        rcases hac.2.2 with ⟨_, h4⟩ | ⟨h3, _⟩
        · exact h4
        · rw [plc_len] at h3; omega
      have hpl : plc rs.length = [] := by rw [h0]; rfl
      have hnil : ∀ H : AHeap, ACalls Try.prog 97 [.nilS, .fn 98 [.ptr A.length 0]] H (.tuple []) H := by
        intro H
        have h112 : ACalls Try.prog 112 [.nilS, I 0, I 0, .fn 98 [.ptr A.length 0]] H (.tuple []) H := by
          refine acalls hmix Try.func112 (by kernel_rfl) t112 4 rfl (by decide) ?_
          dsimp only [m112]
          simp (maxSteps := 4000000) -implicitDefEqProofs -dsimp (disch := omega) only [↓AW_ops, ↓AW_seq, ↓AW_block, ↓AOps_nil, ↓AOps_pu, on_some, ↓then_normal, pval, rd_S, rd_C, put_S, ↓AW_toLoop, List.replicate_succ, List.replicate_zero, List.set_cons_zero, List.set_cons_succ, List.getElem?_cons_zero, List.getElem?_cons_succ, Option.getD_some, Nat.reduceSub, List.cons_append, List.nil_append, bin_add, w64, Int.reduceAdd]
          refine LoopK.by 53 (fun _ : Unit => True) (fun _ => [(0, .nilS), (1, I 0), (2, I 0), (3, .fn 98 [.ptr A.length 0]), (8, I 1)]) (fun _ => H) (fun _ => 0) () trivial rfl (by simp [Has, rd_s]) rfl ?_
          rintro _ _
          simp (maxSteps := 4000000) -implicitDefEqProofs -dsimp (disch := omega) only [↓AW_ops, ↓AW_seq, ↓AW_cond, ↓AW_exit, ↓AOps_nil, ↓AOps_pu, on_some, condB_f, ↓then_normal, ↓then_exit, ↓inBlock_exit, ↓Fin_normal, pval, rd_S, put_S, resV, resL, eq_self, mk, List.foldl_cons, List.foldl_nil, List.replicate_succ, List.replicate_zero, List.set_cons_zero, List.set_cons_succ, List.getElem?_cons_zero, List.getElem?_cons_succ, Option.getD_some, bin_lss, if_true, decide_false, Int.reduceLT]
          exact gc_same rfl
        have h109 : ACalls Try.prog 109 [.nilS, I 0, .fn 98 [.ptr A.length 0]] H (.tuple []) H := by
          refine acalls hmix Try.func109 (by kernel_rfl) t109 3 rfl (by decide) ?_
          dsimp only [m109]
          simp (maxSteps := 4000000) -implicitDefEqProofs -dsimp (disch := omega) only [↓AW_ops, ↓AW_seq, ↓AW_block, ↓AOps_nil, ↓AOps_pu, on_some, ↓then_normal, pval, rd_S, rd_C, put_S, ↓AW_toLoop, List.replicate_succ, List.replicate_zero, List.set_cons_zero, List.set_cons_succ, List.getElem?_cons_zero, List.getElem?_cons_succ, Option.getD_some, Nat.reduceSub, List.cons_append, List.nil_append]
          refine LoopK.by 63 (fun _ : Unit => True) (fun _ => [(0, .nilS), (1, I 0), (2, .fn 98 [.ptr A.length 0]), (6, I 20), (7, I 0), (8, I 20)]) (fun _ => H) (fun _ => 0) () trivial rfl (by simp [Has, rd_s]) rfl ?_
          rintro _ _
          simp (maxSteps := 4000000) -implicitDefEqProofs -dsimp (disch := omega) only [↓AW_ops, ↓AW_seq, ↓AW_cond, ↓AW_exit, ↓AOps_nil, ↓AOps_pu, ↓AOps_call, on_some, condB_f, ↓then_normal, ↓then_exit, ↓inBlock_exit, pval, rd_S, put_S, eq_self, mk, List.foldl_cons, List.foldl_nil, List.replicate_succ, List.replicate_zero, List.set_cons_zero, List.set_cons_succ, List.getElem?_cons_zero, List.getElem?_cons_succ, Option.getD_some, map_c, map_n, bin_leq, if_true, decide_false, Int.reduceLE]
          refine CallK.of h112 ?_
          simp (maxSteps := 4000000) -implicitDefEqProofs -dsimp (disch := omega) only [↓AW_block, ↓AOps_nil, extK_same, ↓then_normal, put_S, ↓AW_toLoop, mk, List.foldl_cons, List.foldl_nil, List.replicate_succ, List.replicate_zero, List.set_cons_zero, List.set_cons_succ]
          refine LoopK.by 63 (fun _ : Unit => True) (fun _ => [(0, .nilS), (1, I 0), (2, .fn 98 [.ptr A.length 0]), (6, I 20)]) (fun _ => H) (fun _ => 0) () trivial rfl (by simp [Has, rd_s]) rfl ?_
          rintro _ _
          simp (maxSteps := 4000000) -implicitDefEqProofs -dsimp (disch := omega) only [↓AW_ops, ↓AW_seq, ↓AW_cond, ↓AW_exit, ↓AOps_nil, ↓AOps_pu, on_some, condB_f, ↓then_normal, ↓then_exit, ↓inBlock_exit, ↓Fin_normal, pval, rd_S, put_S, resV, resL, eq_self, mk, List.foldl_cons, List.foldl_nil, List.replicate_succ, List.replicate_zero, List.set_cons_zero, List.set_cons_succ, List.getElem?_cons_zero, List.getElem?_cons_succ, Option.getD_some, bin_lss, if_true, decide_false, Int.reduceLT]
          exact gc_same rfl
        refine acalls hmix Try.func97 (by kernel_rfl) t97 2 rfl (by decide) ?_
        dsimp only [m97]
        simp (maxSteps := 4000000) -implicitDefEqProofs -dsimp (disch := omega) only [↓AW_ops, ↓AOps_pu, ↓AOps_call, on_some, pval, rd_S, put_S, List.replicate_succ, List.replicate_zero, List.set_cons_zero, List.set_cons_succ, List.getElem?_cons_zero, List.getElem?_cons_succ, Option.getD_some, map_c, map_n, Nat.reduceSub, List.cons_append, List.nil_append, lenA]
        refine CallK.of h109 ?_
        simp (maxSteps := 4000000) -implicitDefEqProofs -dsimp (disch := omega) only [↓AOps_nil, on_some, extK_same, ↓Fin_normal, resV, resL]
        exact gc_same rfl
      subst hz0
      refine CallK.of (hnil H) ?_
      simp (maxSteps := 4000000) -implicitDefEqProofs -dsimp (disch := omega) only [↓AW_ops, ↓AW_seq, ↓AW_ret, ↓AOps_nil, ↓AOps_pu, on_some, extK_same, ↓then_normal, ↓FinR_ret, pval, rd_S, put_S, resV, resL, mk, List.foldl_cons, List.foldl_nil, List.replicate_succ, List.replicate_zero, List.set_cons_zero, List.set_cons_succ, List.getElem?_cons_zero, List.getElem?_cons_succ, Option.getD_some]
      exact ⟨_, _, gc_all, hpA.trans hac.1, [], L1_nil _, by rw [show nums rs = [] from hpl], .nil⟩
    · obtain ⟨n, ho, hzv⟩ := AccL_ol hac e1_len (by rw [plc_len]; omega)
      have hcmp : CmpOK (wct rs) H n A.length (plc rs.length) := by
        intro zs hzs x hx y hy
        have ho2 := OL_setAll ho zs hzs.length_eq
        have hx' := mem_plc.1 hx
        have hy' := mem_plc.1 hy
        exact s98 (ld_mono ho2.pre hld1) (hu1.mono ho2.pre) hn hx'.1 (by omega) hy'.1 (by omega)
      obtain ⟨zs, hcs, hp, hs⟩ := c_stable ho (by rw [plc_len]; omega) hcmp
      refine CallK.of hcs ?_
      simp (maxSteps := 4000000) -implicitDefEqProofs -dsimp (disch := omega) only [↓AW_ops, ↓AW_seq, ↓AW_ret, ↓AOps_nil, ↓AOps_pu, on_some, extK_false, ↓then_normal, ↓FinR_ret, pval, rd_S, put_S, resV, resL, mk, List.foldl_cons, List.foldl_nil, List.replicate_succ, List.replicate_zero, List.set_cons_zero, List.set_cons_succ, List.getElem?_cons_zero, List.getElem?_cons_succ, Option.getD_some]
      have ho2 := OL_setAll ho zs hp.length_eq
      exact ⟨_, _, gc_all, hpA.trans ho2.pre, zs, ho2.ls, hp, hs⟩
end
end Go.Proofs.Ytkgfcdpckfhknaa

namespace Go.Proofs.Ytkgfcdpckfhknaa
open Go Go.Eng
/-- Numbers in ascending order. -/
def srt (xs : List Int) : List Int := xs.mergeSort (fun a b => decide (a ≤ b))
theorem srt_perm (xs : List Int) : (srt xs).Perm xs := List.mergeSort_perm xs _
theorem srt_pw (xs : List Int) : (srt xs).Pairwise (· ≤ ·) := by
  have := List.pairwise_mergeSort (le := fun a b : Int => decide (a ≤ b)) (fun a b c h k => by simp at *; omega) (fun a b => by simp; omega) xs
  exact this.imp (fun h => by simpa using h)
theorem srt_len (xs : List Int) : (srt xs).length = xs.length := (srt_perm xs).length_eq
theorem srt_uniq {zs xs : List Int} (hp : zs.Perm xs) (h : zs.Pairwise (· ≤ ·)) : zs = srt xs :=
  List.Perm.eq_of_pairwise (le := fun a b : Int => a ≤ b) (fun a b _ _ h1 h2 => by omega) h (srt_pw xs) (hp.trans (srt_perm xs).symm)
theorem SU.srt {zs xs : List Int} (hp : zs.Perm xs) {i : Nat} (h : SU (fun a => a) zs i) (hi : xs.length ≤ i) : zs = srt xs := by
  refine srt_uniq hp (SU.all (w := fun a => a) (fun p q a b h1 h2 => h p q a b h1 ?_))
  have := hp.length_eq
  omega
theorem s131 (a : Int) (A : AHeap) : ACalls Try.prog 131 [I a] A (B false) A := by
  refine acalls hmix Try.func131 (by kernel_rfl) t131 1 rfl (by decide) ?_
  dsimp only [m131]
  simp (maxSteps := 4000000) -implicitDefEqProofs -dsimp (disch := omega) only [↓AW_ops, ↓AW_seq, ↓AW_ret, ↓AOps_nil, ↓AOps_pu, on_some, ↓then_normal, ↓Fin_ret, pval, rd_S, rd_C, put_S, resV, resL, eq_self, List.replicate_succ, List.replicate_zero, List.set_cons_zero, List.set_cons_succ, List.getElem?_cons_zero, List.getElem?_cons_succ, Option.getD_some, Nat.reduceSub, List.cons_append, List.nil_append, bin_neq, decide_false, not_true_eq_false]
  exact gc_same rfl
theorem sLess (a b : Int) (A : AHeap) : ACalls Try.prog 120 [I a, I b] A (B (decide (a < b))) A := by
  refine acalls hmix Try.func120 (by kernel_rfl) t120 2 rfl (by decide) ?_
  dsimp only [m120]
  simp (maxSteps := 4000000) -implicitDefEqProofs -dsimp (disch := omega) only [↓AW_ops, ↓AW_seq, ↓AOps_nil, ↓AOps_pu, ↓AOps_call, on_some, ↓then_normal, pval, rd_S, rd_C, put_S, List.replicate_succ, List.replicate_zero, List.set_cons_zero, List.set_cons_succ, List.getElem?_cons_zero, List.getElem?_cons_succ, Option.getD_some, map_c, map_n, Nat.reduceSub, List.cons_append, List.nil_append]
  refine CallK.of (s131 a A) ?_
  simp (maxSteps := 4000000) -implicitDefEqProofs -dsimp (disch := omega) only [↓AW_ret, ↓AOps_nil, ↓AOps_pu, ↓AOps_guard, on_some, extK_same, guardB_ft, guardB_ff, skipS_some, ↓then_normal, ↓Fin_ret, pval, rd_S, rd_C, put_S, resV, resL, List.replicate_succ, List.replicate_zero, List.set_cons_zero, List.set_cons_succ, List.getElem?_cons_zero, List.getElem?_cons_succ, Option.getD_some, Nat.reduceSub, List.cons_append, List.nil_append, bin_lss, if_false, Bool.false_eq_true]
  exact gc_same rfl
theorem c_ins {xs : List Int} {v : AV} {A H : AHeap} {n : Nat} (h : OL 1 e1 A H n v xs) (hl : xs.length ≤ 1000) : ACalls Try.prog 114 [v, I 0, I xs.length] H (.tuple []) (H.set n (.cells true ((srt xs).flatMap e1))) := by
  refine acalls hmix Try.func114 (by kernel_rfl) t114 3 rfl (by decide) ?_
  dsimp only [m114]
  simp (maxSteps := 4000000) -implicitDefEqProofs -dsimp (disch := omega) only [↓AW_ops, ↓AW_seq, ↓AW_block, ↓AOps_nil, ↓AOps_pu, on_some, ↓then_normal, pval, rd_S, rd_C, put_S, ↓AW_toLoop, List.replicate_succ, List.replicate_zero, List.set_cons_zero, List.set_cons_succ, List.getElem?_cons_zero, List.getElem?_cons_succ, Option.getD_some, Nat.reduceSub, List.cons_append, List.nil_append, bin_add, w64, Int.reduceAdd]
  refine LoopK.by 49 (fun x : Nat × List Int => (1 ≤ x.1 ∧ x.1 ≤ xs.length + 1) ∧ x.2.Perm xs ∧ SU (fun a => a) x.2 x.1) (fun x => [(0, v), (1, I 0), (2, I xs.length), (6, I x.1)]) (fun x => H.set n (.cells true (x.2.flatMap e1))) (fun x => xs.length + 1 - x.1) (1, xs) ⟨by simp only; omega, List.Perm.refl _, SU.one _ _⟩ rfl (by simp [Has, rd_s]) (by simp only; rw [set_same h.ob]) ?_
  rintro ⟨i, zs⟩ ⟨hi, hpz, hz⟩
  simp only at hi hpz hz
  by_cases hlt : i < xs.length
  · have hlt' : (i : Int) < xs.length := by omega
    simp (maxSteps := 4000000) -implicitDefEqProofs -dsimp (disch := omega) only [↓AW_skip, ↓AW_ops, ↓AW_seq, ↓AW_cond, ↓AW_block, ↓AOps_nil, ↓AOps_pu, on_some, condB_t, ↓then_normal, pval, rd_S, put_S, ↓AW_toLoop, mk, List.foldl_cons, List.foldl_nil, List.replicate_succ, List.replicate_zero, List.set_cons_zero, List.set_cons_succ, List.getElem?_cons_zero, List.getElem?_cons_succ, Option.getD_some, bin_lss, decide_true, hlt']
    refine LoopK.by 49 (fun x : Nat × List Int => x.1 ≤ i ∧ IS (fun a => a) xs x.2 i x.1) (fun x => [(0, v), (1, I 0), (2, I xs.length), (6, I i), (7, I x.1)]) (fun x => H.set n (.cells true (x.2.flatMap e1))) (fun x => x.1) (i, zs) ⟨by simp only; omega, IS.start hpz hz⟩ rfl (by simp [Has, rd_s]) rfl ?_
    rintro ⟨j, ws⟩ ⟨hj, hs⟩
    simp only at hj hs
    have hlen := hs.perm.length_eq
    have ho := OL_setAll h ws hlen
    cases j with
    | zero =>
      have hz0 : ¬ ((0 : Nat) : Int) > 0 := by omega
      simp (maxSteps := 4000000) -implicitDefEqProofs -dsimp (disch := omega) only [↓AW_ops, ↓AW_seq, ↓AW_cond, ↓AW_exit, ↓AOps_nil, ↓AOps_pu, ↓AOps_guard, on_some, guardB_ft, skipS_some, condB_f, ↓then_normal, ↓then_exit, ↓inBlock_normal, ↓inBlock_exit, ↓Fin_normal, pval, rd_S, rd_C, put_S, resV, resL, eq_self, mk, List.foldl_cons, List.foldl_nil, List.replicate_succ, List.replicate_zero, List.set_cons_zero, List.set_cons_succ, List.getElem?_cons_zero, List.getElem?_cons_succ, Option.getD_some, List.length_cons, List.length_nil, Nat.reduceAdd, Nat.reduceEqDiff, Nat.zero_add, bin_add, bin_gtr, w64, if_true, if_false, Bool.false_eq_true, decide_false, true_and, reduceCtorEq, Int.reduceLT, Int.ofNat_zero]
      exact ⟨(i + 1, ws), ⟨by simp only; omega, hs.perm, hs.zero⟩, by simp [Has, rd_s], rfl, by simp only; omega⟩
    | succ k =>
      have hk1 : k + 1 < ws.length := by omega
      have hk0 : k < ws.length := by omega
      have hjp : (0 : Int) < ((k + 1 : Nat) : Int) := by omega
      have hjm : ((k + 1 : Nat) : Int) - 1 = (k : Int) := by omega
      obtain ⟨x, hx⟩ : ∃ x, ws[k + 1]? = some x := ⟨_, List.getElem?_eq_getElem hk1⟩
      obtain ⟨y, hy⟩ : ∃ y, ws[k]? = some y := ⟨_, List.getElem?_eq_getElem hk0⟩
      have h1 := ho.st hk1 (I y) y rfl
      rw [List.set_set] at h1
      have ho2 := OL_setAll h (ws.set (k + 1) y) (by simp [hlen])
      have h2 := ho2.st (i := k) (by simp; omega) (I x) x rfl
      rw [List.set_set] at h2
      have hswap := hs.swap (x := x) (y := y) hj hx hy
      have hstop := hs.stop hx hy
      generalize hJ : ((k + 1 : Nat) : Int) = J at *
      have hidx1 : idxA 1 v (.int .i64 J) = some (.ptr (nm v) (of v + (k + 1) * 1)) := by rw [← hJ]; exact ho.ls.idx hk1
      simp (maxSteps := 4000000) -implicitDefEqProofs -dsimp (disch := omega) only [↓AW_ops, ↓AW_seq, ↓AOps_pu, ↓AOps_ld, ↓AOps_call, ↓AOps_guard, on_some, guardB_tt, pval, lval, rd_S, rd_C, put_S, partA, eq_self, mk, List.foldl_cons, List.foldl_nil, List.replicate_succ, List.replicate_zero, List.set_cons_zero, List.set_cons_succ, List.getElem?_cons_zero, List.getElem?_cons_succ, List.drop_zero, List.take_succ_cons, List.take_nil, Option.getD_some, map_c, map_n, List.length_cons, List.length_nil, Nat.reduceLeDiff, Nat.zero_add, bin_sub, bin_gtr, w64, if_true, if_false, Bool.false_eq_true, decide_true, Go.Eng.e1, hjp, hjm, hidx1, ho.ls.ld0 hx 1 false (by decide), ho.ls.idx hk0, ho.ls.ld0 hy 1 false (by decide)]
      refine CallK.of (sLess x y _) ?_
      by_cases hxy : x < y
      · simp (maxSteps := 4000000) -implicitDefEqProofs -dsimp (disch := omega) only [↓AW_skip, ↓AW_ops, ↓AW_seq, ↓AW_cond, ↓AW_block, ↓AOps_nil, ↓AOps_pu, ↓AOps_ld, ↓AOps_ha, on_some, extK_false, extK_same, condB_t, ↓then_normal, ↓inBlock_normal, pval, lval, hval_st, rd_S, rd_C, put_S, putS_none, partA, eq_self, mk, List.foldl_cons, List.foldl_nil, List.replicate_succ, List.replicate_zero, List.set_cons_zero, List.set_cons_succ, List.getElem?_cons_zero, List.getElem?_cons_succ, List.drop_zero, List.take_succ_cons, List.take_nil, Option.getD_some, Option.map_some, List.length_cons, List.length_nil, Nat.reduceAdd, Nat.reduceLeDiff, Nat.zero_add, bin_sub, w64, if_true, if_false, Bool.false_eq_true, decide_true, Go.Eng.e1, true_and, hxy, hjm, hidx1, ho.ls.ld0 hx 1 false (by decide), ho.ls.idx hk0, ho.ls.ld0 hy 1 false (by decide), h1, h2]
        exact ⟨(k, (ws.set (k + 1) y).set k x), ⟨by simp only; omega, hswap hxy⟩, by simp [Has, rd_s], rfl, by simp only; omega⟩
      · simp (maxSteps := 4000000) -implicitDefEqProofs -dsimp (disch := omega) only [↓AW_ops, ↓AW_cond, ↓AW_exit, ↓AOps_nil, ↓AOps_pu, on_some, extK_same, condB_f, ↓then_normal, ↓then_exit, ↓inBlock_normal, ↓inBlock_exit, ↓Fin_normal, pval, rd_S, rd_C, put_S, resV, resL, eq_self, mk, List.foldl_cons, List.foldl_nil, List.replicate_succ, List.replicate_zero, List.set_cons_zero, List.set_cons_succ, List.getElem?_cons_zero, List.getElem?_cons_succ, Option.getD_some, List.length_cons, List.length_nil, Nat.reduceAdd, Nat.reduceEqDiff, Nat.zero_add, bin_add, w64, if_true, if_false, decide_false, true_and, reduceCtorEq, hxy]
        exact ⟨(i + 1, ws), ⟨by simp only; omega, hs.perm, hstop hxy⟩, by simp [Has, rd_s], rfl, by simp only; omega⟩
  · have hlt' : ¬ (i : Int) < xs.length := by omega
    have he := SU.srt hpz hz (by omega)
    simp (maxSteps := 4000000) -implicitDefEqProofs -dsimp (disch := omega) only [↓AW_ops, ↓AW_seq, ↓AW_cond, ↓AW_exit, ↓AOps_nil, ↓AOps_pu, on_some, condB_f, ↓then_normal, ↓then_exit, ↓inBlock_exit, ↓Fin_normal, pval, rd_S, put_S, resV, resL, eq_self, mk, List.foldl_cons, List.foldl_nil, List.replicate_succ, List.replicate_zero, List.set_cons_zero, List.set_cons_succ, List.getElem?_cons_zero, List.getElem?_cons_succ, Option.getD_some, bin_lss, if_true, decide_false, hlt']
    rw [he]
    exact gc_same_all rfl rfl
theorem c_pdq {xs : List Int} {v : AV} {A H : AHeap} {n : Nat} (h : OL 1 e1 A H n v xs) (hl : xs.length ≤ 12) (k : Int) : ACalls Try.prog 110 [v, I 0, I xs.length, I k] H (.tuple []) (H.set n (.cells true ((srt xs).flatMap e1))) := by
  refine acalls hmix Try.func110 (by kernel_rfl) t110 4 rfl (by decide) ?_
  dsimp only [m110]
  simp (maxSteps := 4000000) -implicitDefEqProofs -dsimp (disch := omega) only [↓AW_ops, ↓AW_seq, ↓AW_block, ↓AOps_nil, ↓AOps_pu, on_some, ↓then_normal, pval, rd_C, put_S, ↓AW_toLoop, List.replicate_succ, List.replicate_zero, List.set_cons_zero, List.set_cons_succ, Nat.reduceSub, List.cons_append, List.nil_append]
  refine LoopK.by 134 (fun _ : Unit => True) (fun _ => [(0, v), (1, I 0), (2, I xs.length), (3, I k), (8, B true), (9, B true)]) (fun _ => H) (fun _ => 0) () trivial rfl (by simp [Has, rd_s]) rfl ?_
  rintro _ _
  have h12 : (xs.length : Int) ≤ 12 := by omega
  have h0 : (xs.length : Int) - 0 = xs.length := by omega
  simp (maxSteps := 4000000) -implicitDefEqProofs -dsimp (disch := omega) only [↓AW_ops, ↓AW_seq, ↓AW_cond, ↓AW_block, ↓AOps_nil, ↓AOps_pu, ↓AOps_call, on_some, condB_t, ↓then_normal, pval, rd_S, rd_C, put_S, mk, List.foldl_cons, List.foldl_nil, List.replicate_succ, List.replicate_zero, List.set_cons_zero, List.set_cons_succ, List.getElem?_cons_zero, List.getElem?_cons_succ, Option.getD_some, map_c, map_n, bin_sub, bin_leq, w64, decide_true, h0, h12]
  refine CallK.of (c_ins h (by omega)) ?_
  simp (maxSteps := 4000000) -implicitDefEqProofs -dsimp (disch := omega) only [↓AW_ret, ↓AOps_nil, on_some, extK_false, ↓then_normal, ↓then_ret, ↓inBlock_ret, ↓Fin_ret, resV, resL]
  exact gc_same_all rfl rfl
def isI : Option (AV × AHeap) → Bool
  | some (.int .i64 _, _) => true
  | _ => false
set_option maxRecDepth 100000 in
theorem len_run : (List.range 13).all (fun k => isI (runF tab 300 14 111 [.int .u64 (k : Int)] [])) = true := by kernel_rfl
theorem c_Len {k : Nat} (hk : k ≤ 12) (A : AHeap) : ∃ n : Int, ACalls Try.prog 111 [.int .u64 (k : Int)] A (I n) A := by
  have h := List.all_eq_true.1 len_run k (List.mem_range.2 (by omega))
  cases hr : runF tab 300 14 111 [.int .u64 (k : Int)] [] with
  | none => rw [hr] at h; cases h
  | some p =>
    obtain ⟨v, A'⟩ := p
    rw [hr] at h
    have h2 : ∃ n, v = I n := by
      unfold isI at h
      split at h
      · rename_i m _ e; cases e; exact ⟨m, rfl⟩
      · cases h
    obtain ⟨n, rfl⟩ := h2
    exact ⟨n, (runF_ok hmix tabOK 300 14 111 [.int .u64 (k : Int)] [] _ _ hr).lift (by simp [flat]) rfl A⟩
theorem wu64 {n : Int} (h0 : 0 ≤ n) (h1 : n < 18446744073709551616) : IntKind.u64.wrap n = n := by
  have : (2 : Int) ^ IntKind.u64.bits = 18446744073709551616 := by decide
  unfold IntKind.wrap
  simp only [this, IntKind.signed, Bool.false_and, Bool.false_eq_true, if_false]
  exact Int.emod_eq_of_lt h0 h1
theorem c_Sort {xs : List Int} {v : AV} {A H : AHeap} {n : Nat} (h : OL 1 e1 A H n v xs) (hl : xs.length ≤ 12) : ACalls Try.prog 100 [v] H (.tuple []) (H.set n (.cells true ((srt xs).flatMap e1))) := by
  refine acalls hmix Try.func100 (by kernel_rfl) t100 1 rfl (by decide) ?_
  obtain ⟨k, hk⟩ := c_Len hl H
  have hw := wu64 (n := (xs.length : Int)) (by omega) (by omega)
  dsimp only [m100]
  simp (maxSteps := 4000000) -implicitDefEqProofs -dsimp (disch := omega) only [↓AW_ops, ↓AW_seq, ↓AOps_nil, ↓AOps_pu, ↓AOps_call, on_some, ↓then_normal, pval, rd_S, put_S, List.replicate_succ, List.replicate_zero, List.set_cons_zero, List.set_cons_succ, List.getElem?_cons_zero, List.getElem?_cons_succ, Option.getD_some, map_c, map_n, Nat.reduceSub, List.cons_append, List.nil_append, h.ls.len, hw]
  refine CallK.of hk ?_
  simp (maxSteps := 4000000) -implicitDefEqProofs -dsimp (disch := omega) only [↓AOps_call, extK_same, rd_S, rd_C, put_S, List.replicate_succ, List.replicate_zero, List.set_cons_zero, List.set_cons_succ, List.getElem?_cons_zero, List.getElem?_cons_succ, Option.getD_some, map_c, map_n, Nat.reduceSub, List.cons_append, List.nil_append]
  refine CallK.of (c_pdq h hl k) ?_
  simp (maxSteps := 4000000) -implicitDefEqProofs -dsimp (disch := omega) only [↓AOps_nil, on_some, extK_false, ↓Fin_normal, resV, resL]
  exact gc_same_all rfl rfl
theorem c_SortNil (A : AHeap) : ACalls Try.prog 100 [.nilS] A (.tuple []) A := by
  have h114 : ACalls Try.prog 114 [.nilS, I 0, I 0] A (.tuple []) A := by
    refine acalls hmix Try.func114 (by kernel_rfl) t114 3 rfl (by decide) ?_
    dsimp only [m114]
    simp (maxSteps := 4000000) -implicitDefEqProofs -dsimp (disch := omega) only [↓AW_ops, ↓AW_seq, ↓AW_block, ↓AOps_nil, ↓AOps_pu, on_some, ↓then_normal, pval, rd_S, rd_C, put_S, ↓AW_toLoop, List.replicate_succ, List.replicate_zero, List.set_cons_zero, List.set_cons_succ, List.getElem?_cons_zero, List.getElem?_cons_succ, Option.getD_some, Nat.reduceSub, List.cons_append, List.nil_append, bin_add, w64, Int.reduceAdd]
    refine LoopK.by 49 (fun _ : Unit => True) (fun _ => [(0, .nilS), (1, I 0), (2, I 0), (6, I 1)]) (fun _ => A) (fun _ => 0) () trivial rfl (by simp [Has, rd_s]) rfl ?_
    rintro _ _
    simp (maxSteps := 4000000) -implicitDefEqProofs -dsimp (disch := omega) only [↓AW_ops, ↓AW_seq, ↓AW_cond, ↓AW_exit, ↓AOps_nil, ↓AOps_pu, on_some, condB_f, ↓then_normal, ↓then_exit, ↓inBlock_exit, ↓Fin_normal, pval, rd_S, put_S, resV, resL, eq_self, mk, List.foldl_cons, List.foldl_nil, List.replicate_succ, List.replicate_zero, List.set_cons_zero, List.set_cons_succ, List.getElem?_cons_zero, List.getElem?_cons_succ, Option.getD_some, bin_lss, if_true, decide_false, Int.reduceLT]
    exact gc_same rfl
  have h110 : ∀ k : Int, ACalls Try.prog 110 [.nilS, I 0, I 0, I k] A (.tuple []) A := by
    intro k
    refine acalls hmix Try.func110 (by kernel_rfl) t110 4 rfl (by decide) ?_
    dsimp only [m110]
    simp (maxSteps := 4000000) -implicitDefEqProofs -dsimp (disch := omega) only [↓AW_ops, ↓AW_seq, ↓AW_block, ↓AOps_nil, ↓AOps_pu, on_some, ↓then_normal, pval, rd_C, put_S, ↓AW_toLoop, List.replicate_succ, List.replicate_zero, List.set_cons_zero, List.set_cons_succ, Nat.reduceSub, List.cons_append, List.nil_append]
    refine LoopK.by 134 (fun _ : Unit => True) (fun _ => [(0, .nilS), (1, I 0), (2, I 0), (3, I k), (8, B true), (9, B true)]) (fun _ => A) (fun _ => 0) () trivial rfl (by simp [Has, rd_s]) rfl ?_
    rintro _ _
    simp (maxSteps := 4000000) -implicitDefEqProofs -dsimp (disch := omega) only [↓AW_ops, ↓AW_seq, ↓AW_cond, ↓AW_block, ↓AOps_nil, ↓AOps_pu, ↓AOps_call, on_some, condB_t, ↓then_normal, pval, rd_S, rd_C, put_S, mk, List.foldl_cons, List.foldl_nil, List.replicate_succ, List.replicate_zero, List.set_cons_zero, List.set_cons_succ, List.getElem?_cons_zero, List.getElem?_cons_succ, Option.getD_some, map_c, map_n, bin_sub, bin_leq, w64, decide_true, Int.reduceLE, Int.reduceSub]
    refine CallK.of h114 ?_
    simp (maxSteps := 4000000) -implicitDefEqProofs -dsimp (disch := omega) only [↓AW_ret, ↓AOps_nil, on_some, extK_same, ↓then_normal, ↓then_ret, ↓inBlock_ret, ↓Fin_ret, resV, resL]
    exact gc_same rfl
  refine acalls hmix Try.func100 (by kernel_rfl) t100 1 rfl (by decide) ?_
  obtain ⟨k, hk⟩ := c_Len (k := 0) (by omega) A
  have hw := wu64 (n := 0) (by omega) (by omega)
  dsimp only [m100]
  simp (maxSteps := 4000000) -implicitDefEqProofs -dsimp (disch := omega) only [↓AW_ops, ↓AW_seq, ↓AOps_nil, ↓AOps_pu, ↓AOps_call, on_some, ↓then_normal, pval, rd_S, put_S, List.replicate_succ, List.replicate_zero, List.set_cons_zero, List.set_cons_succ, List.getElem?_cons_zero, List.getElem?_cons_succ, Option.getD_some, map_c, map_n, Nat.reduceSub, List.cons_append, List.nil_append, lenA, hw]
  refine CallK.of hk ?_
  simp (maxSteps := 4000000) -implicitDefEqProofs -dsimp (disch := omega) only [↓AOps_call, extK_same, rd_S, rd_C, put_S, List.replicate_succ, List.replicate_zero, List.set_cons_zero, List.set_cons_succ, List.getElem?_cons_zero, List.getElem?_cons_succ, Option.getD_some, map_c, map_n, Nat.reduceSub, List.cons_append, List.nil_append]
  refine CallK.of (h110 k) ?_
  simp (maxSteps := 4000000) -implicitDefEqProofs -dsimp (disch := omega) only [↓AOps_nil, on_some, extK_same, ↓Fin_normal, resV, resL]
  exact gc_same rfl
/-- A list that the call has made is sorted in place. -/
theorem c_SortAcc {A H : AHeap} {v : AV} {xs : List Int} (h : AccL 1 e1 A H v xs) (hl : xs.length ≤ 12) : ∃ H', ACalls Try.prog 100 [v] H (.tuple []) H' ∧ A <+: H' ∧ L1 H' v (srt xs) ∧ AccL 1 e1 A H' v (srt xs) := by
  by_cases h0 : xs.length = 0
  · have hz : v = .nilS := by
      rcases h.2.2 with ⟨_, h4⟩ | ⟨h3, _⟩
      · exact h4
      · omega
    have hx : xs = [] := List.eq_nil_of_length_eq_zero h0
    subst hz
    subst hx
    have hs : srt [] = [] := by simp [srt]
    rw [hs]
    exact ⟨H, c_SortNil H, h.1, L1_nil _, h⟩
  · obtain ⟨n, ho, hv⟩ := AccL_ol h e1_len (by omega)
    have ho2 := OL_setAll ho (srt xs) (srt_len xs)
    refine ⟨_, c_Sort ho hl, ho2.pre, ho2.ls, ?_⟩
    have := ho2.acc (by rw [srt_len]; omega)
    rw [srt_len] at this
    rw [hv]
    exact this
section
variable {P : Nat} {rs : List Rd} {ks : List Int} {u v : AV} {A : AHeap}
theorem grw_snoc {R : Int → Rd} {L : List Int} {i : Nat} {k : Int} (h : L[i]? = some k) : grw R [] (L.take (i + 1)) = if Cn ((grw R [] (L.take i)).map R) (R k).1 (R k).2.1 then grw R [] (L.take i) else grw R [] (L.take i) ++ [k] := by
  rw [List.take_add_one, h]
  show grw R [] (L.take i ++ [k]) = _
  rw [grw_append]
  rfl
theorem grw_nos {L : List Int} (h : Nos rs L) : Nos rs (grw (rdx rs) [] L) := fun k hk => h k ((grw_sub L).subset hk)
theorem grw_small (hn : Net P rs) {L : List Int} (h : Nos rs L) : (grw (rdx rs) [] L).length + 1 ≤ P := by
  have h1 := grw_len (P := P) (h.inP hn)
  have := hn.p1
  have h2 := comps_pos (P := P) (S := L.map (rdx rs)) (by omega)
  omega
theorem Nos.take {L : List Int} (h : Nos rs L) (i : Nat) : Nos rs (L.take i) := fun k hk => h k (List.mem_of_mem_take hk)
set_option maxHeartbeats 8000000 in
theorem c_grow {L : List Int} (hu : L3 A u rs) (hx : L1 A v L) (hn : Net P rs) (hk : Nos rs L) (hl : L.length ≤ 1000000) : ∃ r H, ACalls Try.prog 61 [.agg [I P, u], v] A r H ∧ A <+: H ∧ L1 H r (srt (grw (rdx rs) [] L)) := by
  refine acallsR hmix Try.func61 (by kernel_rfl) t61 _ 2 rfl (by decide) ?_
  have hP7 := hn.p7
  dsimp only [m61]
  simp (maxSteps := 4000000) -implicitDefEqProofs -dsimp (disch := omega) only [↓AW_ops, ↓AW_seq, ↓AW_block, ↓AOps_nil, ↓AOps_pu, on_some, ↓then_normal, pval, rd_S, rd_C, put_S, ↓AW_toLoop, cells_agg, List.replicate_succ, List.replicate_zero, List.set_cons_zero, List.set_cons_succ, List.getElem?_cons_zero, List.getElem?_cons_succ, Option.getD_some, Nat.reduceSub, List.cons_append, List.nil_append, hx.len]
  refine LoopK.by 43 (fun x : Nat × AV × AHeap => x.1 ≤ L.length ∧ AccL 1 e1 A x.2.2 x.2.1 (grw (rdx rs) [] (L.take x.1))) (fun x => [(2, .agg [I P, u]), (5, x.2.1), (9, v), (10, I L.length), (11, I x.1)]) (fun x => x.2.2) (fun x => L.length - x.1) (0, .nilS, A) ⟨by simp only; omega, by rw [List.take_zero]; exact AccL.nil (List.prefix_refl _)⟩ rfl (by simp [Has, rd_s]) rfl ?_
  rintro ⟨i, y, H⟩ ⟨hi, hac⟩
  simp only at hi hac
  have hxH := hx.mono hac.1
  have huH := hu.mono hac.1
  by_cases hlt : i < L.length
  · obtain ⟨z, hz⟩ : ∃ z, L[i]? = some z := ⟨_, List.getElem?_eq_getElem hlt⟩
    have hlt' : (i : Int) < L.length := by omega
    obtain ⟨k0, k1⟩ := hk z (List.mem_of_getElem? hz)
    obtain ⟨hr, _⟩ := rdx_at k0 k1
    obtain ⟨⟨a0, a1⟩, ⟨b0, b1⟩⟩ := hn.inP k0 k1
    have hsm := grw_small hn (hk.take i)
    have hs := grw_snoc (R := rdx rs) hz
    have hgn := grw_nos (hk.take i)
    generalize hg : grw (rdx rs) [] (L.take i) = xs at *
    simp (maxSteps := 4000000) -implicitDefEqProofs -dsimp (disch := omega) only [↓AW_skip, ↓AW_ops, ↓AW_seq, ↓AW_cond, ↓AW_block, ↓AOps_nil, ↓AOps_pu, ↓AOps_ld, ↓AOps_call, on_some, condB_t, ↓then_normal, pval, lval_ld, rd_S, put_S, chkd, bgot, partA, eq_self, mk, List.foldl_cons, List.foldl_nil, List.replicate_succ, List.replicate_zero, List.set_cons_zero, List.set_cons_succ, List.getElem?_cons_zero, List.getElem?_cons_succ, List.drop_zero, List.take_succ_cons, List.take_nil, Option.getD_some, map_c, map_n, List.length_cons, List.length_nil, Nat.reduceAdd, Nat.reduceLeDiff, Nat.reduceEqDiff, Nat.zero_add, bin_lss, if_true, if_false, Bool.false_eq_true, decide_true, Go.Eng.e1, hlt', hxH.idx hlt, hxH.ld0 hz 1 false (by decide)]
    refine CallK.of (s99 huH (AccL_ls hac e1_len) hn hgn (by omega)) ?_
    have hpm := pre_app H [.mp (mI P (lab (xs.map (rdx rs))))]
    have hm := mp_new H (.mp (mI P (lab (xs.map (rdx rs)))))
    have hacm := hac.mono hpm
    have hum := huH.mono hpm
    generalize H ++ [AObj.mp (mI P (lab (xs.map (rdx rs))))] = H1 at *
    have hri := hum.idxI (k := .i64) k0 (show z < (rs.length : Int) by omega)
    have hla := lkI' hm a0 a1
    have hlb := lkI' hm b0 b1
    by_cases hc : Cn (xs.map (rdx rs)) (rdx rs z).1 (rdx rs z).2.1
    · have hq : lab (xs.map (rdx rs)) (rdx rs z).1 = lab (xs.map (rdx rs)) (rdx rs z).2.1 := (lab_eq_iff a0 b0).2 hc
      rw [if_pos hc] at hs
      simp (maxSteps := 4000000) -implicitDefEqProofs -dsimp (disch := omega) only [↓AW_skip, ↓AW_ops, ↓AW_seq, ↓AW_cond, ↓AOps_nil, ↓AOps_pu, ↓AOps_ld, on_some, extK_false, condB_f, ↓then_normal, ↓inBlock_normal, pval, lval_ld, lval_look, rd_S, rd_C, put_S, chkd, isAdr, bgot, cells_agg, partA, eq_self, mk, List.foldl_cons, List.foldl_nil, List.replicate_succ, List.replicate_zero, List.set_cons_zero, List.set_cons_succ, List.getElem?_cons_zero, List.getElem?_cons_succ, List.drop_zero, List.drop_succ_cons, List.take_zero, List.take_succ_cons, List.take_nil, Option.getD_some, List.length_cons, List.length_nil, Nat.reduceAdd, Nat.reduceLeDiff, Nat.zero_add, Nat.add_zero, bin_add, bin_neq, w64, if_true, if_false, Bool.false_eq_true, decide_false, true_and, not_true_eq_false, hri, hum.ld0 hr 1 false (by decide), hum.ld hr 1 1 false (by decide), e3, hla, hlb, hq]
      exact ⟨(i + 1, y, H1), ⟨hlt, by rw [hs]; exact hacm⟩, by simp [Has, rd_s], rfl, by simp only; omega⟩
    · have hq : ¬ lab (xs.map (rdx rs)) (rdx rs z).1 = lab (xs.map (rdx rs)) (rdx rs z).2.1 := fun e => hc ((lab_eq_iff a0 b0).1 e)
      rw [if_neg hc] at hs
      obtain ⟨v', H2, happ, hacc, _, n, len, rfl, _⟩ := AccL_push2 hacm e1_len (by omega) z (by simp only [lim]; omega)
      simp only [Go.Eng.e1] at happ
      simp (maxSteps := 4000000) -implicitDefEqProofs -dsimp (disch := omega) only [↓AW_ops, ↓AW_seq, ↓AW_cond, ↓AOps_nil, ↓AOps_pu, ↓AOps_ld, ↓AOps_ha, on_some, extK_false, extK_app, condB_t, ↓then_normal, ↓inBlock_normal, pval, lval_ld, lval_look, hval_blds, hval_app, rd_S, rd_C, put_S, chkd, isAdr, bgot, cells_agg, cells_int, splice, partA, fillA, repl, eq_self, mk, List.foldl_cons, List.foldl_nil, List.replicate_succ, List.replicate_zero, List.set_cons_zero, List.set_cons_succ, List.getElem?_cons_zero, List.getElem?_cons_succ, List.drop_zero, List.drop_succ_cons, List.drop_nil, List.take_zero, List.take_succ_cons, List.take_nil, Option.getD_some, map_c, map_n, List.length_cons, List.length_nil, Nat.reduceAdd, Nat.reduceLeDiff, Nat.zero_add, Nat.add_zero, List.nil_append, List.append_nil, bin_add, bin_neq, w64, if_true, if_false, Bool.false_eq_true, decide_true, true_and, and_true, not_false_eq_true, hri, hum.ld0 hr 1 false (by decide), hum.ld hr 1 1 false (by decide), e3, hla, hlb, hq, happ, List.replicate_zero, repl]
      exact ⟨(i + 1, .sl 1 n 0 len false, H2), ⟨hlt, by rw [hs]; exact hacc⟩, by simp [Has, rd_s], rfl, by simp only; omega⟩
  · have hlt' : ¬ ((i : Int) < L.length) := by omega
    rw [List.take_of_length_le (by omega)] at hac
    have hsm := grw_small hn hk
    obtain ⟨H', hcs, hp, hl1, _⟩ := c_SortAcc hac (by omega)
    simp (maxSteps := 4000000) -implicitDefEqProofs -dsimp (disch := omega) only [↓AW_ops, ↓AW_seq, ↓AW_cond, ↓AW_exit, ↓AOps_nil, ↓AOps_pu, ↓AOps_call, on_some, condB_f, ↓then_normal, ↓then_exit, ↓inBlock_exit, pval, rd_S, put_S, eq_self, mk, List.foldl_cons, List.foldl_nil, List.replicate_succ, List.replicate_zero, List.set_cons_zero, List.set_cons_succ, List.getElem?_cons_zero, List.getElem?_cons_succ, Option.getD_some, map_c, map_n, bin_lss, if_true, decide_false, hlt']
    refine CallK.of hcs ?_
    simp (maxSteps := 4000000) -implicitDefEqProofs -dsimp (disch := omega) only [↓AW_ops, ↓AW_seq, ↓AW_ret, ↓AOps_nil, ↓AOps_pu, on_some, extK_false, ↓then_normal, ↓FinR_ret, pval, rd_S, put_S, resV, resL, mk, List.foldl_cons, List.foldl_nil, List.replicate_succ, List.replicate_zero, List.set_cons_zero, List.set_cons_succ, List.getElem?_cons_zero, List.getElem?_cons_succ, Option.getD_some]
    exact ⟨_, _, gc_all, hp, hl1⟩
end
end Go.Proofs.Ytkgfcdpckfhknaa

namespace Go.Proofs.Ytkgfcdpckfhknaa
open Go Go.Eng
def bset (m s : Nat) : List Int := (plc m).filter (fun i => s.testBit i.toNat)
theorem bset_succ (m s : Nat) : bset (m + 1) s = bset m s ++ (if s.testBit m = true then [(m : Int)] else []) := filt_succ _ m
theorem plc_sorted : ∀ m : Nat, (plc m).Pairwise (· < ·)
  | 0 => List.Pairwise.nil
  | m + 1 => by
    rw [plc_succ, List.pairwise_append]
    refine ⟨plc_sorted m, List.pairwise_singleton _ _, fun a ha b hb => ?_⟩
    have h1 := (mem_plc.1 ha).2
    have h2 : b = (m : Int) := by simpa using hb
    omega
theorem bset_okS (m s : Nat) : okS m (bset m s) := by
  refine ⟨fun x hx => ?_, (plc_sorted m).filter _⟩
  have := mem_plc.1 (List.mem_filter.1 hx).1
  omega
theorem okS_split {m : Nat} {l : List Int} (h : okS ((m + 1 : Nat) : Int) l) : okS m l ∨ ∃ l', l = l' ++ [(m : Int)] ∧ okS m l' := by
  by_cases hm : (m : Int) ∈ l
  · right
    obtain ⟨a, b, rfl⟩ := List.append_of_mem hm
    have hp := List.pairwise_append.1 h.2
    have hb : b = [] := by
      cases b with
      | nil => rfl
      | cons y b =>
        have h1 := (List.pairwise_cons.1 hp.2.1).1 y (by simp)
        have h2 := h.1 y (by simp)
        omega
    subst hb
    refine ⟨a, rfl, fun x hx => ?_, hp.1⟩
    have h1 := hp.2.2 x hx m (by simp)
    have h2 := h.1 x (by simp [hx])
    omega
  · left
    refine ⟨fun x hx => ?_, h.2⟩
    have h2 := h.1 x hx
    have h3 : x ≠ (m : Int) := fun e => hm (e ▸ hx)
    omega
theorem bset_congr {m s t : Nat} (h : ∀ i, i < m → s.testBit i = t.testBit i) : bset m s = bset m t := by
  unfold bset
  refine List.filter_congr (fun x hx => ?_)
  have := mem_plc.1 hx
  rw [h x.toNat (by omega)]
theorem bset_ex : ∀ {m : Nat} {l : List Int}, okS m l → ∃ s, s < 2 ^ m ∧ bset m s = l
  | 0, l, h => by
    refine ⟨0, by simp, ?_⟩
    cases l with
    | nil => rfl
    | cons x l => have := h.1 x (by simp); omega
  | m + 1, l, h => by
    have e2 : 2 ^ (m + 1) = 2 ^ m + 2 ^ m := by rw [Nat.pow_succ]; omega
    rcases okS_split h with h1 | ⟨l', rfl, h1⟩
    · obtain ⟨s, hs, rfl⟩ := bset_ex h1
      refine ⟨s, by omega, ?_⟩
      rw [bset_succ, Nat.testBit_lt_two_pow hs]
      simp
    · obtain ⟨s, hs, rfl⟩ := bset_ex h1
      refine ⟨2 ^ m + s, by omega, ?_⟩
      rw [bset_succ, Nat.testBit_two_pow_add_eq, Nat.testBit_lt_two_pow hs, bset_congr (t := s) (fun i hi => Nat.testBit_two_pow_add_gt hi s)]
      simp
def subs (m : Nat) : List (List Int) := (List.range (2 ^ m)).map (bset m)
/-- All trees of a net. -/
noncomputable def trees (P : Nat) (rs : List Rd) : List (List Int) := (subs rs.length).filter (fun l => decide (Tree P (rdx rs) l))
theorem mem_subs {m : Nat} {l : List Int} : l ∈ subs m ↔ okS m l := by
  unfold subs
  rw [List.mem_map]
  constructor
  · rintro ⟨s, _, rfl⟩; exact bset_okS m s
  · intro h
    obtain ⟨s, hs, rfl⟩ := bset_ex h
    exact ⟨s, List.mem_range.2 hs, rfl⟩
theorem mem_trees {P : Nat} {rs : List Rd} {l : List Int} : l ∈ trees P rs ↔ okS rs.length l ∧ Tree P (rdx rs) l := by
  unfold trees
  rw [List.mem_filter, mem_subs, decide_eq_true_eq]
/-- One more: it is kept if none is cheaper; the dearer ones are thrown away. -/
def chst (c : List Int → Int) (out : List (List Int)) (l : List Int) : List (List Int) :=
  match out with
  | [] => [l]
  | x :: r => if c l < c x then [l] else if c l = c x then (x :: r) ++ [l] else x :: r
def chp (c : List Int → Int) (xs : List (List Int)) : List (List Int) := xs.foldl (chst c) []
theorem chp_snoc (c : List Int → Int) (xs : List (List Int)) (l : List Int) : chp c (xs ++ [l]) = chst c (chp c xs) l := by
  unfold chp
  rw [List.foldl_append]
  rfl
theorem chp_spec (c : List Int → Int) : ∀ xs : List (List Int), (∀ l, l ∈ chp c xs ↔ l ∈ xs ∧ ∀ y ∈ xs, c l ≤ c y) ∧ (xs ≠ [] → chp c xs ≠ []) := by
  intro xs
  have key : ∀ n (xs : List (List Int)), xs.length = n → (∀ l, l ∈ chp c xs ↔ l ∈ xs ∧ ∀ y ∈ xs, c l ≤ c y) ∧ (xs ≠ [] → chp c xs ≠ []) := by
    intro n
    induction n with
    | zero =>
      intro xs h
      have := List.eq_nil_of_length_eq_zero h
      subst this
      exact ⟨fun l => by simp [chp], fun h => absurd rfl h⟩
    | succ n ih =>
      intro xs h
      obtain ⟨ys, z, rfl⟩ : ∃ ys z, xs = ys ++ [z] := by
        rcases List.eq_nil_or_concat xs with e | ⟨ys, z, e⟩
        · subst e; simp at h
        · exact ⟨ys, z, by rw [e, List.concat_eq_append]⟩
      obtain ⟨h1, h2⟩ := ih ys (by simpa using h)
      rw [chp_snoc]
      unfold chst
      cases hc : chp c ys with
      | nil =>
        have hy : ys = [] := Classical.byContradiction (fun hn => h2 hn hc)
        subst hy
        simp
      | cons x r =>
        have hx : x ∈ chp c ys := by rw [hc]; simp
        have hx2 := (h1 x).1 hx
        simp only
        by_cases g1 : c z < c x
        · rw [if_pos g1]
          refine ⟨fun l => ?_, fun _ => by simp⟩
          rw [List.mem_singleton]
          constructor
          · rintro rfl
            refine ⟨by simp, fun y hy => ?_⟩
            rcases List.mem_append.1 hy with hy | hy
            · have := hx2.2 y hy; omega
            · have : y = l := by simpa using hy
              rw [this]; exact Int.le_refl _
          · rintro ⟨hl, hm⟩
            rcases List.mem_append.1 hl with hl | hl
            · have := hm z (by simp)
              have := hx2.2 l hl
              omega
            · simpa using hl
        · rw [if_neg g1]
          by_cases g2 : c z = c x
          · rw [if_pos g2]
            refine ⟨fun l => ?_, fun _ => by simp⟩
            rw [← hc, List.mem_append, List.mem_singleton, h1, List.mem_append, List.mem_singleton]
            constructor
            · rintro (⟨hl, hm⟩ | rfl)
              · refine ⟨.inl hl, fun y hy => ?_⟩
                rcases List.mem_append.1 hy with hy | hy
                · exact hm y hy
                · have e : y = z := by simpa using hy
                  rw [e, g2]
                  exact hm x hx2.1
              · refine ⟨.inr rfl, fun y hy => ?_⟩
                rcases List.mem_append.1 hy with hy | hy
                · have := hx2.2 y hy; omega
                · have e : y = l := by simpa using hy
                  rw [e]; exact Int.le_refl _
            · rintro ⟨hl, hm⟩
              rcases hl with hl | rfl
              · exact .inl ⟨hl, fun y hy => hm y (by simp [hy])⟩
              · exact .inr rfl
          · rw [if_neg g2]
            refine ⟨fun l => ?_, fun _ => by simp⟩
            rw [← hc, h1, List.mem_append, List.mem_singleton]
            constructor
            · rintro ⟨hl, hm⟩
              refine ⟨.inl hl, fun y hy => ?_⟩
              rcases List.mem_append.1 hy with hy | hy
              · exact hm y hy
              · have e : y = z := by simpa using hy
                rw [e]
                have := hm x hx2.1
                omega
            · rintro ⟨hl, hm⟩
              rcases hl with hl | rfl
              · exact ⟨hl, fun y hy => hm y (by simp [hy])⟩
              · have := hm x (by simp [hx2.1])
                omega
  exact key xs.length xs rfl
/-- All cheapest trees. -/
noncomputable def chl (P : Nat) (rs : List Rd) : List (List Int) := chp (cst (wct rs)) (trees P rs)
theorem mem_chl {P : Nat} {rs : List Rd} {l : List Int} : l ∈ chl P rs ↔ l ∈ trees P rs ∧ ∀ y ∈ trees P rs, cst (wct rs) l ≤ cst (wct rs) y := (chp_spec _ _).1 l
theorem chl_nil {P : Nat} {rs : List Rd} (h : trees P rs = []) : chl P rs = [] := by unfold chl; rw [h]; rfl
section
variable {P : Nat} {rs : List Rd}
/-- One order of the roads. -/
def ordL (rs : List Rd) : List Int := (nums rs).mergeSort (fun a b => decide (wct rs a ≤ wct rs b))
theorem ordL_ord (rs : List Rd) : Ord rs (ordL rs) := by
  refine ⟨List.mergeSort_perm _ _, ?_⟩
  have := List.pairwise_mergeSort (le := fun a b : Int => decide (wct rs a ≤ wct rs b)) (fun a b c h k => by simp at *; omega) (fun a b => by simp; omega) (nums rs)
  exact this.imp (fun h => by simpa using h)
theorem okS_nos {l : List Int} (h : okS rs.length l) : Nos rs l := fun k hk => by have := h.1 k hk; omega
theorem okS_nodup {b : Int} {l : List Int} (h : okS b l) : l.Nodup := h.2.imp (fun hh e => by omega)
theorem srt_okS {l : List Int} (hn : l.Nodup) (h : Nos rs l) : okS rs.length (srt l) := by
  refine ⟨fun x hx => by have := h x ((srt_perm l).mem_iff.1 hx); omega, ?_⟩
  have h1 := srt_pw l
  have h2 : (srt l).Nodup := (srt_perm l).nodup_iff.2 hn
  rw [List.nodup_iff_pairwise_ne] at h2
  exact (h1.and h2).imp (fun hh => by have := hh.1; have := hh.2; omega)
theorem Ord.wb {L : List Int} (h : Ord rs L) (hn : Net P rs) : ∀ k ∈ L, 0 ≤ wct rs k ∧ wct rs k ≤ (99 : Nat) := fun k hk => hn.wb (h.nos k hk).1 (h.nos k hk).2
theorem comps_ord {L M : List Int} (h : ∀ k, k ∈ L ↔ k ∈ M) : comps P (L.map (rdx rs)) = comps P (M.map (rdx rs)) := comps_mem (fun e => by
  rw [List.mem_map, List.mem_map]
  constructor
  · rintro ⟨k, hk, rfl⟩; exact ⟨k, (h k).1 hk, rfl⟩
  · rintro ⟨k, hk, rfl⟩; exact ⟨k, (h k).2 hk, rfl⟩)
/-- What the cheapest trees cost. -/
noncomputable def best (rs : List Rd) : Int := cst (wct rs) (grw (rdx rs) [] (ordL rs))
theorem best_of {L : List Int} (hn : Net P rs) (h : Ord rs L) : cst (wct rs) (grw (rdx rs) [] L) = best rs := by
  have h0 := ordL_ord rs
  have hL : ∀ k, k ∈ L ↔ k ∈ ordL rs := fun k => by rw [h.mem, h0.mem]
  have l1 := grw_len (P := P) (h.nos.inP hn)
  have l2 := grw_len (P := P) (h0.nos.inP hn)
  rw [comps_ord hL] at l1
  refine Int.le_antisymm ?_ ?_
  · exact grw_opt (M := 99) (h.nos.inP hn) h.s (h.wb hn) (fun k hk => (hL k).2 ((grw_sub _).subset hk)) (grw_cn (h0.nos.inP hn)).2 (by omega)
  · exact grw_opt (M := 99) (h0.nos.inP hn) h0.s (h0.wb hn) (fun k hk => (hL k).1 ((grw_sub _).subset hk)) (grw_cn (h.nos.inP hn)).2 (by omega)
theorem tree_best {T : List Int} (hn : Net P rs) (hT : Nos rs T) (h : Tree P (rdx rs) T) : best rs ≤ cst (wct rs) T := by
  have h0 := ordL_ord rs
  have hsub : ∀ k ∈ T, k ∈ ordL rs := fun k hk => h0.mem.2 (hT k hk)
  refine grw_opt (M := 99) (h0.nos.inP hn) h0.s (h0.wb hn) hsub h.ind ?_
  have hP1 := hn.p1
  have := (grw_tree (h0.nos.inP hn) (by omega)).2 (tree_all hsub h)
  have := this.1
  have := h.1
  omega
/-- All places can be joined. -/
def Jbl (P : Nat) (rs : List Rd) : Prop := comps P ((nums rs).map (rdx rs)) = 1
theorem jbl_of {L : List Int} (h : Ord rs L) : comps P (L.map (rdx rs)) = 1 ↔ Jbl P rs := by
  unfold Jbl
  rw [comps_ord (L := L) (M := nums rs) (fun k => by rw [h.mem, mem_plc]; omega)]
theorem jbl_grw {L : List Int} (hn : Net P rs) (h : Ord rs L) : Tree P (rdx rs) (srt (grw (rdx rs) [] L)) ↔ Jbl P rs := by
  have hP1 := hn.p1
  rw [← jbl_of h, ← grw_tree (h.nos.inP hn) (by omega)]
  exact ⟨fun k => k.perm (srt_perm _).symm, fun k => k.perm (srt_perm _)⟩
theorem jbl_trees (hn : Net P rs) : Jbl P rs ↔ trees P rs ≠ [] := by
  have h0 := ordL_ord rs
  constructor
  · intro h
    have hm : srt (grw (rdx rs) [] (ordL rs)) ∈ trees P rs := by
      rw [mem_trees]
      exact ⟨srt_okS (h0.nodup.sublist (grw_sub _)) (grw_nos h0.nos), (jbl_grw hn h0).2 h⟩
    intro e
    rw [e] at hm
    cases hm
  · intro h
    obtain ⟨T, hT⟩ := List.exists_mem_of_ne_nil _ h
    rw [mem_trees] at hT
    rw [← jbl_of h0]
    exact tree_all (fun k hk => h0.mem.2 (okS_nos hT.1 k hk)) hT.2
/-- A cheapest tree. -/
theorem chl_best (hn : Net P rs) {T : List Int} (hT : T ∈ trees P rs) : T ∈ chl P rs ↔ cst (wct rs) T = best rs := by
  have h0 := ordL_ord rs
  have hT2 := mem_trees.1 hT
  have hj : Jbl P rs := (jbl_trees hn).2 (fun e => by rw [e] at hT; cases hT)
  rw [mem_chl]
  constructor
  · rintro ⟨_, h⟩
    refine Int.le_antisymm ?_ (tree_best hn (okS_nos hT2.1) hT2.2)
    have hm : srt (grw (rdx rs) [] (ordL rs)) ∈ trees P rs := by
      rw [mem_trees]
      exact ⟨srt_okS (h0.nodup.sublist (grw_sub _)) (grw_nos h0.nos), (jbl_grw hn h0).2 hj⟩
    have := h _ hm
    rw [cst_perm (srt_perm _)] at this
    exact this
  · intro h
    refine ⟨hT, fun y hy => ?_⟩
    have hy2 := mem_trees.1 hy
    rw [h]
    exact tree_best hn (okS_nos hy2.1) hy2.2
end
end Go.Proofs.Ytkgfcdpckfhknaa

namespace Go.Proofs.Ytkgfcdpckfhknaa
open Go Go.Eng
section
variable {P : Nat} {rs : List Rd} {a b : Int}
/-- Roads of a list up to a cost join two places. -/
def cnT (rs : List Rd) (M : List Int) (t a b : Int) : Prop := Cn ((upTo (wct rs) M t).map (rdx rs)) a b
theorem cnT_mono {M : List Int} {t s : Int} (h : t ≤ s) (hc : cnT rs M t a b) : cnT rs M s a b :=
  map_sub (fun k hk => by
    rw [mem_upTo] at hk ⊢
    exact ⟨hk.1, by omega⟩) hc
noncomputable instance cnTDec (rs : List Rd) (M : List Int) (t a b : Int) : Decidable (cnT rs M t a b) := Classical.propDecidable _
/-- The smallest cost up to which roads of a list join two places. -/
noncomputable def bt (rs : List Rd) (M : List Int) (a b : Int) : Option Int := if a = b then some 0 else ((List.range 100).find? (fun c : Nat => decide (cnT rs M (c : Int) a b))).map Int.ofNat
theorem find_first {f : Nat → Bool} {n c : Nat} (hc : c < n) (h : f c = true) (hn : ∀ j, j < c → f j = false) : (List.range n).find? f = some c := by
  rw [List.find?_eq_some_iff_getElem]
  refine ⟨h, c, by simpa using hc, by simp, fun j hj => ?_⟩
  rw [List.getElem_range, hn j hj]
  rfl
theorem bt_at {M : List Int} {c : Int} (hab : ¬ a = b) (c0 : 0 ≤ c) (c1 : c ≤ 99) (h : cnT rs M c a b) (hn : ¬ cnT rs M (c - 1) a b) : bt rs M a b = some c := by
  unfold bt
  rw [if_neg hab, find_first (c := c.toNat) (by omega) (by
    refine decide_eq_true ?_
    rw [Int.toNat_of_nonneg c0]
    exact h) (fun j hj => decide_eq_false (fun hh => hn (cnT_mono (by omega) hh)))]
  show some (Int.ofNat c.toNat) = _
  congr 1
  exact Int.toNat_of_nonneg c0
theorem bt_none {M : List Int} (hab : ¬ a = b) (h : ¬ cnT rs M 99 a b) : bt rs M a b = none := by
  unfold bt
  rw [if_neg hab, Option.map_eq_none_iff, List.find?_eq_none]
  intro j hj
  have := List.mem_range.1 hj
  simp only [decide_eq_true_eq]
  exact fun hh => h (cnT_mono (by omega) hh)
theorem bt_spec {M : List Int} {c : Int} (h : bt rs M a b = some c) : (a = b ∧ c = 0) ∨ (¬ a = b ∧ (0 ≤ c ∧ c ≤ 99) ∧ cnT rs M c a b ∧ ∀ t, cnT rs M t a b → 0 ≤ t → c ≤ t) := by
  unfold bt at h
  by_cases hab : a = b
  · rw [if_pos hab] at h
    exact .inl ⟨hab, (Option.some.inj h).symm⟩
  · rw [if_neg hab] at h
    cases hf : (List.range 100).find? (fun c : Nat => decide (cnT rs M (c : Int) a b)) with
    | none => rw [hf] at h; cases h
    | some j =>
      rw [hf] at h
      have hc : c = (j : Int) := (Option.some.inj h).symm
      subst hc
      rw [List.find?_eq_some_iff_getElem] at hf
      obtain ⟨h1, i, hi, hij, hn⟩ := hf
      rw [List.getElem_range] at hij
      subst hij
      have hi100 : i < 100 := by simpa using hi
      refine .inr ⟨hab, by omega, of_decide_eq_true h1, fun t ht t0 => ?_⟩
      refine Classical.byContradiction (fun hlt => ?_)
      have := hn t.toNat (by omega)
      rw [List.getElem_range] at this
      have h2 : cnT rs M ((t.toNat : Nat) : Int) a b := by rw [Int.toNat_of_nonneg t0]; exact ht
      rw [decide_eq_true h2] at this
      cases this
theorem bt_none' {M : List Int} (hb : ∀ k ∈ M, wct rs k ≤ 99) (h : bt rs M a b = none) : ¬ a = b ∧ ∀ t, ¬ cnT rs M t a b := by
  by_cases hab : a = b
  · unfold bt at h
    rw [if_pos hab] at h
    cases h
  · refine ⟨hab, fun t ht => ?_⟩
    unfold bt at h
    rw [if_neg hab, Option.map_eq_none_iff, List.find?_eq_none] at h
    have h1 := h 99 (by simp)
    simp only [decide_eq_true_eq] at h1
    refine h1 (map_sub (fun k hk => ?_) ht)
    rw [mem_upTo] at hk ⊢
    exact ⟨hk.1, hb k hk.1⟩
/-- What is found by taking one road after another. -/
def LS (rs : List Rd) (L : List Int) (a b c : Int) (ok : Bool) : Prop :=
  (a = b ∧ c = 0 ∧ ok = true) ∨ (¬ a = b ∧ ok = true ∧ ∃ (i : Nat) (k : Int), L[i]? = some k ∧ c = wct rs k ∧ Cn ((L.take (i + 1)).map (rdx rs)) a b ∧ ¬ Cn ((L.take i).map (rdx rs)) a b) ∨
  (¬ a = b ∧ ok = false ∧ c = 0 ∧ ¬ Cn (L.map (rdx rs)) a b)
theorem LS_bt {L M : List Int} {c : Int} {ok : Bool} (hs : L.Pairwise (fun x y => wct rs x ≤ wct rs y)) (hM : ∀ k, k ∈ L ↔ k ∈ M) (hb : ∀ k ∈ L, 0 ≤ wct rs k ∧ wct rs k ≤ 99) (h : LS rs L a b c ok) : bt rs M a b = (if ok = true then some c else none) ∧ (ok = false → c = 0) := by
  rcases h with ⟨h1, h2, h3⟩ | ⟨h1, h2, i, k, h3, h4, h5, h6⟩ | ⟨h1, h2, h3, h4⟩
  · subst h3; subst h2
    refine ⟨?_, fun e => by cases e⟩
    unfold bt
    rw [if_pos h1, if_pos rfl]
  · subst h2
    refine ⟨?_, fun e => by cases e⟩
    rw [if_pos rfl]
    have hkL := List.mem_of_getElem? h3
    have hkb := hb k hkL
    have hil := (List.getElem?_eq_some_iff.1 h3).1
    have hke := (List.getElem?_eq_some_iff.1 h3).2
    refine bt_at h1 (by omega) (by omega) (map_sub (fun x hx => ?_) h5) (fun hh => h6 (map_sub (fun x hx => ?_) hh))
    · rw [mem_upTo]
      refine ⟨(hM x).1 (List.mem_of_mem_take hx), ?_⟩
      obtain ⟨j, hj, hje⟩ := List.mem_iff_getElem.1 hx
      rw [List.length_take] at hj
      rw [List.getElem_take] at hje
      by_cases hji : j = i
      · subst hji
        rw [h4, ← hje, hke]
        exact Int.le_refl _
      · have := List.pairwise_iff_getElem.1 hs j i (by omega) hil (by omega)
        rw [hje, hke] at this
        omega
    · rw [mem_upTo] at hx
      obtain ⟨j, hj, hje⟩ := List.mem_iff_getElem.1 ((hM x).2 hx.1)
      have hji : j < i := by
        refine Classical.byContradiction (fun hn => ?_)
        by_cases he : i = j
        · subst he
          rw [hke] at hje
          rw [← hje] at hx
          omega
        · have := List.pairwise_iff_getElem.1 hs i j hil hj (by omega)
          rw [hje, hke] at this
          omega
      rw [List.mem_take_iff_getElem]
      exact ⟨j, by omega, hje⟩
  · subst h2; subst h3
    refine ⟨?_, fun _ => rfl⟩
    simp only [Bool.false_eq_true, if_false]
    refine bt_none h1 (fun hh => h4 (map_sub (fun x hx => ?_) hh))
    rw [mem_upTo] at hx
    exact (hM x).2 hx.1
end
end Go.Proofs.Ytkgfcdpckfhknaa

namespace Go.Proofs.Ytkgfcdpckfhknaa
open Go Go.Eng
theorem shl_one {k : IntKind} {m : Nat} (h : m ≤ 14) : binI .shl (I 1) (.int k (m : Int)) = some (I ((2 ^ m : Nat) : Int)) := by
  have hp : 2 ^ m ≤ 2 ^ 14 := Nat.pow_le_pow_right (by omega) h
  have hp2 : (2 : Nat) ^ 14 = 16384 := rfl
  have hc : ((2 ^ m : Nat) : Int) = (2 : Int) ^ m := Int.natCast_pow 2 m
  have hz : (0 : Int) ≤ ((2 ^ m : Nat) : Int) := Int.natCast_nonneg _
  show (if (m : Int) < 0 then none else some (AV.int .i64 (IntKind.i64.wrap (1 * 2 ^ (min (m : Int).toNat IntKind.i64.bits))))) = _
  rw [if_neg (by omega), Int.toNat_natCast, show IntKind.i64.bits = 64 from rfl, Nat.min_eq_left (by omega), Int.one_mul, ← hc, w64 _ (by omega) (by omega)]
theorem shr_by {k : IntKind} {s j : Nat} (h : j ≤ 14) : binI .shr (I s) (.int k (j : Int)) = some (I ((s / 2 ^ j : Nat) : Int)) := by
  have hc : ((2 ^ j : Nat) : Int) = (2 : Int) ^ j := Int.natCast_pow 2 j
  have hz : (0 : Int) ≤ ((2 ^ j : Nat) : Int) := Int.natCast_nonneg _
  show (if (j : Int) < 0 then none else some (AV.int .i64 ((s : Int).fdiv (2 ^ (min (j : Int).toNat IntKind.i64.bits))))) = _
  rw [if_neg (by omega), Int.toNat_natCast, show IntKind.i64.bits = 64 from rfl, Nat.min_eq_left (by omega), ← hc, Int.fdiv_eq_ediv_of_nonneg _ (by omega), ← Int.natCast_ediv]
theorem and_one {n : Nat} (h : n ≤ 16384) : binI .and (I n) (I 1) = some (I ((n % 2 : Nat) : Int)) := by
  have e1 : (BitVec.ofInt 64 ((n : Nat) : Int) &&& BitVec.ofInt 64 1).toNat = n % 2 := by
    have h1 : BitVec.ofInt 64 ((n : Nat) : Int) = BitVec.ofNat 64 n := BitVec.ofInt_natCast 64 n
    have h2 : BitVec.ofInt 64 (1 : Int) = BitVec.ofNat 64 1 := BitVec.ofInt_natCast 64 1
    rw [h1, h2, BitVec.toNat_and, BitVec.toNat_ofNat, BitVec.toNat_ofNat]
    have h3 : n % 2 ^ 64 = n := Nat.mod_eq_of_lt (by omega)
    have h4 : 1 % 2 ^ 64 = 1 := rfl
    rw [h3, h4, Nat.and_one_is_mod]
  show some (AV.int .i64 (IntKind.i64.wrap (((BitVec.ofInt 64 ((n : Nat) : Int) &&& BitVec.ofInt 64 1).toNat : Nat) : Int))) = _
  rw [e1, w64 _ (by omega) (by omega)]
theorem bit_eq (s j : Nat) : (((s / 2 ^ j) % 2 : Nat) : Int) = 1 ↔ s.testBit j = true := by
  rw [Nat.testBit_eq_decide_div_mod_eq, decide_eq_true_eq]
  omega
section
variable {P : Nat} {rs : List Rd} {ks : List Int} {u v : AV} {A : AHeap}
/-- The bits up to a number of a set. -/
theorem bset_step (j s : Nat) : (s.testBit j = true → bset (j + 1) s = bset j s ++ [(j : Int)]) ∧ (s.testBit j = false → bset (j + 1) s = bset j s) := by
  constructor
  · intro h; rw [bset_succ, if_pos h]
  · intro h; rw [bset_succ, if_neg (by rw [h]; simp), List.append_nil]
theorem bset_le (j s : Nat) : (bset j s).length ≤ j := filt_len _ j
theorem bset_nos {j : Nat} (s : Nat) (h : j ≤ rs.length) : Nos rs (bset j s) := fun k hk => by have := (bset_okS j s).1 k hk; omega
end
section
variable {Q : Int} {rs : List Rd} {u : AV} {A : AHeap}
/-- How many trees there are. -/
noncomputable def tN (Q : Int) (rs : List Rd) : Int := if vE Q rs = 0 then (trees Q.toNat rs).length else 0
end
end Go.Proofs.Ytkgfcdpckfhknaa

namespace Go.Proofs.Ytkgfcdpckfhknaa
open Go Go.Eng
/-- Rows of another list, put together anew. -/
structure Sel (A H : AHeap) (v : AV) (ws : List (AV × List Int)) : Prop where
  acc : AccL 1 e0 A H v ws
  inn : ∀ x ∈ ws, L1 A x.1 x.2
theorem Sel.ll {A H : AHeap} {v : AV} {ws : List (AV × List Int)} (h : Sel A H v ws) : LL H v ws := ⟨AccL_ls h.acc e0_len, fun x hx => (h.inn x hx).mono h.acc.1⟩
theorem Sel.nil {A H : AHeap} (h : A <+: H) : Sel A H .nilS [] := ⟨AccL.nil h, by simp⟩
theorem Sel.push {A H : AHeap} {v : AV} {ws : List (AV × List Int)} (h : Sel A H v ws) {x : AV × List Int} (hx : L1 A x.1 x.2) (hl : ws.length + 1 ≤ lim) :
    ∃ v' H2, appA 1 (H ++ [.cells true [x.1]]) v (.sl 1 H.length 0 1 true) = some (v', H2) ∧ Sel A H2 v' (ws ++ [x]) ∧ v'.cells? = some [v'] := by
  obtain ⟨v', H2, happ, hacc⟩ := h.acc.push e0_len x hl
  refine ⟨v', H2, happ, ⟨hacc, fun y hy => ?_⟩, Ls_cells (AccL_ls hacc e0_len)⟩
  rcases List.mem_append.1 hy with hy | hy
  · exact h.inn y hy
  · have : y = x := by simpa using hy
    rw [this]; exact hx
section
variable {P : Nat} {rs : List Rd} {ks : List Int} {u v : AV} {A : AHeap}
noncomputable instance jblDec (P : Nat) (rs : List Rd) : Decidable (Jbl P rs) := by unfold Jbl; infer_instance
end
section
variable {Q : Int} {rs : List Rd} {ks : List Int} {u v : AV} {A : AHeap}
/-- Whether a tree is a cheapest one. -/
noncomputable def iC (Q : Int) (rs : List Rd) (ks : List Int) : Bool := decide (tE Q rs ks = 0 ∧ cst (wct rs) ks = best rs)
theorem iC_0 (h : tE Q rs ks = 0) : iC Q rs ks = decide (cst (wct rs) ks = best rs) := by
  unfold iC
  simp [h]
theorem iC_e (h : ¬ tE Q rs ks = 0) : iC Q rs ks = false := by
  unfold iC
  exact decide_eq_false (fun hh => h hh.1)
theorem s33 (hu : L3 A u rs) (hx : L1 A v ks) (hP : W Q) (hl : ks.length ≤ 1000000) : ACalls Try.prog 33 [.agg [I Q, u], v] A (.tuple [B (iC Q rs ks), I (tE Q rs ks)]) A := by
  refine acalls hmix Try.func33 (by kernel_rfl) t33 2 rfl (by decide) ?_
  dsimp only [m33]
  simp (maxSteps := 4000000) -implicitDefEqProofs -dsimp (disch := omega) only [↓AW_ops, ↓AW_seq, ↓AOps_nil, ↓AOps_pu, ↓AOps_call, on_some, ↓then_normal, pval, rd_S, rd_C, put_S, chkd, bgot, AV.cells?, partA, eq_self, List.replicate_succ, List.replicate_zero, List.set_cons_zero, List.set_cons_succ, List.getElem?_cons_zero, List.getElem?_cons_succ, List.drop_zero, List.take_succ_cons, List.take_nil, Option.getD_some, map_c, map_n, List.length_cons, List.length_nil, Nat.reduceAdd, Nat.reduceSub, Nat.reduceLeDiff, Nat.reduceEqDiff, Nat.zero_add, List.cons_append, List.nil_append, if_true, if_false]
  refine CallK.of (s78 hu hx hP hl) ?_
  by_cases h0 : tE Q rs ks = 0
  · rw [iC_0 h0, h0]
    obtain ⟨P, rfl⟩ := (tE_net h0).nat
    obtain ⟨hn, h1, h2⟩ := tE_0.1 h0
    have hl14 := hn.l
    have hP7 := hn.p7
    simp (maxSteps := 4000000) -implicitDefEqProofs -dsimp (disch := omega) only [↓AW_skip, ↓AW_ops, ↓AW_seq, ↓AW_cond, ↓AOps_nil, ↓AOps_pu, ↓AOps_call, on_some, extK_same, condB_f, ↓then_normal, pval, rd_S, rd_C, put_S, chkd, bgot, partA, eq_self, List.replicate_succ, List.replicate_zero, List.set_cons_zero, List.set_cons_succ, List.getElem?_cons_zero, List.getElem?_cons_succ, List.drop_zero, List.take_succ_cons, List.take_nil, Option.getD_some, map_c, map_n, List.length_cons, List.length_nil, Nat.reduceAdd, Nat.reduceSub, Nat.reduceLeDiff, Nat.reduceEqDiff, Nat.zero_add, List.cons_append, List.nil_append, bin_neq, if_true, if_false, decide_false, not_true_eq_false]
    refine CallK.of (s79 hu hx hn h1.1 hl) ?_
    simp (maxSteps := 4000000) -implicitDefEqProofs -dsimp (disch := omega) only [↓AOps_pu, ↓AOps_call, on_some, extK_same, pval, rd_S, put_S, chkd, bgot, partA, eq_self, List.replicate_succ, List.replicate_zero, List.set_cons_zero, List.set_cons_succ, List.getElem?_cons_zero, List.getElem?_cons_succ, List.drop_zero, List.take_succ_cons, List.take_nil, Option.getD_some, map_c, map_n, List.length_cons, List.length_nil, Nat.reduceAdd, Nat.reduceSub, Nat.reduceLeDiff, Nat.reduceEqDiff, Nat.zero_add, List.cons_append, List.nil_append, if_true, if_false]
    obtain ⟨r1, H1, c1, p1, L, hL, hO⟩ := c_all hu hn
    refine CallK.of c1 ?_
    simp (maxSteps := 4000000) -implicitDefEqProofs -dsimp (disch := omega) only [↓AOps_call, extK_false, rd_S, put_S, List.replicate_succ, List.replicate_zero, List.set_cons_zero, List.set_cons_succ, List.getElem?_cons_zero, List.getElem?_cons_succ, Option.getD_some, map_c, map_n, Nat.reduceSub, List.cons_append, List.nil_append]
    obtain ⟨r2, H2, c2, p2, hG⟩ := c_grow (hu.mono p1) hL hn hO.nos (by rw [hO.len]; omega)
    refine CallK.of c2 ?_
    simp (maxSteps := 4000000) -implicitDefEqProofs -dsimp (disch := omega) only [↓AOps_call, extK_false, rd_S, put_S, List.replicate_succ, List.replicate_zero, List.set_cons_zero, List.set_cons_succ, List.getElem?_cons_zero, List.getElem?_cons_succ, Option.getD_some, map_c, map_n, Nat.reduceSub, List.cons_append, List.nil_append]
    have hgn : Nos rs (srt (grw (rdx rs) [] L)) := fun k hk => grw_nos hO.nos k ((srt_perm _).mem_iff.1 hk)
    have hsm := grw_small hn hO.nos
    refine CallK.of (s79 (hu.mono (p1.trans p2)) hG hn hgn (by rw [srt_len]; omega)) ?_
    rw [cst_perm (srt_perm _), best_of hn hO]
    simp (maxSteps := 4000000) -implicitDefEqProofs -dsimp (disch := omega) only [↓AW_ret, ↓AOps_nil, ↓AOps_pu, on_some, extK_same, ↓then_normal, ↓Fin_ret, pval, rd_S, rd_C, put_S, resV, resL, List.replicate_succ, List.replicate_zero, List.set_cons_zero, List.set_cons_succ, List.getElem?_cons_zero, List.getElem?_cons_succ, Option.getD_some, Nat.reduceSub, List.cons_append, List.nil_append, bin_eql]
    exact gc_val (p1.trans p2) rfl
  · rw [iC_e h0]
    simp (maxSteps := 4000000) -implicitDefEqProofs -dsimp (disch := omega) only [↓AW_ops, ↓AW_seq, ↓AW_cond, ↓AW_ret, ↓AOps_nil, ↓AOps_pu, on_some, extK_same, condB_t, ↓then_normal, ↓then_ret, ↓Fin_ret, pval, rd_S, rd_C, put_S, resV, resL, List.replicate_succ, List.replicate_zero, List.set_cons_zero, List.set_cons_succ, List.getElem?_cons_zero, List.getElem?_cons_succ, Option.getD_some, Nat.reduceSub, List.cons_append, List.nil_append, bin_neq, decide_true, not_false_eq_true, h0]
    exact gc_same rfl
theorem c_Tree_bad (hu : L3 A u rs) (hP : W Q) (h0 : ¬ vE Q rs = 0) : ACalls Try.prog 21 [.agg [I Q, u]] A (.tuple [.nilS, B false, I (vE Q rs)]) A := by
  refine acalls hmix Try.func21 (by kernel_rfl) t21 1 rfl (by decide) ?_
  dsimp only [m21]
  simp (maxSteps := 4000000) -implicitDefEqProofs -dsimp (disch := omega) only [↓AW_ops, ↓AW_seq, ↓AOps_nil, ↓AOps_pu, ↓AOps_call, on_some, ↓then_normal, pval, rd_S, rd_C, put_S, chkd, bgot, AV.cells?, partA, eq_self, List.replicate_succ, List.replicate_zero, List.set_cons_zero, List.set_cons_succ, List.getElem?_cons_zero, List.getElem?_cons_succ, List.drop_zero, List.take_succ_cons, List.take_nil, Option.getD_some, map_c, map_n, List.length_cons, List.length_nil, Nat.reduceAdd, Nat.reduceSub, Nat.reduceLeDiff, Nat.reduceEqDiff, Nat.zero_add, List.cons_append, List.nil_append, if_true, if_false]
  refine CallK.of (s28 hu hP) ?_
  simp (maxSteps := 4000000) -implicitDefEqProofs -dsimp (disch := omega) only [↓AW_ops, ↓AW_seq, ↓AW_cond, ↓AW_ret, ↓AOps_nil, ↓AOps_pu, on_some, extK_same, condB_t, ↓then_normal, ↓then_ret, ↓Fin_ret, pval, rd_S, rd_C, put_S, resV, resL, List.replicate_succ, List.replicate_zero, List.set_cons_zero, List.set_cons_succ, List.getElem?_cons_zero, List.getElem?_cons_succ, Option.getD_some, Nat.reduceSub, List.cons_append, List.nil_append, bin_neq, decide_true, not_false_eq_true, h0]
  exact gc_same rfl
end
section
variable {P : Nat} {rs : List Rd} {ks : List Int} {u v : AV} {A : AHeap}
theorem c_Tree_none (hu : L3 A u rs) (hn : Net P rs) (hj : ¬ Jbl P rs) : ACalls Try.prog 21 [.agg [I P, u]] A (.tuple [.nilS, B false, I 0]) A := by
  refine acalls hmix Try.func21 (by kernel_rfl) t21 1 rfl (by decide) ?_
  have hP7 := hn.p7
  have hP1 := hn.p1
  have hl14 := hn.l
  dsimp only [m21]
  simp (maxSteps := 4000000) -implicitDefEqProofs -dsimp (disch := omega) only [↓AW_ops, ↓AW_seq, ↓AOps_nil, ↓AOps_pu, ↓AOps_call, on_some, ↓then_normal, pval, rd_S, rd_C, put_S, chkd, bgot, AV.cells?, partA, eq_self, List.replicate_succ, List.replicate_zero, List.set_cons_zero, List.set_cons_succ, List.getElem?_cons_zero, List.getElem?_cons_succ, List.drop_zero, List.take_succ_cons, List.take_nil, Option.getD_some, map_c, map_n, List.length_cons, List.length_nil, Nat.reduceAdd, Nat.reduceSub, Nat.reduceLeDiff, Nat.reduceEqDiff, Nat.zero_add, List.cons_append, List.nil_append, if_true, if_false]
  refine CallK.of (s28 hu ⟨by omega, by omega⟩) ?_
  rw [vE_0.2 hn]
  simp (maxSteps := 4000000) -implicitDefEqProofs -dsimp (disch := omega) only [↓AW_skip, ↓AW_ops, ↓AW_seq, ↓AW_cond, ↓AOps_nil, ↓AOps_pu, ↓AOps_call, on_some, extK_same, condB_f, ↓then_normal, pval, rd_S, rd_C, put_S, chkd, bgot, partA, eq_self, List.replicate_succ, List.replicate_zero, List.set_cons_zero, List.set_cons_succ, List.getElem?_cons_zero, List.getElem?_cons_succ, List.drop_zero, List.take_succ_cons, List.take_nil, Option.getD_some, map_c, map_n, List.length_cons, List.length_nil, Nat.reduceAdd, Nat.reduceSub, Nat.reduceLeDiff, Nat.reduceEqDiff, Nat.zero_add, List.cons_append, List.nil_append, bin_neq, if_true, if_false, decide_false, not_true_eq_false]
  obtain ⟨r1, H1, c1, p1, L, hL, hO⟩ := c_all hu hn
  refine CallK.of c1 ?_
  simp (maxSteps := 4000000) -implicitDefEqProofs -dsimp (disch := omega) only [↓AOps_call, extK_false, rd_S, put_S, List.replicate_succ, List.replicate_zero, List.set_cons_zero, List.set_cons_succ, List.getElem?_cons_zero, List.getElem?_cons_succ, Option.getD_some, map_c, map_n, Nat.reduceSub, List.cons_append, List.nil_append]
  obtain ⟨r2, H2, c2, p2, hG⟩ := c_grow (hu.mono p1) hL hn hO.nos (by rw [hO.len]; omega)
  refine CallK.of c2 ?_
  simp (maxSteps := 4000000) -implicitDefEqProofs -dsimp (disch := omega) only [↓AW_ops, ↓AW_seq, ↓AOps_nil, ↓AOps_pu, ↓AOps_call, on_some, extK_false, ↓then_normal, pval, rd_S, put_S, chkd, bgot, partA, eq_self, List.replicate_succ, List.replicate_zero, List.set_cons_zero, List.set_cons_succ, List.getElem?_cons_zero, List.getElem?_cons_succ, List.drop_zero, List.take_succ_cons, List.take_nil, Option.getD_some, map_c, map_n, List.length_cons, List.length_nil, Nat.reduceAdd, Nat.reduceSub, Nat.reduceLeDiff, Nat.reduceEqDiff, Nat.zero_add, List.cons_append, List.nil_append, if_true, if_false]
  have hgn : Nos rs (srt (grw (rdx rs) [] L)) := fun k hk => grw_nos hO.nos k ((srt_perm _).mem_iff.1 hk)
  have hsm := grw_small hn hO.nos
  refine CallK.of (s60 (hu.mono (p1.trans p2)) hG hn hgn (by rw [srt_len]; omega)) ?_
  rw [decide_eq_false (fun hh => hj ((jbl_grw hn hO).1 hh))]
  simp (maxSteps := 4000000) -implicitDefEqProofs -dsimp (disch := omega) only [↓AW_ops, ↓AW_seq, ↓AW_cond, ↓AW_ret, ↓AOps_nil, ↓AOps_pu, on_some, extK_same, condB_t, ↓then_normal, ↓then_ret, ↓Fin_ret, pval, rd_S, rd_C, put_S, resV, resL, List.replicate_succ, List.replicate_zero, List.set_cons_zero, List.set_cons_succ, List.getElem?_cons_zero, List.getElem?_cons_succ, Option.getD_some, Nat.reduceSub, List.cons_append, List.nil_append, Bool.not_false]
  exact gc_val (p1.trans p2) rfl
/-- The tree that is handed back. -/
theorem c_Tree_some (hu : L3 A u rs) (hn : Net P rs) (hj : Jbl P rs) : ∃ r H, ACalls Try.prog 21 [.agg [I P, u]] A (.tuple [r, B true, I 0]) H ∧ A <+: H ∧ ∃ T, L1 H r T ∧ okS rs.length T ∧ Tree P (rdx rs) T ∧ cst (wct rs) T = best rs := by
  have key : ∃ t H, ACalls Try.prog 21 [.agg [I P, u]] A t H ∧ ∃ r, t = .tuple [r, B true, I 0] ∧ A <+: H ∧ ∃ T, L1 H r T ∧ okS rs.length T ∧ Tree P (rdx rs) T ∧ cst (wct rs) T = best rs := by
    refine acallsR hmix Try.func21 (by kernel_rfl) t21 _ 1 rfl (by decide) ?_
    have hP7 := hn.p7
    have hP1 := hn.p1
    have hl14 := hn.l
    dsimp only [m21]
    simp (maxSteps := 4000000) -implicitDefEqProofs -dsimp (disch := omega) only [↓AW_ops, ↓AW_seq, ↓AOps_nil, ↓AOps_pu, ↓AOps_call, on_some, ↓then_normal, pval, rd_S, rd_C, put_S, chkd, bgot, cells_agg, partA, eq_self, List.replicate_succ, List.replicate_zero, List.set_cons_zero, List.set_cons_succ, List.getElem?_cons_zero, List.getElem?_cons_succ, List.drop_zero, List.take_succ_cons, List.take_nil, Option.getD_some, map_c, map_n, List.length_cons, List.length_nil, Nat.reduceAdd, Nat.reduceSub, Nat.reduceLeDiff, Nat.reduceEqDiff, Nat.zero_add, List.cons_append, List.nil_append, if_true, if_false]
    refine CallK.of (s28 hu ⟨by omega, by omega⟩) ?_
    rw [vE_0.2 hn]
    simp (maxSteps := 4000000) -implicitDefEqProofs -dsimp (disch := omega) only [↓AW_skip, ↓AW_ops, ↓AW_seq, ↓AW_cond, ↓AOps_nil, ↓AOps_pu, ↓AOps_call, on_some, extK_same, condB_f, ↓then_normal, pval, rd_S, rd_C, put_S, chkd, bgot, partA, eq_self, List.replicate_succ, List.replicate_zero, List.set_cons_zero, List.set_cons_succ, List.getElem?_cons_zero, List.getElem?_cons_succ, List.drop_zero, List.take_succ_cons, List.take_nil, Option.getD_some, map_c, map_n, List.length_cons, List.length_nil, Nat.reduceAdd, Nat.reduceSub, Nat.reduceLeDiff, Nat.reduceEqDiff, Nat.zero_add, List.cons_append, List.nil_append, bin_neq, if_true, if_false, decide_false, not_true_eq_false]
    obtain ⟨r1, H1, c1, p1, L, hL, hO⟩ := c_all hu hn
    refine CallK.of c1 ?_
    simp (maxSteps := 4000000) -implicitDefEqProofs -dsimp (disch := omega) only [↓AOps_call, extK_false, rd_S, put_S, List.replicate_succ, List.replicate_zero, List.set_cons_zero, List.set_cons_succ, List.getElem?_cons_zero, List.getElem?_cons_succ, Option.getD_some, map_c, map_n, Nat.reduceSub, List.cons_append, List.nil_append]
    obtain ⟨r2, H2, c2, p2, hG⟩ := c_grow (hu.mono p1) hL hn hO.nos (by rw [hO.len]; omega)
    refine CallK.of c2 ?_
    simp (maxSteps := 4000000) -implicitDefEqProofs -dsimp (disch := omega) only [↓AW_ops, ↓AW_seq, ↓AOps_nil, ↓AOps_pu, ↓AOps_call, on_some, extK_false, ↓then_normal, pval, rd_S, put_S, chkd, bgot, partA, eq_self, List.replicate_succ, List.replicate_zero, List.set_cons_zero, List.set_cons_succ, List.getElem?_cons_zero, List.getElem?_cons_succ, List.drop_zero, List.take_succ_cons, List.take_nil, Option.getD_some, map_c, map_n, List.length_cons, List.length_nil, Nat.reduceAdd, Nat.reduceSub, Nat.reduceLeDiff, Nat.reduceEqDiff, Nat.zero_add, List.cons_append, List.nil_append, if_true, if_false]
    have hgn : Nos rs (srt (grw (rdx rs) [] L)) := fun k hk => grw_nos hO.nos k ((srt_perm _).mem_iff.1 hk)
    have hsm := grw_small hn hO.nos
    have ht := (jbl_grw hn hO).2 hj
    refine CallK.of (s60 (hu.mono (p1.trans p2)) hG hn hgn (by rw [srt_len]; omega)) ?_
    rw [decide_eq_true ht]
    simp (maxSteps := 4000000) -implicitDefEqProofs -dsimp (disch := omega) only [↓AW_skip, ↓AW_ops, ↓AW_seq, ↓AW_cond, ↓AW_ret, ↓AOps_nil, ↓AOps_pu, on_some, extK_same, condB_f, ↓then_normal, ↓FinR_ret, pval, rd_S, rd_C, put_S, resV, resL, List.replicate_succ, List.replicate_zero, List.set_cons_zero, List.set_cons_succ, List.getElem?_cons_zero, List.getElem?_cons_succ, Option.getD_some, Nat.reduceSub, List.cons_append, List.nil_append, Bool.not_true]
    refine ⟨_, _, gc_all, r2, rfl, p1.trans p2, _, hG, srt_okS (hO.nodup.sublist (grw_sub _)) (grw_nos hO.nos), ht, ?_⟩
    rw [cst_perm (srt_perm _), best_of hn hO]
  obtain ⟨t, H, h1, r, rfl, h2⟩ := key
  exact ⟨r, H, h1, h2⟩
end
end Go.Proofs.Ytkgfcdpckfhknaa

namespace Go.Proofs.Ytkgfcdpckfhknaa
open Go Go.Eng
section
variable {P : Nat} {rs : List Rd} {ks : List Int} {u v : AV} {A : AHeap}
set_option maxHeartbeats 8000000 in
theorem c_least {L : List Int} (hu : L3 A u rs) (hx : L1 A v L) (hn : Net P rs) (hk : Nos rs L) (hl : L.length ≤ 1000000) {a b : Int} (ha : 0 ≤ a ∧ a < P) (hb : 0 ≤ b ∧ b < P) : ∃ c ok, ACalls Try.prog 62 [.agg [I P, u], v, I a, I b] A (.tuple [I c, B ok]) A ∧ LS rs L a b c ok := by
  have key : ∃ r H', ACalls Try.prog 62 [.agg [I P, u], v, I a, I b] A r H' ∧ ∃ c ok, r = .tuple [I c, B ok] ∧ H' = A ∧ LS rs L a b c ok := by
    refine acallsR hmix Try.func62 (by kernel_rfl) t62 _ 4 rfl (by decide) ?_
    have hP7 := hn.p7
    by_cases hab : a = b
    · subst hab
      dsimp only [m62]
      simp (maxSteps := 4000000) -implicitDefEqProofs -dsimp (disch := omega) only [↓AW_ops, ↓AW_seq, ↓AW_cond, ↓AW_ret, ↓AOps_nil, ↓AOps_pu, on_some, condB_t, ↓then_normal, ↓then_ret, ↓FinR_ret, pval, rd_S, rd_C, put_S, resV, resL, cells_agg, eq_self, List.replicate_succ, List.replicate_zero, List.set_cons_zero, List.set_cons_succ, List.getElem?_cons_zero, List.getElem?_cons_succ, Option.getD_some, Nat.reduceSub, List.cons_append, List.nil_append, bin_eql, decide_true]
      exact ⟨_, _, gc_all, 0, true, rfl, rfl, .inl ⟨rfl, rfl, rfl⟩⟩
    dsimp only [m62]
    simp (maxSteps := 4000000) -implicitDefEqProofs -dsimp (disch := omega) only [↓AW_skip, ↓AW_ops, ↓AW_seq, ↓AW_cond, ↓AW_block, ↓AOps_nil, ↓AOps_pu, on_some, condB_f, ↓then_normal, pval, rd_S, rd_C, put_S, ↓AW_toLoop, cells_agg, List.replicate_succ, List.replicate_zero, List.set_cons_zero, List.set_cons_succ, List.getElem?_cons_zero, List.getElem?_cons_succ, Option.getD_some, Nat.reduceSub, List.cons_append, List.nil_append, bin_eql, decide_false, hab, hx.len]
    refine LoopK.by 44 (fun x : Nat × AV × AHeap => x.1 ≤ L.length ∧ AccL 1 e1 A x.2.2 x.2.1 (L.take x.1) ∧ ¬ Cn ((L.take x.1).map (rdx rs)) a b) (fun x => [(2, I a), (3, I b), (4, .agg [I P, u]), (10, x.2.1), (17, v), (18, I L.length), (19, I x.1)]) (fun x => x.2.2) (fun x => L.length - x.1) (0, .nilS, A) ⟨by simp only; omega, by rw [List.take_zero]; exact AccL.nil (List.prefix_refl _), by rw [List.take_zero]; exact fun h => hab h.nil⟩ rfl (by simp [Has, rd_s]) rfl ?_
    rintro ⟨i, y, H⟩ ⟨hi, hac, hnc⟩
    simp only at hi hac hnc
    have hxH := hx.mono hac.1
    by_cases hlt : i < L.length
    · obtain ⟨z, hz⟩ : ∃ z, L[i]? = some z := ⟨_, List.getElem?_eq_getElem hlt⟩
      have hlt' : (i : Int) < L.length := by omega
      obtain ⟨k0, k1⟩ := hk z (List.mem_of_getElem? hz)
      obtain ⟨hr, _⟩ := rdx_at k0 k1
      have htk : L.take (i + 1) = L.take i ++ [z] := by rw [List.take_add_one, hz]; rfl
      obtain ⟨v', H2, happ, hacc, _, n, len, rfl, _⟩ := AccL_push2 hac e1_len (by omega) z (by rw [List.length_take]; simp only [lim]; omega)
      rw [← htk] at hacc
      simp only [Go.Eng.e1] at happ
      simp (maxSteps := 4000000) -implicitDefEqProofs -dsimp (disch := omega) only [↓AW_skip, ↓AW_ops, ↓AW_seq, ↓AW_cond, ↓AW_block, ↓AOps_nil, ↓AOps_pu, ↓AOps_ld, ↓AOps_ha, ↓AOps_call, on_some, extK_false, extK_app, condB_t, ↓then_normal, pval, lval_ld, hval_blds, hval_app, rd_S, put_S, chkd, bgot, cells_int, splice, partA, fillA, repl, eq_self, mk, List.foldl_cons, List.foldl_nil, List.replicate_succ, List.replicate_zero, List.set_cons_zero, List.set_cons_succ, List.getElem?_cons_zero, List.getElem?_cons_succ, List.drop_zero, List.drop_succ_cons, List.drop_nil, List.take_zero, List.take_succ_cons, List.take_nil, Option.getD_some, map_c, map_n, List.length_cons, List.length_nil, Nat.reduceAdd, Nat.reduceLeDiff, Nat.reduceEqDiff, Nat.zero_add, List.nil_append, List.append_nil, bin_lss, if_true, if_false, Bool.false_eq_true, decide_true, Go.Eng.e1, and_true, hlt', hxH.idx hlt, hxH.ld0 hz 1 false (by decide), happ, List.replicate_zero, repl]
      refine CallK.of (s99 (hu.mono hacc.1) (AccL_ls hacc e1_len) hn (fun k hk2 => hk k (List.mem_of_mem_take hk2)) (by rw [List.length_take]; omega)) ?_
      have hpm := pre_app H2 [.mp (mI P (lab ((L.take (i + 1)).map (rdx rs))))]
      have hm := mp_new H2 (.mp (mI P (lab ((L.take (i + 1)).map (rdx rs)))))
      have hacm := hacc.mono hpm
      have hum := hu.mono hacm.1
      have hpA := hacm.1
      generalize H2 ++ [AObj.mp (mI P (lab ((L.take (i + 1)).map (rdx rs))))] = H3 at *
      have hri := hum.idxI (k := .i64) k0 (show z < (rs.length : Int) by omega)
      have hla := lkI' hm ha.1 ha.2
      have hlb := lkI' hm hb.1 hb.2
      by_cases hc : Cn ((L.take (i + 1)).map (rdx rs)) a b
      · have hq : lab ((L.take (i + 1)).map (rdx rs)) a = lab ((L.take (i + 1)).map (rdx rs)) b := (lab_eq_iff ha.1 hb.1).2 hc
        have hwe : (rdx rs z).2.2 = wct rs z := rfl
        simp (maxSteps := 4000000) -implicitDefEqProofs -dsimp (disch := omega) only [↓AW_ops, ↓AW_seq, ↓AW_cond, ↓AW_ret, ↓AOps_nil, ↓AOps_pu, ↓AOps_ld, on_some, extK_false, condB_t, ↓then_normal, ↓then_ret, ↓inBlock_ret, ↓FinR_ret, pval, lval_ld, lval_look, rd_S, rd_C, put_S, resV, resL, chkd, isAdr, bgot, cells_agg, partA, eq_self, mk, List.foldl_cons, List.foldl_nil, List.replicate_succ, List.replicate_zero, List.set_cons_zero, List.set_cons_succ, List.getElem?_cons_zero, List.getElem?_cons_succ, List.drop_zero, List.drop_succ_cons, List.take_succ_cons, List.take_nil, Option.getD_some, List.length_cons, List.length_nil, Nat.reduceAdd, Nat.reduceLeDiff, Nat.zero_add, bin_eql, if_true, if_false, Bool.false_eq_true, decide_true, hla, hlb, hq, hri, hum.ld hr 1 2 false (by decide), e3, hwe]
        exact ⟨_, _, gc_val hpA rfl, wct rs z, true, rfl, rfl, .inr (.inl ⟨hab, rfl, i, z, hz, rfl, hc, hnc⟩)⟩
      · have hq : ¬ lab ((L.take (i + 1)).map (rdx rs)) a = lab ((L.take (i + 1)).map (rdx rs)) b := fun e => hc ((lab_eq_iff ha.1 hb.1).1 e)
        simp (maxSteps := 4000000) -implicitDefEqProofs -dsimp (disch := omega) only [↓AW_skip, ↓AW_ops, ↓AW_seq, ↓AW_cond, ↓AOps_nil, ↓AOps_pu, ↓AOps_ld, on_some, extK_false, condB_f, ↓then_normal, ↓inBlock_normal, pval, lval_look, rd_S, rd_C, put_S, eq_self, mk, List.foldl_cons, List.foldl_nil, List.replicate_succ, List.replicate_zero, List.set_cons_zero, List.set_cons_succ, List.getElem?_cons_zero, List.getElem?_cons_succ, Option.getD_some, List.length_cons, List.length_nil, Nat.reduceAdd, Nat.zero_add, bin_add, bin_eql, w64, decide_false, true_and, hla, hlb, hq]
        exact ⟨(i + 1, .sl 1 n 0 len false, H3), ⟨hlt, hacm, hc⟩, by simp [Has, rd_s], rfl, by simp only; omega⟩
    · have hlt' : ¬ ((i : Int) < L.length) := by omega
      rw [List.take_of_length_le (by omega)] at hnc
      simp (maxSteps := 4000000) -implicitDefEqProofs -dsimp (disch := omega) only [↓AW_ops, ↓AW_seq, ↓AW_cond, ↓AW_exit, ↓AW_ret, ↓AOps_nil, ↓AOps_pu, on_some, condB_f, ↓then_normal, ↓then_exit, ↓inBlock_exit, ↓FinR_ret, pval, rd_S, rd_C, put_S, resV, resL, eq_self, mk, List.foldl_cons, List.foldl_nil, List.replicate_succ, List.replicate_zero, List.set_cons_zero, List.set_cons_succ, List.getElem?_cons_zero, List.getElem?_cons_succ, Option.getD_some, bin_lss, if_true, decide_false, hlt']
      exact ⟨_, _, gc_val hac.1 rfl, 0, false, rfl, rfl, .inr (.inr ⟨hab, rfl, rfl, hnc⟩)⟩
  obtain ⟨r, H', h1, c, ok, rfl, rfl, h2⟩ := key
  exact ⟨c, ok, h1, h2⟩
end
section
variable {Q : Int} {rs : List Rd} {ks : List Int} {u v : AV} {A : AHeap} {a b : Int}
/-- The error of a net and two places. -/
def pE (Q : Int) (rs : List Rd) (a b : Int) : Int := if vE Q rs = 0 then (if (0 ≤ a ∧ a ≤ Q - 1) ∧ (0 ≤ b ∧ b ≤ Q - 1) then 0 else 4) else vE Q rs
theorem pE_v (h : ¬ vE Q rs = 0) : pE Q rs a b = vE Q rs := by unfold pE; rw [if_neg h]
theorem pE_4 (h : vE Q rs = 0) (h2 : ¬ ((0 ≤ a ∧ a ≤ Q - 1) ∧ (0 ≤ b ∧ b ≤ Q - 1))) : pE Q rs a b = 4 := by unfold pE; rw [if_pos h, if_neg h2]
theorem pE_0 : pE Q rs a b = 0 ↔ Net Q rs ∧ (0 ≤ a ∧ a ≤ Q - 1) ∧ (0 ≤ b ∧ b ≤ Q - 1) := by
  rw [← vE_0]
  unfold pE
  constructor
  · intro h
    split at h
    · rename_i h1
      split at h
      · rename_i h2; exact ⟨h1, h2⟩
      · cases h
    · rename_i h1; exact absurd h h1
  · rintro ⟨h1, h2⟩
    rw [if_pos h1, if_pos h2]
theorem L1_two (A : AHeap) (x y : Int) : L1 (A ++ [.cells true [I x, I y]]) (.sl 1 A.length 0 2 true) [x, y] := ⟨e1_len, by simp [slCells, cellsAt, e1]⟩
theorem notOf_2 {c x y : Int} : notOf c [x, y] = true ↔ ¬ ((0 ≤ x ∧ x ≤ c - 1) ∧ (0 ≤ y ∧ y ≤ c - 1)) := by
  unfold notOf
  simp only [List.any_cons, List.any_nil, Bool.or_false, Bool.or_eq_true, Bool.not_eq_true', decide_eq_false_iff_not]
  omega
theorem s72 (hu : L3 A u rs) (hP : W Q) (a b : Int) : ACalls Try.prog 72 [.agg [I Q, u], I a, I b] A (I (pE Q rs a b)) A := by
  refine acalls hmix Try.func72 (by kernel_rfl) t72 3 rfl (by decide) ?_
  dsimp only [m72]
  simp (maxSteps := 4000000) -implicitDefEqProofs -dsimp (disch := omega) only [↓AW_ops, ↓AW_seq, ↓AOps_nil, ↓AOps_pu, ↓AOps_call, on_some, ↓then_normal, pval, rd_S, rd_C, put_S, chkd, bgot, AV.cells?, partA, eq_self, List.replicate_succ, List.replicate_zero, List.set_cons_zero, List.set_cons_succ, List.getElem?_cons_zero, List.getElem?_cons_succ, List.drop_zero, List.take_succ_cons, List.take_nil, Option.getD_some, map_c, map_n, List.length_cons, List.length_nil, Nat.reduceAdd, Nat.reduceSub, Nat.reduceLeDiff, Nat.reduceEqDiff, Nat.zero_add, List.cons_append, List.nil_append, if_true, if_false]
  refine CallK.of (s28 hu hP) ?_
  by_cases h0 : vE Q rs = 0
  · have hn := vE_0.1 h0
    have := hn.p1
    have := hn.p7
    simp (maxSteps := 4000000) -implicitDefEqProofs -dsimp (disch := omega) only [↓AW_skip, ↓AW_ops, ↓AW_seq, ↓AW_cond, ↓AOps_nil, ↓AOps_pu, ↓AOps_ha, ↓AOps_call, on_some, extK_app, extK_same, condB_f, ↓then_normal, pval, hval, rd_S, rd_C, put_S, chkd, isAdr, bgot, AV.cells?, splice, partA, fillA, repl, eq_self, List.replicate_succ, List.replicate_zero, List.set_cons_zero, List.set_cons_succ, List.getElem?_cons_zero, List.getElem?_cons_succ, List.drop_zero, List.drop_succ_cons, List.drop_nil, List.take_zero, List.take_succ_cons, Option.getD_some, map_c, map_n, List.length_cons, List.length_nil, Nat.reduceAdd, Nat.reduceSub, Nat.reduceLeDiff, Nat.zero_add, List.cons_append, List.nil_append, List.append_nil, bin_neq, if_true, if_false, Bool.false_eq_true, decide_false, and_true, not_true_eq_false, h0, List.replicate_zero, repl]
    refine CallK.of (s58 (L1_two A a b) (by simp) (c := Q) (by omega)) ?_
    by_cases h1 : notOf Q [a, b] = true
    · rw [if_pos h1, pE_4 h0 (notOf_2.1 h1)]
      simp (maxSteps := 4000000) -implicitDefEqProofs -dsimp (disch := omega) only [↓AW_ret, ↓AOps_nil, ↓AOps_pu, on_some, extK_same, ↓then_normal, ↓Fin_ret, pval, rd_S, put_S, resV, resL, List.replicate_succ, List.replicate_zero, List.set_cons_zero, List.set_cons_succ, List.getElem?_cons_zero, List.getElem?_cons_succ, Option.getD_some, Nat.reduceSub, List.cons_append, List.nil_append]
      exact gc_val (pre_app _ _) rfl
    · have h2 : (0 ≤ a ∧ a ≤ Q - 1) ∧ (0 ≤ b ∧ b ≤ Q - 1) := Classical.byContradiction (fun h => h1 (notOf_2.2 h))
      rw [if_neg h1, pE_0.2 ⟨hn, h2⟩]
      simp (maxSteps := 4000000) -implicitDefEqProofs -dsimp (disch := omega) only [↓AW_ret, ↓AOps_nil, ↓AOps_pu, on_some, extK_same, ↓then_normal, ↓Fin_ret, pval, rd_S, put_S, resV, resL, List.replicate_succ, List.replicate_zero, List.set_cons_zero, List.set_cons_succ, List.getElem?_cons_zero, List.getElem?_cons_succ, Option.getD_some, Nat.reduceSub, List.cons_append, List.nil_append]
      exact gc_val (pre_app _ _) rfl
  · rw [pE_v h0]
    simp (maxSteps := 4000000) -implicitDefEqProofs -dsimp (disch := omega) only [↓AW_ops, ↓AW_seq, ↓AW_cond, ↓AW_ret, ↓AOps_nil, ↓AOps_pu, on_some, extK_same, condB_t, ↓then_normal, ↓then_ret, ↓Fin_ret, pval, rd_S, rd_C, put_S, resV, resL, List.replicate_succ, List.replicate_zero, List.set_cons_zero, List.set_cons_succ, List.getElem?_cons_zero, List.getElem?_cons_succ, Option.getD_some, Nat.reduceSub, List.cons_append, List.nil_append, bin_neq, decide_true, not_false_eq_true, h0]
    exact gc_same rfl
/-- The smallest worst of a way: the cost, whether there is one, the error. -/
noncomputable def wC (Q : Int) (rs : List Rd) (a b : Int) : Int := if pE Q rs a b = 0 then (bt rs (nums rs) a b).getD 0 else 0
noncomputable def wB (Q : Int) (rs : List Rd) (a b : Int) : Bool := decide (pE Q rs a b = 0) && (bt rs (nums rs) a b).isSome
theorem s25 (hu : L3 A u rs) (hP : W Q) (a b : Int) : ACalls Try.prog 25 [.agg [I Q, u], I a, I b] A (.tuple [I (wC Q rs a b), B (wB Q rs a b), I (pE Q rs a b)]) A := by
  refine acalls hmix Try.func25 (by kernel_rfl) t25 3 rfl (by decide) ?_
  dsimp only [m25]
  simp (maxSteps := 4000000) -implicitDefEqProofs -dsimp (disch := omega) only [↓AW_ops, ↓AW_seq, ↓AOps_nil, ↓AOps_pu, ↓AOps_call, on_some, ↓then_normal, pval, rd_S, rd_C, put_S, chkd, bgot, AV.cells?, partA, eq_self, List.replicate_succ, List.replicate_zero, List.set_cons_zero, List.set_cons_succ, List.getElem?_cons_zero, List.getElem?_cons_succ, List.drop_zero, List.take_succ_cons, List.take_nil, Option.getD_some, map_c, map_n, List.length_cons, List.length_nil, Nat.reduceAdd, Nat.reduceSub, Nat.reduceLeDiff, Nat.reduceEqDiff, Nat.zero_add, List.cons_append, List.nil_append, if_true, if_false]
  refine CallK.of (s72 hu hP a b) ?_
  by_cases h0 : pE Q rs a b = 0
  · obtain ⟨hn, ha, hb⟩ := pE_0.1 h0
    obtain ⟨P, rfl⟩ := hn.nat
    have hl14 := hn.l
    have e1 : wC P rs a b = (bt rs (nums rs) a b).getD 0 := if_pos h0
    have e2 : wB P rs a b = (bt rs (nums rs) a b).isSome := by unfold wB; rw [decide_eq_true h0, Bool.true_and]
    rw [e1, e2, h0]
    simp (maxSteps := 4000000) -implicitDefEqProofs -dsimp (disch := omega) only [↓AW_skip, ↓AW_ops, ↓AW_seq, ↓AW_cond, ↓AOps_nil, ↓AOps_pu, ↓AOps_call, on_some, extK_same, condB_f, ↓then_normal, pval, rd_S, rd_C, put_S, chkd, bgot, partA, eq_self, List.replicate_succ, List.replicate_zero, List.set_cons_zero, List.set_cons_succ, List.getElem?_cons_zero, List.getElem?_cons_succ, List.drop_zero, List.take_succ_cons, List.take_nil, Option.getD_some, map_c, map_n, List.length_cons, List.length_nil, Nat.reduceAdd, Nat.reduceSub, Nat.reduceLeDiff, Nat.reduceEqDiff, Nat.zero_add, List.cons_append, List.nil_append, bin_neq, if_true, if_false, decide_false, not_true_eq_false]
    obtain ⟨r1, H1, c1, p1, L, hL, hO⟩ := c_all hu hn
    refine CallK.of c1 ?_
    simp (maxSteps := 4000000) -implicitDefEqProofs -dsimp (disch := omega) only [↓AOps_pu, ↓AOps_call, on_some, extK_false, pval, rd_S, put_S, List.replicate_succ, List.replicate_zero, List.set_cons_zero, List.set_cons_succ, List.getElem?_cons_zero, List.getElem?_cons_succ, Option.getD_some, map_c, map_n, Nat.reduceSub, List.cons_append, List.nil_append]
    obtain ⟨c, ok, c2, hLS⟩ := c_least (hu.mono p1) hL hn hO.nos (by rw [hO.len]; omega) (a := a) (b := b) (by omega) (by omega)
    refine CallK.of c2 ?_
    obtain ⟨hbt, hok⟩ := LS_bt (M := nums rs) hO.s (fun k => hO.p.mem_iff) (fun k hk => hn.wb (hO.nos k hk).1 (hO.nos k hk).2) hLS
    rw [hbt]
    cases ok with
    | true =>
      simp (maxSteps := 4000000) -implicitDefEqProofs -dsimp (disch := omega) only [↓AW_ops, ↓AW_seq, ↓AW_ret, ↓AOps_nil, ↓AOps_pu, on_some, extK_same, ↓then_normal, ↓Fin_ret, pval, rd_S, rd_C, put_S, resV, resL, eq_self, List.replicate_succ, List.replicate_zero, List.set_cons_zero, List.set_cons_succ, List.getElem?_cons_zero, List.getElem?_cons_succ, Option.getD_some, Nat.reduceSub, List.cons_append, List.nil_append, if_true, Option.isSome_some]
      exact gc_val p1 rfl
    | false =>
      rw [hok rfl]
      simp (maxSteps := 4000000) -implicitDefEqProofs -dsimp (disch := omega) only [↓AW_ops, ↓AW_seq, ↓AW_ret, ↓AOps_nil, ↓AOps_pu, on_some, extK_same, ↓then_normal, ↓Fin_ret, pval, rd_S, rd_C, put_S, resV, resL, List.replicate_succ, List.replicate_zero, List.set_cons_zero, List.set_cons_succ, List.getElem?_cons_zero, List.getElem?_cons_succ, Option.getD_some, Nat.reduceSub, List.cons_append, List.nil_append, if_false, Bool.false_eq_true, Option.isSome_none, Option.getD_none]
      exact gc_val p1 rfl
  · have e1 : wC Q rs a b = 0 := if_neg h0
    have e2 : wB Q rs a b = false := by unfold wB; rw [decide_eq_false h0, Bool.false_and]
    rw [e1, e2]
    simp (maxSteps := 4000000) -implicitDefEqProofs -dsimp (disch := omega) only [↓AW_ops, ↓AW_seq, ↓AW_cond, ↓AW_ret, ↓AOps_nil, ↓AOps_pu, on_some, extK_same, condB_t, ↓then_normal, ↓then_ret, ↓Fin_ret, pval, rd_S, rd_C, put_S, resV, resL, List.replicate_succ, List.replicate_zero, List.set_cons_zero, List.set_cons_succ, List.getElem?_cons_zero, List.getElem?_cons_succ, Option.getD_some, Nat.reduceSub, List.cons_append, List.nil_append, bin_neq, decide_true, not_false_eq_true, h0]
    exact gc_same rfl
end
end Go.Proofs.Ytkgfcdpckfhknaa

namespace Go.Proofs.Ytkgfcdpckfhknaa
open Go Go.Eng
/-- selion/selionlaw04.RoadRanges [] -/
def m3 : MFun := ⟨44, [2], [.mov (.s 4)],
 .seq (.ops [⟨(some 2), some (.junk), none, false, .pu (.bnew (.s 0))⟩,
   ⟨(some 4), some undefA, none, false, .pu (.mov (.c (.bool false)))⟩])
 (.seq (.seq (.ops [⟨(some 11), some undefA, none, false, .pu (.bget none 2 0 2 true)⟩,
   ⟨(some 12), some undefA, none, false, .call 17 [(.s 11)]⟩])
 (.cond (.s 12) (.seq (.ops [⟨(some 13), some undefA, none, false, .call 18 []⟩,
    ⟨(some 4), some undefA, none, false, .pu (.mov (.s 13))⟩])
  (.ret))
 (.skip)))
 (.seq (.ops [⟨(some 15), some undefA, none, false, .pu (.bget none 2 0 2 true)⟩,
   ⟨(some 16), some undefA, none, false, .pu (.mov (.s 1))⟩,
   ⟨(some 17), some undefA, none, false, .call 19 [(.s 15), (.s 16)]⟩,
   ⟨(some 14), some undefA, none, false, .pu (.mov (.s 17))⟩,
   ⟨(some 18), some undefA, none, false, .pu (.extr 0 (.s 14))⟩,
   ⟨(some 19), some undefA, none, false, .pu (.extr 1 (.s 14))⟩,
   ⟨(some 20), some undefA, none, false, .pu (.extr 2 (.s 14))⟩,
   ⟨(some 5), some undefA, none, false, .pu (.mov (.s 18))⟩,
   ⟨(some 6), some undefA, none, false, .pu (.mov (.s 19))⟩,
   ⟨(some 7), some undefA, none, false, .pu (.mov (.s 20))⟩])
 (.seq (.ops [⟨(some 22), some undefA, none, false, .pu (.bget none 2 0 2 true)⟩,
   ⟨(some 23), some undefA, none, false, .pu (.mov (.s 1))⟩,
   ⟨(some 24), some undefA, none, false, .call 20 [(.s 22), (.s 23)]⟩,
   ⟨(some 21), some undefA, none, false, .pu (.mov (.s 24))⟩,
   ⟨(some 25), some undefA, none, false, .pu (.extr 0 (.s 21))⟩,
   ⟨(some 26), some undefA, none, false, .pu (.extr 1 (.s 21))⟩,
   ⟨(some 27), some undefA, none, false, .pu (.extr 2 (.s 21))⟩,
   ⟨(some 8), some undefA, none, false, .pu (.mov (.s 25))⟩,
   ⟨(some 9), some undefA, none, false, .pu (.mov (.s 26))⟩,
   ⟨(some 10), some undefA, none, false, .pu (.mov (.s 27))⟩])
 (.seq (.ops [⟨(some 28), some undefA, none, false, .pu (.mov (.s 5))⟩,
   ⟨(some 29), some undefA, none, false, .pu (.mov (.s 8))⟩,
   ⟨(some 30), some undefA, none, false, .pu (.bin .eql (.s 28) (.s 29))⟩,
   ⟨(some 31), some undefA, none, false, .pu (.mov (.s 30))⟩,
   ⟨(some 32), some undefA, (some (31, true)), false, .pu (.mov (.s 6))⟩,
   ⟨(some 33), some undefA, (some (31, true)), false, .pu (.mov (.s 9))⟩,
   ⟨(some 34), some undefA, (some (31, true)), false, .pu (.eqb false (.s 32) (.s 33))⟩,
   ⟨(some 35), some undefA, none, false, .pu (.pick (.s 31) (.s 34) (.c (.bool false)))⟩,
   ⟨(some 36), some undefA, none, false, .pu (.mov (.s 35))⟩,
   ⟨(some 37), some undefA, (some (36, true)), false, .pu (.mov (.s 7))⟩,
   ⟨(some 38), some undefA, (some (36, true)), false, .pu (.mov (.s 10))⟩,
   ⟨(some 39), some undefA, (some (36, true)), false, .pu (.bin .eql (.s 37) (.s 38))⟩,
   ⟨(some 40), some undefA, none, false, .pu (.pick (.s 36) (.s 39) (.c (.bool false)))⟩,
   ⟨(some 41), some undefA, none, false, .pu (.mov (.s 40))⟩,
   ⟨(some 42), some undefA, (some (41, true)), false, .call 18 []⟩,
   ⟨(some 43), some undefA, none, false, .pu (.pick (.s 41) (.s 42) (.c (.bool false)))⟩,
   ⟨(some 4), some undefA, none, false, .pu (.mov (.s 43))⟩])
 (.ret)))))⟩
end Go.Proofs.Ytkgfcdpckfhknaa

namespace Go.Proofs.Ytkgfcdpckfhknaa
open Go Go.Eng
/-- One road on a way. -/
def stp (rs : List Rd) (p : Int × Int) (k : Int) : Option (Int × Int) :=
  if p.1 = (rdx rs k).1 then some ((rdx rs k).2.1, max p.2 (wct rs k)) else if p.1 = (rdx rs k).2.1 then some ((rdx rs k).1, max p.2 (wct rs k)) else none
/-- A way from a place: where it ends, and its worst. -/
def wk (rs : List Rd) (p : Int × Int) : List Int → Option (Int × Int)
  | [] => some p
  | k :: ks => match stp rs p k with
    | some q => wk rs q ks
    | none => none
theorem wk_append (rs : List Rd) : ∀ (xs ys : List Int) (p : Int × Int), wk rs p (xs ++ ys) = match wk rs p xs with | some q => wk rs q ys | none => none
  | [], ys, p => rfl
  | x :: xs, ys, p => by
    rw [List.cons_append, wk, wk]
    cases stp rs p x with
    | none => rfl
    | some q => exact wk_append rs xs ys q
theorem wk_snoc {rs : List Rd} {ks : List Int} {i : Nat} {k : Int} {p q : Int × Int} (hz : ks[i]? = some k) (h : wk rs p (ks.take i) = some q) : wk rs p (ks.take (i + 1)) = stp rs q k := by
  rw [List.take_add_one, hz, wk_append, h]
  show wk rs q [k] = _
  rw [wk]
  cases stp rs q k <;> rfl
theorem wk_none {rs : List Rd} {ks : List Int} {i : Nat} {p : Int × Int} (h : wk rs p (ks.take i) = none) : wk rs p ks = none := by
  have := wk_append rs (ks.take i) (ks.drop i) p
  rw [List.take_append_drop, h] at this
  exact this
theorem stp_cn {rs : List Rd} {p q : Int × Int} {k : Int} (h : stp rs p k = some q) : q.2 = max p.2 (wct rs k) ∧ (((rdx rs k).1 = p.1 ∧ (rdx rs k).2.1 = q.1) ∨ ((rdx rs k).1 = q.1 ∧ (rdx rs k).2.1 = p.1)) := by
  unfold stp at h
  split at h
  · rename_i e
    cases h
    exact ⟨rfl, .inl ⟨e.symm, rfl⟩⟩
  · split at h
    · rename_i e
      cases h
      exact ⟨rfl, .inr ⟨rfl, e.symm⟩⟩
    · cases h
theorem wk_cn {rs : List Rd} : ∀ {ks : List Int} {p q : Int × Int}, Nos rs ks → wk rs p ks = some q → p.2 ≤ q.2 ∧ cnT rs (nums rs) q.2 p.1 q.1
  | [], p, q, _, h => by
    cases h
    exact ⟨Int.le_refl _, .refl _⟩
  | k :: ks, p, q, hk, h => by
    rw [wk] at h
    cases hs : stp rs p k with
    | none => rw [hs] at h; cases h
    | some r =>
      rw [hs] at h
      obtain ⟨h1, h2⟩ := wk_cn (fun x hx => hk x (by simp [hx])) h
      obtain ⟨g1, g2⟩ := stp_cn hs
      have hkk := hk k (by simp)
      refine ⟨by omega, ?_⟩
      have hmem : rdx rs k ∈ (upTo (wct rs) (nums rs) q.2).map (rdx rs) := List.mem_map_of_mem (mem_upTo.2 ⟨mem_plc.2 (by omega), by omega⟩)
      have hone : Cn ((upTo (wct rs) (nums rs) q.2).map (rdx rs)) p.1 r.1 := by
        rcases g2 with ⟨e1, e2⟩ | ⟨e1, e2⟩
        · rw [← e1, ← e2]; exact Cn.one hmem
        · rw [← e1, ← e2]; exact (Cn.one hmem).symm
      exact hone.trans h2
section
variable {Q : Int} {rs : List Rd} {ks : List Int} {u v : AV} {A : AHeap} {a b : Int}
/-- The error of a way, and its worst. -/
def yE (Q : Int) (rs : List Rd) (a b : Int) (ks : List Int) : Int :=
  if pE Q rs a b = 0 then (if notOf rs.length ks = true then 4 else match wk rs (a, 0) ks with | some p => (if p.1 = b then 0 else 7) | none => 7) else pE Q rs a b
def yC (Q : Int) (rs : List Rd) (a b : Int) (ks : List Int) : Int := if yE Q rs a b ks = 0 then ((wk rs (a, 0) ks).getD (0, 0)).2 else 0
theorem yE_p (h : ¬ pE Q rs a b = 0) : yE Q rs a b ks = pE Q rs a b := by unfold yE; rw [if_neg h]
theorem yE_4 (h : pE Q rs a b = 0) (h2 : notOf rs.length ks = true) : yE Q rs a b ks = 4 := by unfold yE; rw [if_pos h, if_pos h2]
theorem yE_n (h : pE Q rs a b = 0) (h2 : ¬ notOf rs.length ks = true) (h3 : wk rs (a, 0) ks = none) : yE Q rs a b ks = 7 := by unfold yE; rw [if_pos h, if_neg h2, h3]
theorem yE_s (h : pE Q rs a b = 0) (h2 : ¬ notOf rs.length ks = true) {p : Int × Int} (h3 : wk rs (a, 0) ks = some p) : yE Q rs a b ks = if p.1 = b then 0 else 7 := by unfold yE; rw [if_pos h, if_neg h2, h3]
theorem yC_0 (h : ¬ yE Q rs a b ks = 0) : yC Q rs a b ks = 0 := by unfold yC; rw [if_neg h]
theorem yC_s (h : yE Q rs a b ks = 0) {p : Int × Int} (h3 : wk rs (a, 0) ks = some p) : yC Q rs a b ks = p.2 := by unfold yC; rw [if_pos h, h3]; rfl
theorem notOf_nos (h : ¬ notOf rs.length ks = true) : Nos rs ks := by
  intro k hk
  refine Classical.byContradiction (fun hn => h ?_)
  unfold notOf
  rw [List.any_eq_true]
  refine ⟨k, hk, ?_⟩
  rw [decide_eq_false (by omega)]
  rfl
theorem rs_some {k : Int} (h : ¬ notOf rs.length ks = true) {i : Nat} (hz : ks[i]? = some k) : rs[k.toNat]? = some (rdx rs k) ∧ (0 ≤ k ∧ k < (rs.length : Int)) := by
  have := notOf_nos h k (List.mem_of_getElem? hz)
  exact ⟨(rdx_at this.1 this.2).1, by omega⟩
set_option maxHeartbeats 8000000 in
theorem s30 (hu : L3 A u rs) (hP : W Q) (hx : L1 A v ks) (hl : ks.length ≤ 1000000) (a b : Int) : ACalls Try.prog 30 [.agg [I Q, u], I a, I b, v] A (.tuple [I (yC Q rs a b ks), I (yE Q rs a b ks)]) A := by
  refine acalls hmix Try.func30 (by kernel_rfl) t30 4 rfl (by decide) ?_
  dsimp only [m30]
  simp (maxSteps := 4000000) -implicitDefEqProofs -dsimp (disch := omega) only [↓AW_ops, ↓AW_seq, ↓AOps_nil, ↓AOps_pu, ↓AOps_call, on_some, ↓then_normal, pval, rd_S, rd_C, put_S, chkd, bgot, AV.cells?, partA, eq_self, List.replicate_succ, List.replicate_zero, List.set_cons_zero, List.set_cons_succ, List.getElem?_cons_zero, List.getElem?_cons_succ, List.drop_zero, List.take_succ_cons, List.take_nil, Option.getD_some, map_c, map_n, List.length_cons, List.length_nil, Nat.reduceAdd, Nat.reduceSub, Nat.reduceLeDiff, Nat.reduceEqDiff, Nat.zero_add, List.cons_append, List.nil_append, if_true, if_false]
  refine CallK.of (s72 hu hP a b) ?_
  by_cases h0 : pE Q rs a b = 0
  case neg =>
    have e1 := yE_p (ks := ks) h0
    rw [yC_0 (by rw [e1]; exact h0), e1]
    simp (maxSteps := 4000000) -implicitDefEqProofs -dsimp (disch := omega) only [↓AW_ops, ↓AW_seq, ↓AW_cond, ↓AW_ret, ↓AOps_nil, ↓AOps_pu, on_some, extK_same, condB_t, ↓then_normal, ↓then_ret, ↓Fin_ret, pval, rd_S, rd_C, put_S, resV, resL, List.replicate_succ, List.replicate_zero, List.set_cons_zero, List.set_cons_succ, List.getElem?_cons_zero, List.getElem?_cons_succ, Option.getD_some, Nat.reduceSub, List.cons_append, List.nil_append, bin_neq, decide_true, not_false_eq_true, h0]
    exact gc_same rfl
  have hn := (pE_0.1 h0).1
  simp (maxSteps := 4000000) -implicitDefEqProofs -dsimp (disch := omega) only [↓AW_skip, ↓AW_ops, ↓AW_seq, ↓AW_cond, ↓AOps_nil, ↓AOps_pu, ↓AOps_call, on_some, extK_same, condB_f, ↓then_normal, pval, rd_S, rd_C, put_S, chkd, isAdr, bgot, AV.cells?, partA, eq_self, List.replicate_succ, List.replicate_zero, List.set_cons_zero, List.set_cons_succ, List.getElem?_cons_zero, List.getElem?_cons_succ, List.drop_zero, List.drop_succ_cons, List.take_succ_cons, List.take_nil, Option.getD_some, map_c, map_n, List.length_cons, List.length_nil, Nat.reduceAdd, Nat.reduceSub, Nat.reduceLeDiff, Nat.zero_add, List.cons_append, List.nil_append, bin_neq, if_true, if_false, Bool.false_eq_true, decide_false, not_true_eq_false, h0, hu.len]
  refine CallK.of (s58 hx hl hn.lenb) ?_
  by_cases h1 : notOf rs.length ks = true
  · have e1 := yE_4 (a := a) (b := b) h0 h1
    rw [if_pos h1, yC_0 (by rw [e1]; decide), e1]
    simp (maxSteps := 4000000) -implicitDefEqProofs -dsimp (disch := omega) only [↓AW_ops, ↓AW_seq, ↓AW_cond, ↓AW_ret, ↓AOps_nil, ↓AOps_pu, on_some, extK_same, condB_t, ↓then_normal, ↓then_ret, ↓Fin_ret, pval, rd_S, rd_C, put_S, resV, resL, List.replicate_succ, List.replicate_zero, List.set_cons_zero, List.set_cons_succ, List.getElem?_cons_zero, List.getElem?_cons_succ, Option.getD_some, Nat.reduceSub, List.cons_append, List.nil_append, bin_neq, decide_true, not_false_eq_true, Int.reduceEq]
    exact gc_same rfl
  rw [if_neg h1]
  simp (maxSteps := 4000000) -implicitDefEqProofs -dsimp (disch := omega) only [↓AW_skip, ↓AW_ops, ↓AW_seq, ↓AW_cond, ↓AW_block, ↓AOps_nil, ↓AOps_pu, on_some, extK_same, condB_f, ↓then_normal, pval, rd_S, rd_C, put_S, ↓AW_toLoop, eq_self, List.replicate_succ, List.replicate_zero, List.set_cons_zero, List.set_cons_succ, List.getElem?_cons_zero, List.getElem?_cons_succ, Option.getD_some, Nat.reduceSub, List.cons_append, List.nil_append, bin_neq, decide_false, not_true_eq_false, hx.len]
  refine LoopK.by 64 (fun x : Nat × Int × Int => x.1 ≤ ks.length ∧ wk rs (a, 0) (ks.take x.1) = some x.2) (fun x => [(1, I x.2.1), (2, I b), (4, .agg [I Q, u]), (12, I x.2.2), (31, v), (32, I ks.length), (33, I x.1)]) (fun _ => A) (fun x => ks.length - x.1) (0, a, 0) ⟨by simp only; omega, rfl⟩ rfl (by simp [Has, rd_s]) rfl ?_
  rintro ⟨i, at', w⟩ ⟨hi, hw⟩
  simp only at hi hw
  by_cases hlt : i < ks.length
  · obtain ⟨k, hz⟩ : ∃ z, ks[i]? = some z := ⟨_, List.getElem?_eq_getElem hlt⟩
    have hlt' : (i : Int) < ks.length := by omega
    obtain ⟨hr, k0, k1⟩ := rs_some h1 hz
    have hri := hu.idxI (k := .i64) k0 k1
    have hsn := wk_snoc hz hw
    have hwe : (rdx rs k).2.2 = wct rs k := rfl
    by_cases ha : at' = (rdx rs k).1
    · have hst : stp rs (at', w) k = some ((rdx rs k).2.1, max w (wct rs k)) := by unfold stp; rw [if_pos ha]
      rw [hst] at hsn
      subst ha
      simp (maxSteps := 4000000) -implicitDefEqProofs -dsimp (disch := omega) only [↓AW_skip, ↓AW_ops, ↓AW_seq, ↓AW_cond, ↓AW_block, ↓AOps_nil, ↓AOps_pu, ↓AOps_ld, on_some, condB_t, ↓then_normal, ↓inBlock_normal, pval, lval, rd_S, rd_C, put_S, chkd, isAdr, bput, bgot, AV.cells?, splice, partA, eq_self, mk, List.foldl_cons, List.foldl_nil, List.replicate_succ, List.replicate_zero, List.set_cons_zero, List.set_cons_succ, List.getElem?_cons_zero, List.getElem?_cons_succ, List.drop_zero, List.drop_succ_cons, List.drop_nil, List.take_zero, List.take_succ_cons, List.take_nil, Option.getD_some, map_c, map_n, List.length_cons, List.length_nil, Nat.reduceAdd, Nat.reduceLeDiff, Nat.reduceEqDiff, Nat.zero_add, List.nil_append, List.append_nil, bin_add, bin_eql, bin_lss, mm_max, w64, if_true, if_false, Bool.false_eq_true, decide_true, Go.Eng.e1, true_and, ne_eq, not_true_eq_false, hlt', hx.idx hlt, hx.ld0 hz 1 false (by decide), hri, hu.ld0 hr 3 true (by decide), e3, hwe]
      exact ⟨(i + 1, _), ⟨hlt, hsn⟩, by simp [Has, rd_s], by simp only; omega⟩
    · by_cases hb : at' = (rdx rs k).2.1
      · have hst : stp rs (at', w) k = some ((rdx rs k).1, max w (wct rs k)) := by unfold stp; rw [if_neg ha, if_pos hb]
        rw [hst] at hsn
        subst hb
        simp (maxSteps := 4000000) -implicitDefEqProofs -dsimp (disch := omega) only [↓AW_skip, ↓AW_ops, ↓AW_seq, ↓AW_cond, ↓AW_block, ↓AOps_nil, ↓AOps_pu, ↓AOps_ld, on_some, condB_t, condB_f, ↓then_normal, ↓inBlock_normal, pval, lval, rd_S, rd_C, put_S, chkd, isAdr, bput, bgot, AV.cells?, splice, partA, eq_self, mk, List.foldl_cons, List.foldl_nil, List.replicate_succ, List.replicate_zero, List.set_cons_zero, List.set_cons_succ, List.getElem?_cons_zero, List.getElem?_cons_succ, List.drop_zero, List.drop_succ_cons, List.drop_nil, List.take_zero, List.take_succ_cons, List.take_nil, Option.getD_some, map_c, map_n, List.length_cons, List.length_nil, Nat.reduceAdd, Nat.reduceLeDiff, Nat.reduceEqDiff, Nat.zero_add, List.nil_append, List.append_nil, bin_add, bin_eql, bin_lss, mm_max, w64, if_true, if_false, Bool.false_eq_true, decide_true, decide_false, Go.Eng.e1, true_and, ne_eq, not_true_eq_false, hlt', hx.idx hlt, hx.ld0 hz 1 false (by decide), hri, hu.ld0 hr 3 true (by decide), e3, hwe, ha]
        exact ⟨(i + 1, _), ⟨hlt, hsn⟩, by simp [Has, rd_s], by simp only; omega⟩
      · have hst : stp rs (at', w) k = none := by unfold stp; rw [if_neg ha, if_neg hb]
        rw [hst] at hsn
        have e1 := yE_n (b := b) h0 h1 (wk_none hsn)
        rw [yC_0 (by rw [e1]; decide), e1]
        simp (maxSteps := 4000000) -implicitDefEqProofs -dsimp (disch := omega) only [↓AW_skip, ↓AW_ops, ↓AW_seq, ↓AW_cond, ↓AW_block, ↓AW_ret, ↓AOps_nil, ↓AOps_pu, ↓AOps_ld, on_some, condB_t, condB_f, ↓then_normal, ↓then_ret, ↓inBlock_ret, ↓Fin_ret, pval, lval, rd_S, rd_C, put_S, resV, resL, chkd, isAdr, bput, bgot, AV.cells?, splice, partA, eq_self, mk, List.foldl_cons, List.foldl_nil, List.replicate_succ, List.replicate_zero, List.set_cons_zero, List.set_cons_succ, List.getElem?_cons_zero, List.getElem?_cons_succ, List.drop_zero, List.drop_succ_cons, List.drop_nil, List.take_zero, List.take_succ_cons, List.take_nil, Option.getD_some, List.length_cons, List.length_nil, Nat.reduceAdd, Nat.reduceLeDiff, Nat.reduceEqDiff, Nat.zero_add, List.nil_append, List.append_nil, bin_eql, bin_lss, if_true, if_false, Bool.false_eq_true, decide_true, decide_false, Go.Eng.e1, ne_eq, not_true_eq_false, hlt', hx.idx hlt, hx.ld0 hz 1 false (by decide), hri, hu.ld0 hr 3 true (by decide), e3, hwe, ha, hb]
        exact gc_same rfl
  · have hlt' : ¬ ((i : Int) < ks.length) := by omega
    rw [List.take_of_length_le (by omega)] at hw
    have e1 := yE_s h0 h1 hw
    by_cases hb : at' = b
    · rw [if_pos hb] at e1
      rw [yC_s e1 hw, e1]
      subst hb
      simp (maxSteps := 4000000) -implicitDefEqProofs -dsimp (disch := omega) only [↓AW_skip, ↓AW_ops, ↓AW_seq, ↓AW_cond, ↓AW_exit, ↓AW_ret, ↓AOps_nil, ↓AOps_pu, on_some, condB_f, ↓then_normal, ↓then_exit, ↓inBlock_exit, ↓Fin_ret, pval, rd_S, rd_C, put_S, resV, resL, eq_self, mk, List.foldl_cons, List.foldl_nil, List.replicate_succ, List.replicate_zero, List.set_cons_zero, List.set_cons_succ, List.getElem?_cons_zero, List.getElem?_cons_succ, Option.getD_some, bin_neq, bin_lss, if_true, decide_false, not_true_eq_false, hlt']
      exact gc_same rfl
    · rw [if_neg hb] at e1
      rw [yC_0 (by rw [e1]; decide), e1]
      simp (maxSteps := 4000000) -implicitDefEqProofs -dsimp (disch := omega) only [↓AW_ops, ↓AW_seq, ↓AW_cond, ↓AW_exit, ↓AW_ret, ↓AOps_nil, ↓AOps_pu, on_some, condB_t, condB_f, ↓then_normal, ↓then_exit, ↓then_ret, ↓inBlock_exit, ↓Fin_ret, pval, rd_S, rd_C, put_S, resV, resL, eq_self, mk, List.foldl_cons, List.foldl_nil, List.replicate_succ, List.replicate_zero, List.set_cons_zero, List.set_cons_succ, List.getElem?_cons_zero, List.getElem?_cons_succ, Option.getD_some, bin_neq, bin_lss, if_true, decide_true, decide_false, not_false_eq_true, hlt', hb]
      exact gc_same rfl
/-- The error of a net and numbers of roads. -/
def nE (Q : Int) (rs : List Rd) (ks : List Int) : Int := if vE Q rs = 0 then (if notOf rs.length ks = true then 4 else 0) else vE Q rs
/-- None is better than the smallest worst. -/
theorem way_worst (h : yE Q rs a b ks = 0) : pE Q rs a b = 0 ∧ wB Q rs a b = true ∧ wC Q rs a b ≤ yC Q rs a b ks := by
  have h0 : pE Q rs a b = 0 := Classical.byContradiction (fun hn => by rw [yE_p hn] at h; exact hn h)
  have h1 : ¬ notOf rs.length ks = true := fun hn => by rw [yE_4 h0 hn] at h; cases h
  cases hw : wk rs (a, 0) ks with
  | none => rw [yE_n h0 h1 hw] at h; cases h
  | some p =>
    have e1 := yE_s h0 h1 hw
    have hb : p.1 = b := Classical.byContradiction (fun hn => by rw [if_neg hn] at e1; rw [e1] at h; cases h)
    obtain ⟨g1, g2⟩ := wk_cn (notOf_nos h1) hw
    simp only at g1 g2
    rw [hb] at g2
    obtain ⟨hn, _, _⟩ := pE_0.1 h0
    have eC := yC_s h hw
    rw [eC]
    have e2 : wC Q rs a b = (bt rs (nums rs) a b).getD 0 := if_pos h0
    have e3 : wB Q rs a b = (bt rs (nums rs) a b).isSome := by unfold wB; rw [decide_eq_true h0, Bool.true_and]
    rw [e2, e3]
    refine ⟨h0, ?_⟩
    cases hbt : bt rs (nums rs) a b with
    | none =>
      have := (bt_none' (fun k hk => (hn.wb (mem_plc.1 hk).1 (by have := (mem_plc.1 hk).2; omega)).2) hbt).2 p.2
      exact absurd g2 this
    | some c =>
      refine ⟨rfl, ?_⟩
      show c ≤ p.2
      rcases bt_spec hbt with ⟨_, hc⟩ | ⟨_, _, _, hmin⟩
      · omega
      · exact hmin _ g2 g1
end
end Go.Proofs.Ytkgfcdpckfhknaa

namespace Go.Proofs.Ytkgfcdpckfhknaa
open Go Go.Eng
theorem bq1 : ((true : Bool) == false) = false := rfl
theorem bq2 : ((false : Bool) == true) = false := rfl
section
variable {Q : Int} {rs : List Rd} {ks : List Int} {u v : AV} {A : AHeap} {a b : Int}
/-- A road crosses a set's border, and costs no more. -/
def xR (ks : List Int) (c : Int) (r : Rd) : Prop := ¬ (decide (r.1 ∈ ks) = decide (r.2.1 ∈ ks)) ∧ r.2.2 ≤ c
instance xRdec (ks : List Int) (c : Int) (r : Rd) : Decidable (xR ks c r) := by unfold xR; infer_instance
/-- Why a set is no wall. -/
def xE (Q : Int) (rs : List Rd) (a b c : Int) (ks : List Int) : Int :=
  if pE Q rs a b = 0 then (if okS Q ks ∧ 0 ≤ c ∧ c ≤ 99 then (if a ∈ ks ∧ b ∉ ks then (if ∀ r ∈ rs, ¬ xR ks c r then 0 else 7) else 7) else 1) else pE Q rs a b
theorem xE_p {c : Int} (h : ¬ pE Q rs a b = 0) : xE Q rs a b c ks = pE Q rs a b := by unfold xE; rw [if_neg h]
theorem xE_1 {c : Int} (h : pE Q rs a b = 0) (h2 : ¬ (okS Q ks ∧ 0 ≤ c ∧ c ≤ 99)) : xE Q rs a b c ks = 1 := by unfold xE; rw [if_pos h, if_neg h2]
theorem xE_7 {c : Int} (h : pE Q rs a b = 0) (h2 : okS Q ks ∧ 0 ≤ c ∧ c ≤ 99) (h3 : ¬ (a ∈ ks ∧ b ∉ ks)) : xE Q rs a b c ks = 7 := by unfold xE; rw [if_pos h, if_pos h2, if_neg h3]
theorem xE_r {c : Int} (h : pE Q rs a b = 0) (h2 : okS Q ks ∧ 0 ≤ c ∧ c ≤ 99) (h3 : a ∈ ks ∧ b ∉ ks) (h4 : ¬ ∀ r ∈ rs, ¬ xR ks c r) : xE Q rs a b c ks = 7 := by unfold xE; rw [if_pos h, if_pos h2, if_pos h3, if_neg h4]
theorem xE_0 {c : Int} : xE Q rs a b c ks = 0 ↔ pE Q rs a b = 0 ∧ (okS Q ks ∧ 0 ≤ c ∧ c ≤ 99) ∧ (a ∈ ks ∧ b ∉ ks) ∧ ∀ r ∈ rs, ¬ xR ks c r := by
  constructor
  · intro h
    have h1 : pE Q rs a b = 0 := Classical.byContradiction (fun hn => by rw [xE_p hn] at h; exact hn h)
    have h2 : okS Q ks ∧ 0 ≤ c ∧ c ≤ 99 := Classical.byContradiction (fun hn => by rw [xE_1 h1 hn] at h; cases h)
    have h3 : a ∈ ks ∧ b ∉ ks := Classical.byContradiction (fun hn => by rw [xE_7 h1 h2 hn] at h; cases h)
    exact ⟨h1, h2, h3, Classical.byContradiction (fun hn => by rw [xE_r h1 h2 h3 hn] at h; cases h)⟩
  · rintro ⟨h1, h2, h3, h4⟩
    unfold xE
    rw [if_pos h1, if_pos h2, if_pos h3, if_pos h4]
theorem orE_2 (x y : Int) (hx : x = 0 ∨ x = 1) (hy : y = 0 ∨ y = 1) : orE [x, y] = if x = 0 ∧ y = 0 then 0 else 1 := by
  unfold orE orE orE
  rcases hx with rfl | rfl <;> rcases hy with rfl | rfl <;> simp
set_option maxRecDepth 20000 in
set_option maxHeartbeats 8000000 in
theorem s37 (hu : L3 A u rs) (hP : W Q) (hx : L1 A v ks) (hl : ks.length ≤ 1000000) (a b c : Int) : ACalls Try.prog 37 [.agg [I Q, u], I a, I b, I c, v] A (I (xE Q rs a b c ks)) A := by
  refine acalls hmix Try.func37 (by kernel_rfl) t37 5 rfl (by decide) ?_
  dsimp only [m37]
  simp (maxSteps := 4000000) -implicitDefEqProofs -dsimp (disch := omega) only [↓AW_ops, ↓AW_seq, ↓AOps_nil, ↓AOps_pu, ↓AOps_call, on_some, ↓then_normal, pval, rd_S, rd_C, put_S, chkd, bgot, AV.cells?, partA, eq_self, List.replicate_succ, List.replicate_zero, List.set_cons_zero, List.set_cons_succ, List.getElem?_cons_zero, List.getElem?_cons_succ, List.drop_zero, List.take_succ_cons, List.take_nil, Option.getD_some, map_c, map_n, List.length_cons, List.length_nil, Nat.reduceAdd, Nat.reduceSub, Nat.reduceLeDiff, Nat.reduceEqDiff, Nat.zero_add, List.cons_append, List.nil_append, if_true, if_false]
  refine CallK.of (s72 hu hP a b) ?_
  by_cases h0 : pE Q rs a b = 0
  case neg =>
    rw [xE_p h0]
    simp (maxSteps := 4000000) -implicitDefEqProofs -dsimp (disch := omega) only [↓AW_ops, ↓AW_seq, ↓AW_cond, ↓AW_ret, ↓AOps_nil, ↓AOps_pu, on_some, extK_same, condB_t, ↓then_normal, ↓then_ret, ↓Fin_ret, pval, rd_S, rd_C, put_S, resV, resL, List.replicate_succ, List.replicate_zero, List.set_cons_zero, List.set_cons_succ, List.getElem?_cons_zero, List.getElem?_cons_succ, Option.getD_some, Nat.reduceSub, List.cons_append, List.nil_append, bin_neq, decide_true, not_false_eq_true, h0]
    exact gc_same rfl
  have hn := (pE_0.1 h0).1
  have hp1 := hn.p1
  have hp7 := hn.p7
  have hl14 := hn.l
  simp (maxSteps := 4000000) -implicitDefEqProofs -dsimp (disch := omega) only [↓AW_skip, ↓AW_ops, ↓AW_seq, ↓AW_cond, ↓AOps_nil, ↓AOps_pu, ↓AOps_call, on_some, extK_same, condB_f, ↓then_normal, pval, rd_S, rd_C, put_S, chkd, isAdr, bgot, AV.cells?, partA, eq_self, List.replicate_succ, List.replicate_zero, List.set_cons_zero, List.set_cons_succ, List.getElem?_cons_zero, List.getElem?_cons_succ, List.drop_zero, List.take_zero, List.take_succ_cons, Option.getD_some, map_c, map_n, List.length_cons, List.length_nil, Nat.reduceAdd, Nat.reduceSub, Nat.reduceLeDiff, Nat.zero_add, List.cons_append, List.nil_append, bin_neq, if_true, if_false, Bool.false_eq_true, decide_false, not_true_eq_false, h0]
  refine CallK.of (s73 hx hl (b := Q) (by omega)) ?_
  simp (maxSteps := 4000000) -implicitDefEqProofs -dsimp (disch := omega) only [↓AOps_pu, ↓AOps_call, on_some, extK_same, pval, rd_S, put_S, List.replicate_succ, List.replicate_zero, List.set_cons_zero, List.set_cons_succ, List.getElem?_cons_zero, List.getElem?_cons_succ, Option.getD_some, map_c, map_n, Nat.reduceSub, List.cons_append, List.nil_append]
  refine CallK.of (s83 c A) ?_
  simp (maxSteps := 4000000) -implicitDefEqProofs -dsimp (disch := omega) only [↓AOps_ha, ↓AOps_call, on_some, extK_app, extK_same, hval, rd_S, put_S, AV.cells?, splice, fillA, repl, eq_self, List.replicate_succ, List.replicate_zero, List.set_cons_zero, List.set_cons_succ, List.getElem?_cons_zero, List.getElem?_cons_succ, List.drop_zero, List.drop_succ_cons, List.drop_nil, List.take_zero, List.take_succ_cons, Option.getD_some, map_c, map_n, List.length_cons, List.length_nil, Nat.reduceAdd, Nat.reduceSub, Nat.reduceLeDiff, Nat.zero_add, List.cons_append, List.nil_append, List.append_nil, if_true, and_true, List.replicate_zero, repl]
  refine CallK.of (s57 (L1_two A _ _) (by simp)) ?_
  rw [orE_2 _ _ (by split <;> simp) (by split <;> simp)]
  have hpA := pre_app A [AObj.cells true [I (if okS Q ks then 0 else 1), I (if 0 ≤ c ∧ c ≤ 99 then 0 else 1)]]
  have hxA := hx.mono hpA
  have huA := hu.mono hpA
  generalize A ++ [AObj.cells true [I (if okS Q ks then 0 else 1), I (if 0 ≤ c ∧ c ≤ 99 then 0 else 1)]] = A1 at *
  by_cases h1 : okS Q ks ∧ 0 ≤ c ∧ c ≤ 99
  case neg =>
    have : ¬ ((if okS Q ks then (0 : Int) else 1) = 0 ∧ (if 0 ≤ c ∧ c ≤ 99 then (0 : Int) else 1) = 0) := by
      rintro ⟨g1, g2⟩
      refine h1 ⟨?_, ?_⟩
      · exact Classical.byContradiction (fun hh => by rw [if_neg hh] at g1; cases g1)
      · exact Classical.byContradiction (fun hh => by rw [if_neg hh] at g2; cases g2)
    rw [if_neg this, xE_1 h0 h1]
    simp (maxSteps := 4000000) -implicitDefEqProofs -dsimp (disch := omega) only [↓AW_ops, ↓AW_seq, ↓AW_cond, ↓AW_ret, ↓AOps_nil, ↓AOps_pu, on_some, extK_same, condB_t, ↓then_normal, ↓then_ret, ↓Fin_ret, pval, rd_S, rd_C, put_S, resV, resL, List.replicate_succ, List.replicate_zero, List.set_cons_zero, List.set_cons_succ, List.getElem?_cons_zero, List.getElem?_cons_succ, Option.getD_some, Nat.reduceSub, List.cons_append, List.nil_append, bin_neq, decide_true, not_false_eq_true, Int.reduceEq]
    exact gc_val hpA rfl
  have : (if okS Q ks then (0 : Int) else 1) = 0 ∧ (if 0 ≤ c ∧ c ≤ 99 then (0 : Int) else 1) = 0 := ⟨by rw [if_pos h1.1], by rw [if_pos h1.2]⟩
  rw [if_pos this]
  simp (maxSteps := 4000000) -implicitDefEqProofs -dsimp (disch := omega) only [↓AW_skip, ↓AW_ops, ↓AW_seq, ↓AW_cond, ↓AOps_nil, ↓AOps_pu, ↓AOps_call, on_some, extK_same, condB_f, ↓then_normal, pval, rd_S, rd_C, put_S, eq_self, List.replicate_succ, List.replicate_zero, List.set_cons_zero, List.set_cons_succ, List.getElem?_cons_zero, List.getElem?_cons_succ, Option.getD_some, map_c, map_n, Nat.reduceSub, List.cons_append, List.nil_append, bin_neq, decide_false, not_true_eq_false]
  refine CallK.of (c_Contains hxA hl a) ?_
  by_cases ha : a ∈ ks
  case neg =>
    rw [decide_eq_false ha, xE_7 h0 h1 (fun hh => ha hh.1)]
    simp (maxSteps := 4000000) -implicitDefEqProofs -dsimp (disch := omega) only [↓AW_ops, ↓AW_seq, ↓AW_cond, ↓AW_ret, ↓AOps_nil, ↓AOps_pu, ↓AOps_guard, on_some, extK_same, guardB_tf, skipS_some, condB_t, ↓then_normal, ↓then_ret, ↓Fin_ret, pval, rd_S, rd_C, put_S, resV, resL, eq_self, List.replicate_succ, List.replicate_zero, List.set_cons_zero, List.set_cons_succ, List.getElem?_cons_zero, List.getElem?_cons_succ, Option.getD_some, Nat.reduceSub, List.cons_append, List.nil_append, if_true, Bool.not_false]
    exact gc_val hpA rfl
  rw [decide_eq_true ha]
  simp (maxSteps := 4000000) -implicitDefEqProofs -dsimp (disch := omega) only [↓AOps_pu, ↓AOps_call, ↓AOps_guard, on_some, extK_same, guardB_ff, pval, rd_S, put_S, List.replicate_succ, List.replicate_zero, List.set_cons_zero, List.set_cons_succ, List.getElem?_cons_zero, List.getElem?_cons_succ, Option.getD_some, map_c, map_n, Nat.reduceSub, List.cons_append, List.nil_append, Bool.not_true]
  refine CallK.of (c_Contains hxA hl b) ?_
  by_cases hb : b ∈ ks
  · rw [decide_eq_true hb, xE_7 h0 h1 (fun hh => hh.2 hb)]
    simp (maxSteps := 4000000) -implicitDefEqProofs -dsimp (disch := omega) only [↓AW_ops, ↓AW_seq, ↓AW_cond, ↓AW_ret, ↓AOps_nil, ↓AOps_pu, on_some, extK_same, condB_t, ↓then_normal, ↓then_ret, ↓Fin_ret, pval, rd_S, rd_C, put_S, resV, resL, List.replicate_succ, List.replicate_zero, List.set_cons_zero, List.set_cons_succ, List.getElem?_cons_zero, List.getElem?_cons_succ, Option.getD_some, Nat.reduceSub, List.cons_append, List.nil_append, if_false, Bool.false_eq_true]
    exact gc_val hpA rfl
  rw [decide_eq_false hb]
  simp (maxSteps := 4000000) -implicitDefEqProofs -dsimp (disch := omega) only [↓AW_skip, ↓AW_ops, ↓AW_seq, ↓AW_cond, ↓AW_block, ↓AOps_nil, ↓AOps_pu, on_some, extK_same, condB_f, ↓then_normal, pval, rd_S, rd_C, put_S, ↓AW_toLoop, chkd, isAdr, bgot, AV.cells?, partA, eq_self, List.replicate_succ, List.replicate_zero, List.set_cons_zero, List.set_cons_succ, List.getElem?_cons_zero, List.getElem?_cons_succ, List.drop_zero, List.drop_succ_cons, List.take_succ_cons, List.take_nil, Option.getD_some, List.length_cons, List.length_nil, Nat.reduceAdd, Nat.reduceSub, Nat.reduceLeDiff, Nat.zero_add, List.cons_append, List.nil_append, if_true, if_false, Bool.false_eq_true, huA.len]
  refine LoopK.by 65 (fun i : Nat => i ≤ rs.length ∧ ∀ r ∈ rs.take i, ¬ xR ks c r) (fun i => [(3, I c), (4, v), (43, u), (44, I rs.length), (45, I i)]) (fun _ => A1) (fun i => rs.length - i) 0 ⟨by omega, by simp⟩ rfl (by simp [Has, rd_s]) rfl ?_
  rintro i ⟨hi, he⟩
  by_cases hlt : i < rs.length
  · obtain ⟨z, hz⟩ : ∃ z, rs[i]? = some z := ⟨_, List.getElem?_eq_getElem hlt⟩
    have hlt' : (i : Int) < rs.length := by omega
    have hbad : xR ks c z → xE Q rs a b c ks = 7 := fun hh => xE_r h0 h1 ⟨ha, hb⟩ (fun hall => hall z (List.mem_of_getElem? hz) hh)
    simp (maxSteps := 4000000) -implicitDefEqProofs -dsimp (disch := omega) only [↓AW_skip, ↓AW_ops, ↓AW_seq, ↓AW_cond, ↓AW_block, ↓AOps_nil, ↓AOps_pu, ↓AOps_ld, ↓AOps_call, on_some, condB_t, ↓then_normal, pval, lval, rd_S, rd_C, put_S, chkd, isAdr, bput, bgot, AV.cells?, splice, partA, eq_self, mk, List.foldl_cons, List.foldl_nil, List.replicate_succ, List.replicate_zero, List.set_cons_zero, List.set_cons_succ, List.getElem?_cons_zero, List.getElem?_cons_succ, List.drop_zero, List.drop_succ_cons, List.drop_nil, List.take_zero, List.take_succ_cons, List.take_nil, Option.getD_some, map_c, map_n, List.length_cons, List.length_nil, Nat.reduceAdd, Nat.reduceLeDiff, Nat.reduceEqDiff, Nat.zero_add, List.nil_append, List.append_nil, bin_lss, if_true, if_false, Bool.false_eq_true, decide_true, ne_eq, not_true_eq_false, hlt', huA.idx hlt, huA.ld0 hz 3 true (by decide), e3]
    refine CallK.of (c_Contains hxA hl z.1) ?_
    simp (maxSteps := 4000000) -implicitDefEqProofs -dsimp (disch := omega) only [↓AOps_pu, ↓AOps_call, on_some, extK_same, pval, rd_S, put_S, chkd, isAdr, bgot, AV.cells?, partA, eq_self, mk, List.foldl_cons, List.foldl_nil, List.replicate_succ, List.replicate_zero, List.set_cons_zero, List.set_cons_succ, List.getElem?_cons_zero, List.getElem?_cons_succ, List.drop_zero, List.drop_succ_cons, List.take_zero, List.take_succ_cons, Option.getD_some, map_c, map_n, List.length_cons, List.length_nil, Nat.reduceAdd, Nat.reduceLeDiff, Nat.zero_add, if_true, if_false, Bool.false_eq_true]
    refine CallK.of (c_Contains hxA hl z.2.1) ?_
    have hxz : xR ks c z ↔ ¬ (decide (z.1 ∈ ks) = decide (z.2.1 ∈ ks)) ∧ z.2.2 ≤ c := Iff.rfl
    generalize decide (z.1 ∈ ks) = p1 at *
    generalize decide (z.2.1 ∈ ks) = p2 at *
    cases p1 <;> cases p2
    · simp (maxSteps := 4000000) -implicitDefEqProofs -dsimp (disch := omega) only [↓AW_skip, ↓AW_ops, ↓AW_cond, ↓AOps_nil, ↓AOps_pu, ↓AOps_guard, on_some, extK_same, guardB_ft, skipS_some, condB_f, ↓then_normal, ↓inBlock_normal, pval, rd_S, rd_C, put_S, beq_self_eq_true, eq_self, mk, List.foldl_cons, List.foldl_nil, List.replicate_succ, List.replicate_zero, List.set_cons_zero, List.set_cons_succ, List.getElem?_cons_zero, List.getElem?_cons_succ, Option.getD_some, List.length_cons, List.length_nil, Nat.reduceAdd, Nat.zero_add, bin_add, w64, if_true, if_false, Bool.false_eq_true, Bool.not_true, true_and]
      exact ⟨i + 1, ⟨hlt, all_take he hz (fun hh => (hxz.1 hh).1 rfl)⟩, by simp [Has, rd_s], by omega⟩
    · by_cases hc : z.2.2 ≤ c
      · rw [hbad (hxz.2 ⟨by simp, hc⟩)]
        simp (maxSteps := 4000000) -implicitDefEqProofs -dsimp (disch := omega) only [↓AW_ops, ↓AW_seq, ↓AW_cond, ↓AW_ret, ↓AOps_nil, ↓AOps_pu, ↓AOps_guard, on_some, extK_same, guardB_tt, condB_t, ↓then_normal, ↓then_ret, ↓inBlock_ret, ↓Fin_ret, pval, rd_S, rd_C, put_S, resV, resL, chkd, isAdr, bgot, AV.cells?, partA, eq_self, mk, List.foldl_cons, List.foldl_nil, List.replicate_succ, List.replicate_zero, List.set_cons_zero, List.set_cons_succ, List.getElem?_cons_zero, List.getElem?_cons_succ, List.drop_zero, List.drop_succ_cons, List.take_succ_cons, List.take_nil, Option.getD_some, List.length_cons, List.length_nil, Nat.reduceAdd, Nat.reduceLeDiff, Nat.zero_add, bin_leq, if_true, if_false, Bool.false_eq_true, Bool.not_false, decide_true, bq2, hc]
        exact gc_val hpA rfl
      · simp (maxSteps := 4000000) -implicitDefEqProofs -dsimp (disch := omega) only [↓AW_skip, ↓AW_ops, ↓AW_cond, ↓AOps_nil, ↓AOps_pu, ↓AOps_guard, on_some, extK_same, guardB_tt, condB_f, ↓then_normal, ↓inBlock_normal, pval, rd_S, rd_C, put_S, chkd, isAdr, bgot, AV.cells?, partA, eq_self, mk, List.foldl_cons, List.foldl_nil, List.replicate_succ, List.replicate_zero, List.set_cons_zero, List.set_cons_succ, List.getElem?_cons_zero, List.getElem?_cons_succ, List.drop_zero, List.drop_succ_cons, List.take_succ_cons, List.take_nil, Option.getD_some, List.length_cons, List.length_nil, Nat.reduceAdd, Nat.reduceLeDiff, Nat.zero_add, bin_add, bin_leq, w64, if_true, if_false, Bool.false_eq_true, Bool.not_false, decide_false, true_and, bq2, hc]
        exact ⟨i + 1, ⟨hlt, all_take he hz (fun hh => hc (hxz.1 hh).2)⟩, by simp [Has, rd_s], by omega⟩
    · by_cases hc : z.2.2 ≤ c
      · rw [hbad (hxz.2 ⟨by simp, hc⟩)]
        simp (maxSteps := 4000000) -implicitDefEqProofs -dsimp (disch := omega) only [↓AW_ops, ↓AW_seq, ↓AW_cond, ↓AW_ret, ↓AOps_nil, ↓AOps_pu, ↓AOps_guard, on_some, extK_same, guardB_tt, condB_t, ↓then_normal, ↓then_ret, ↓inBlock_ret, ↓Fin_ret, pval, rd_S, rd_C, put_S, resV, resL, chkd, isAdr, bgot, AV.cells?, partA, eq_self, mk, List.foldl_cons, List.foldl_nil, List.replicate_succ, List.replicate_zero, List.set_cons_zero, List.set_cons_succ, List.getElem?_cons_zero, List.getElem?_cons_succ, List.drop_zero, List.drop_succ_cons, List.take_succ_cons, List.take_nil, Option.getD_some, List.length_cons, List.length_nil, Nat.reduceAdd, Nat.reduceLeDiff, Nat.zero_add, bin_leq, if_true, if_false, Bool.false_eq_true, Bool.not_false, decide_true, bq1, hc]
        exact gc_val hpA rfl
      · simp (maxSteps := 4000000) -implicitDefEqProofs -dsimp (disch := omega) only [↓AW_skip, ↓AW_ops, ↓AW_cond, ↓AOps_nil, ↓AOps_pu, ↓AOps_guard, on_some, extK_same, guardB_tt, condB_f, ↓then_normal, ↓inBlock_normal, pval, rd_S, rd_C, put_S, chkd, isAdr, bgot, AV.cells?, partA, eq_self, mk, List.foldl_cons, List.foldl_nil, List.replicate_succ, List.replicate_zero, List.set_cons_zero, List.set_cons_succ, List.getElem?_cons_zero, List.getElem?_cons_succ, List.drop_zero, List.drop_succ_cons, List.take_succ_cons, List.take_nil, Option.getD_some, List.length_cons, List.length_nil, Nat.reduceAdd, Nat.reduceLeDiff, Nat.zero_add, bin_add, bin_leq, w64, if_true, if_false, Bool.false_eq_true, Bool.not_false, decide_false, true_and, bq1, hc]
        exact ⟨i + 1, ⟨hlt, all_take he hz (fun hh => hc (hxz.1 hh).2)⟩, by simp [Has, rd_s], by omega⟩
    · simp (maxSteps := 4000000) -implicitDefEqProofs -dsimp (disch := omega) only [↓AW_skip, ↓AW_ops, ↓AW_cond, ↓AOps_nil, ↓AOps_pu, ↓AOps_guard, on_some, extK_same, guardB_ft, skipS_some, condB_f, ↓then_normal, ↓inBlock_normal, pval, rd_S, rd_C, put_S, beq_self_eq_true, eq_self, mk, List.foldl_cons, List.foldl_nil, List.replicate_succ, List.replicate_zero, List.set_cons_zero, List.set_cons_succ, List.getElem?_cons_zero, List.getElem?_cons_succ, Option.getD_some, List.length_cons, List.length_nil, Nat.reduceAdd, Nat.zero_add, bin_add, w64, if_true, if_false, Bool.false_eq_true, Bool.not_true, true_and]
      exact ⟨i + 1, ⟨hlt, all_take he hz (fun hh => (hxz.1 hh).1 rfl)⟩, by simp [Has, rd_s], by omega⟩
  · have hlt' : ¬ ((i : Int) < rs.length) := by omega
    rw [List.take_of_length_le (by omega)] at he
    rw [xE_0.2 ⟨h0, h1, ⟨ha, hb⟩, he⟩]
    simp (maxSteps := 4000000) -implicitDefEqProofs -dsimp (disch := omega) only [↓AW_ops, ↓AW_seq, ↓AW_cond, ↓AW_exit, ↓AW_ret, ↓AOps_nil, ↓AOps_pu, on_some, condB_f, ↓then_normal, ↓then_exit, ↓inBlock_exit, ↓Fin_ret, pval, rd_S, rd_C, put_S, resV, resL, eq_self, mk, List.foldl_cons, List.foldl_nil, List.replicate_succ, List.replicate_zero, List.set_cons_zero, List.set_cons_succ, List.getElem?_cons_zero, List.getElem?_cons_succ, Option.getD_some, bin_lss, if_true, decide_false, hlt']
    exact gc_val hpA rfl
end
end Go.Proofs.Ytkgfcdpckfhknaa

namespace Go.Proofs.Ytkgfcdpckfhknaa
open Go Go.Eng
section
variable {P : Nat} {rs : List Rd} {ks : List Int} {u v : AV} {A : AHeap}
/-- Joined by all roads up to a cost. -/
theorem cnT_all {xs : List Rd} {t a b : Int} : cnT xs (nums xs) t a b ↔ Cn (xs.filter (fun r => decide (r.2.2 ≤ t))) a b := by
  unfold cnT
  refine Cn.iff (fun e => ?_)
  rw [List.mem_map, List.mem_filter, decide_eq_true_eq]
  constructor
  · rintro ⟨k, hk, rfl⟩
    rw [mem_upTo, mem_plc] at hk
    exact ⟨(rdx_at hk.1.1 (by omega)).2, hk.2⟩
  · rintro ⟨he, ht⟩
    obtain ⟨i, hi, rfl⟩ := List.mem_iff_getElem.1 he
    have hr : rdx xs (i : Int) = xs[i] := by
      unfold rdx
      rw [Int.toNat_natCast, List.getElem?_eq_getElem hi]
      rfl
    refine ⟨(i : Int), ?_, hr⟩
    rw [mem_upTo, mem_plc]
    refine ⟨by omega, ?_⟩
    show (rdx xs (i : Int)).2.2 ≤ t
    rw [hr]
    exact ht
end
end Go.Proofs.Ytkgfcdpckfhknaa

namespace Go.Proofs.Ytkgfcdpckfhknaa
open Go Go.Eng
theorem fpos_in {p : Int} {l : List Int} (h : p ∈ l) : ∃ k : Nat, k < l.length ∧ fpos (fun y => decide (p = y)) l = k ∧ l[k]? = some p := by
  obtain ⟨k, hk⟩ : ∃ k, l.findIdx? (fun y => decide (p = y)) = some k := by
    cases hf : l.findIdx? (fun y => decide (p = y)) with
    | some k => exact ⟨k, rfl⟩
    | none =>
      rw [List.findIdx?_eq_none_iff] at hf
      have := hf p h
      simp at this
  have hk2 := hk
  rw [List.findIdx?_eq_some_iff_getElem] at hk2
  obtain ⟨h1, h2, _⟩ := hk2
  refine ⟨k, h1, by unfold fpos; rw [hk], ?_⟩
  rw [List.getElem?_eq_getElem h1]
  have : p = l[k] := by simpa using h2
  rw [← this]
theorem repl_zero (n : Nat) : repl [AV.int .i64 0] n = (List.replicate n (0 : Int)).flatMap Go.Eng.e1 := by
  induction n with
  | zero => rfl
  | succ n ih => rw [repl, ih, List.replicate_succ, List.flatMap_cons]; rfl
theorem app_fresh {α : Type} {es : Nat} {e : α → List AV} {B : AHeap} {y : AV} {ys : List α} (hy : Ls es e B y ys) {n : Nat} (hn : B[n]? = some (.cells true [])) (h0 : 0 < ys.length) (hl : ys.length ≤ lim) :
    appA es B (.sl es n 0 0 true) y = some (.sl es B.length 0 ys.length false, B ++ [.cells true (ys.flatMap e)]) := by
  unfold appA
  rw [hy.hc]
  have : ys.length ≠ 0 := by omega
  simp [this, hn, hl]
/-- Cells that are cleared. -/
def clA (es : Nat) (zero : List AV) (x : AV) (H : AHeap) : Option AHeap :=
  match x with
    | .nilS => some H
    | .sl es' n off len _ => if len = 0 then some H else if es' = es then match H[n]? with
        | some (.cells true l) => if off + len * es ≤ l.length then some (H.set n (.cells true (splice l off (repl zero len)))) else none
        | _ => none
      else none
    | _ => none
theorem hval_clr (es : Nat) (zero : List AV) (x : Opd) (S : List AV) (H : AHeap) : hval (.clr es zero x) S H = (clA es zero (rd S x) H).map (fun H' => (undefA, H')) := by
  simp only [hval, clA]
  cases rd S x with
  | sl es' n off len full =>
    simp only
    by_cases h0 : len = 0
    · simp [h0]
    · by_cases h1 : es' = es
      · simp only [h0, h1, if_true, if_false]
        cases H[n]? with
        | none => rfl
        | some o =>
          cases o with
          | cells rw l =>
            cases rw
            · rfl
            · simp only
              split <;> rfl
          | _ => rfl
      · simp [h0, h1]
  | nilS => rfl
  | _ => rfl
theorem OL_clr {A H : AHeap} {n : Nat} {v : AV} {xs : List Int} (h : OL 1 e1 A H n v xs) (i : Nat) (hi : i ≤ xs.length) (full : Bool) :
    clA 1 [.int .i64 0] (.sl 1 n (i * 1) (xs.length - i) full) H = some (H.set n (.cells true ((xs.take i ++ List.replicate (xs.length - i) 0).flatMap e1))) := by
  have hl := flatMap_length e1_len xs
  unfold clA
  by_cases h0 : xs.length - i = 0
  · have : i = xs.length := by omega
    simp only [h0, if_true]
    rw [List.replicate_zero, List.append_nil, List.take_of_length_le (by omega), set_same h.ob]
  · simp only [h0, if_false, if_true, h.ob]
    rw [if_pos (by omega), repl_zero]
    congr 2
    congr 1
    unfold splice
    have h1 := flat_take e1_len xs i hi
    rw [h1, flatMap_length e1_len, List.length_replicate, List.flatMap_append, List.append_assoc]
    congr 1
    rw [List.drop_of_length_le (by omega), List.append_nil]
theorem s103 {x p : Int} {A : AHeap} {a : Nat} (h : ldA 1 false (.ptr a 0) A = some (I p)) : ACalls Try.prog 103 [I x, .ptr a 0] A (B (decide (x = p))) A := by
  refine acalls hmix Try.func103 (by kernel_rfl) t103 2 rfl (by decide) ?_
  dsimp only [m103]
  simp (maxSteps := 4000000) -implicitDefEqProofs -dsimp (disch := omega) only [↓AW_ops, ↓AW_seq, ↓AW_ret, ↓AOps_nil, ↓AOps_pu, ↓AOps_ld, on_some, ↓then_normal, ↓Fin_ret, pval, lval, rd_S, rd_C, put_S, resV, resL, List.replicate_succ, List.replicate_zero, List.set_cons_zero, List.set_cons_succ, List.getElem?_cons_zero, List.getElem?_cons_succ, Option.getD_some, Nat.reduceSub, List.cons_append, List.nil_append, bin_eql, h]
  exact gc_same rfl
def without (l : List Int) (p : Int) : List Int := l.filter (fun x => !decide (x = p))
theorem without_take {l : List Int} {j : Nat} {z p : Int} (h : l[j]? = some z) : without (l.take (j + 1)) p = without (l.take j) p ++ if z = p then [] else [z] := by
  unfold without
  rw [List.take_add_one, h, List.filter_append]
  by_cases hz : z = p <;> simp [hz]
theorem without_le (l : List Int) (p : Int) : (without l p).length ≤ l.length := List.length_filter_le _ _
set_option maxHeartbeats 1000000 in
theorem s101 {A H : AHeap} {n a : Nat} {full : Bool} {xs : List Int} {p : Int} (h : OL 1 e1 A H n (.sl 1 n 0 xs.length full) xs) (hl : xs.length ≤ 1000) (ha : a ≠ n) (hp : ldA 1 false (.ptr a 0) H = some (I p)) :
    ACalls Try.prog 101 [.sl 1 n 0 xs.length full, .fn 103 [.ptr a 0]] H (.sl 1 n 0 (without xs p).length (full && ((without xs p).length == xs.length))) (H.set n (.cells true ((without xs p ++ List.replicate (xs.length - (without xs p).length) 0).flatMap e1))) := by
  refine acalls hmix Try.func101 (by kernel_rfl) t101 2 rfl (by decide) ?_
  have hpk : ∀ ys : List Int, ldA 1 false (.ptr a 0) (H.set n (.cells true (ys.flatMap e1))) = some (I p) := fun ys => by
    unfold ldA at hp ⊢
    simp only at hp ⊢
    rw [List.getElem?_set_ne (Ne.symm ha)]
    exact hp
  have hln : ∀ k, lenA (.sl 1 n 0 k full) = some (I k) := fun k => rfl
  dsimp only [m101]
  simp (maxSteps := 4000000) -implicitDefEqProofs -dsimp (disch := omega) only [↓AW_ops, ↓AW_seq, ↓AOps_nil, ↓AOps_pu, ↓AOps_call, on_some, ↓then_normal, pval, rd_S, rd_C, put_S, List.replicate_succ, List.replicate_zero, List.set_cons_zero, List.set_cons_succ, List.getElem?_cons_zero, List.getElem?_cons_succ, Option.getD_some, map_c, map_n, Nat.reduceSub, List.cons_append, List.nil_append]
  refine CallK.of (c_IndexFunc h.ls (by omega) 103 [.ptr a 0] (fun x => decide (x = p)) (fun x _ => s103 hp)) ?_
  by_cases hmem : p ∈ xs
  · obtain ⟨i0, hi0, hf, hz0⟩ := fpos_in hmem
    have hfe : fpos (fun x => decide (x = p)) xs = i0 := by
      rw [← hf]; congr 1; funext y; rw [decide_eq_decide]; exact ⟨fun e => e.symm, fun e => e.symm⟩
    rw [hfe]
    have hne : ¬ (i0 : Int) = -1 := by omega
    have hpre : ∀ y ∈ xs.take i0, y ≠ p := fun y hy e => by
      have h2 : xs.findIdx? (fun y => decide (p = y)) = some i0 := by
        unfold fpos at hf
        cases hh : xs.findIdx? (fun y => decide (p = y)) with
        | none => rw [hh] at hf; simp at hf
        | some k => rw [hh] at hf; simp at hf; congr 1; omega
      rw [List.findIdx?_eq_some_iff_getElem] at h2
      obtain ⟨_, _, h3⟩ := h2
      obtain ⟨j, hj, he⟩ := List.mem_take_iff_getElem.1 hy
      have := h3 j (by omega)
      rw [he, e] at this
      simp at this
    have hw0 : without (xs.take i0) p = xs.take i0 := by
      unfold without
      rw [List.filter_eq_self]
      intro y hy
      simp [hpre y hy]
    have hw1 : without (xs.take (i0 + 1)) p = xs.take i0 := by rw [without_take hz0, if_pos rfl, hw0, List.append_nil]
    simp (maxSteps := 4000000) -implicitDefEqProofs -dsimp (disch := omega) only [↓AW_skip, ↓AW_ops, ↓AW_seq, ↓AW_cond, ↓AW_block, ↓AOps_nil, ↓AOps_pu, on_some, extK_same, condB_f, ↓then_normal, pval, rd_S, rd_C, put_S, ↓AW_toLoop, List.replicate_succ, List.replicate_zero, List.set_cons_zero, List.set_cons_succ, List.getElem?_cons_zero, List.getElem?_cons_succ, Option.getD_some, Nat.reduceSub, List.cons_append, List.nil_append, bin_add, bin_eql, w64, decide_false, Int.reduceNeg, hne]
    refine LoopK.by 42 (fun x : Nat × Nat × List Int => (x.2.1 ≤ xs.length ∧ x.1 < x.2.1) ∧ x.2.2.length = xs.length ∧ x.2.2.take x.1 = without (xs.take x.2.1) p ∧ x.2.2.drop x.2.1 = xs.drop x.2.1) (fun x => [(0, .sl 1 n 0 xs.length full), (1, .fn 103 [.ptr a 0]), (5, I x.1), (6, I x.2.1)]) (fun x => H.set n (.cells true (x.2.2.flatMap e1))) (fun x => xs.length - x.2.1) (i0, i0 + 1, xs) ⟨by simp only; omega, rfl, hw1.symm, rfl⟩ rfl (by simp [Has, rd_s]) (by simp only; rw [set_same h.ob]) ?_
    rintro ⟨i, j, ys⟩ ⟨⟨hj, hij⟩, hyl, hyt, hyd⟩
    simp only at hj hij hyl hyt hyd
    have ho := OL_setAll h ys hyl
    have hwl : (without (xs.take j) p).length = i := by rw [← hyt, List.length_take]; omega
    by_cases hlt : j < xs.length
    · have hlt' : (j : Int) < xs.length := by omega
      obtain ⟨z, hz⟩ : ∃ z, xs[j]? = some z := ⟨_, List.getElem?_eq_getElem hlt⟩
      have hzy : ys[j]? = some z := by
        have : (ys.drop j)[0]? = (xs.drop j)[0]? := by rw [hyd]
        rw [List.getElem?_drop, List.getElem?_drop, Nat.add_zero] at this
        rw [this]; exact hz
      have hjy : j < ys.length := by omega
      have hiy : i < ys.length := by omega
      simp (maxSteps := 4000000) -implicitDefEqProofs -dsimp (disch := omega) only [↓AW_skip, ↓AW_ops, ↓AW_seq, ↓AW_cond, ↓AW_block, ↓AOps_nil, ↓AOps_pu, ↓AOps_ld, ↓AOps_callv, on_some, CallF_fn, condB_t, ↓then_normal, pval, lval, rd_S, put_S, partA, eq_self, mk, List.foldl_cons, List.foldl_nil, List.replicate_succ, List.replicate_zero, List.set_cons_zero, List.set_cons_succ, List.getElem?_cons_zero, List.getElem?_cons_succ, List.drop_zero, List.take_succ_cons, List.take_nil, Option.getD_some, map_c, map_n, List.length_cons, List.length_nil, Nat.reduceLeDiff, Nat.zero_add, List.cons_append, List.nil_append, bin_lss, if_true, if_false, Bool.false_eq_true, decide_true, Go.Eng.e1, hlt', hln, ho.ls.idx hjy, ho.ls.ld0 hzy 1 false (by decide)]
      refine CallK.of (s103 (hpk ys)) ?_
      by_cases hzp : z = p
      · simp (maxSteps := 4000000) -implicitDefEqProofs -dsimp (disch := omega) only [↓AW_skip, ↓AW_ops, ↓AW_cond, ↓AOps_nil, ↓AOps_pu, on_some, extK_same, condB_f, ↓then_normal, ↓inBlock_normal, pval, rd_S, rd_C, put_S, eq_self, mk, List.foldl_cons, List.foldl_nil, List.replicate_succ, List.replicate_zero, List.set_cons_zero, List.set_cons_succ, List.getElem?_cons_zero, List.getElem?_cons_succ, Option.getD_some, List.length_cons, List.length_nil, Nat.reduceAdd, Nat.zero_add, bin_add, w64, Bool.not_true, decide_true, true_and, hzp]
        refine ⟨(i, j + 1, ys), ⟨⟨hlt, by simp only; omega⟩, hyl, ?_, ?_⟩, by simp [Has, rd_s], rfl, by simp only; omega⟩
        · simp only; rw [without_take hz, if_pos hzp, List.append_nil]; exact hyt
        · simp only
          rw [← List.drop_drop, ← List.drop_drop, hyd]
      · have hst := ho.st hiy (I z) z rfl
        rw [List.set_set] at hst
        simp (maxSteps := 4000000) -implicitDefEqProofs -dsimp (disch := omega) only [↓AW_ops, ↓AW_seq, ↓AW_cond, ↓AOps_nil, ↓AOps_pu, ↓AOps_ha, on_some, extK_false, extK_same, condB_t, ↓then_normal, ↓inBlock_normal, pval, hval_st, rd_S, rd_C, put_S, putS_none, eq_self, mk, List.foldl_cons, List.foldl_nil, List.replicate_succ, List.replicate_zero, List.set_cons_zero, List.set_cons_succ, List.getElem?_cons_zero, List.getElem?_cons_succ, Option.getD_some, Option.map_some, List.length_cons, List.length_nil, Nat.reduceAdd, Nat.zero_add, bin_add, w64, Bool.not_false, decide_false, true_and, hzp, ho.ls.idx hiy, hst]
        refine ⟨(i + 1, j + 1, ys.set i z), ⟨⟨hlt, by simp only; omega⟩, by simp [hyl], ?_, ?_⟩, by simp [Has, rd_s], rfl, by simp only; omega⟩
        · simp only
          rw [without_take hz, if_neg hzp, ← hyt, List.take_add_one, List.getElem?_set_self hiy, Option.toList_some, List.take_set_of_le (Nat.le_refl _)]
        · simp only
          rw [List.drop_set_of_lt (by omega), ← List.drop_drop, ← List.drop_drop, hyd]
    · have hlt' : ¬ ((j : Int) < xs.length) := by omega
      have hjj : j = xs.length := by omega
      rw [show xs.take j = xs from List.take_of_length_le (by omega)] at hyt hwl
      have hs1 : slcA 1 (.sl 1 n 0 xs.length full) (some (I i)) none none = some (.sl 1 n (i * 1) (xs.length - i) full) := by
        have : i ≤ xs.length := by omega
        simp [slcA, bnd, this]
      have hs2 : slcA 1 (.sl 1 n 0 xs.length full) none (some (I i)) none = some (.sl 1 n 0 i (full && (i == xs.length))) := by
        have : i ≤ xs.length := by omega
        simp [slcA, bnd, this]
      have hc := OL_clr ho i (by omega) full
      rw [hyl, List.set_set, hyt] at hc
      simp (maxSteps := 4000000) -implicitDefEqProofs -dsimp (disch := omega) only [↓AW_ops, ↓AW_seq, ↓AW_cond, ↓AW_exit, ↓AW_ret, ↓AOps_nil, ↓AOps_pu, ↓AOps_ha, on_some, extK_false, condB_f, ↓then_normal, ↓then_exit, ↓inBlock_exit, ↓Fin_ret, pval, rd_S, put_S, putS_none, resV, resL, eq_self, mk, List.foldl_cons, List.foldl_nil, List.replicate_succ, List.replicate_zero, List.set_cons_zero, List.set_cons_succ, List.getElem?_cons_zero, List.getElem?_cons_succ, Option.getD_some, Option.map_some, Option.map_none, bin_lss, if_true, decide_false, hlt', hln, hs1, hval_clr, hc, hs2]
      exact gc_same_all (by rw [hwl]) (by rw [hwl])
  · have hfe : fpos (fun x => decide (x = p)) xs = -1 := fpos_none (fun y hy => by
      rw [decide_eq_false_iff_not]; rintro rfl; exact hmem hy)
    rw [hfe]
    have hw : without xs p = xs := by
      unfold without
      rw [List.filter_eq_self]
      intro y hy
      have : y ≠ p := by rintro rfl; exact hmem hy
      simp [this]
    simp (maxSteps := 4000000) -implicitDefEqProofs -dsimp (disch := omega) only [↓AW_ops, ↓AW_seq, ↓AW_cond, ↓AW_ret, ↓AOps_nil, ↓AOps_pu, on_some, extK_same, condB_t, ↓then_normal, ↓then_ret, ↓Fin_ret, pval, rd_S, rd_C, put_S, resV, resL, eq_self, List.replicate_succ, List.replicate_zero, List.set_cons_zero, List.set_cons_succ, List.getElem?_cons_zero, List.getElem?_cons_succ, Option.getD_some, Nat.reduceSub, List.cons_append, List.nil_append, bin_eql, decide_true, Int.reduceNeg]
    refine gc_same_all (by rw [hw]; simp) ?_
    rw [hw, Nat.sub_self, List.replicate_zero, List.append_nil, set_same h.ob]
theorem s102 {A : AHeap} {v : AV} {xs : List Int} (hx : L1 A v xs) (h0 : 0 < xs.length) (hl : xs.length ≤ 1000) : ACalls Try.prog 102 [v] A (.sl 1 (A.length + 1) 0 xs.length false) (A ++ [.cells true [], .cells true (xs.flatMap e1)]) := by
  refine acalls hmix Try.func102 (by kernel_rfl) t102 1 rfl (by decide) ?_
  rcases hx.inv with ⟨rfl, rfl⟩ | ⟨n, off, full, rw, l, rfl, h1, h2, h3⟩
  · simp at h0
  · have happ := app_fresh (hx.mono (pre_app A [.cells true []])) (get_new A (.cells true [])) h0 (by simp [lim]; omega)
    rw [List.length_append, List.length_singleton] at happ
    dsimp only [m102]
    simp (maxSteps := 4000000) -implicitDefEqProofs -dsimp (disch := omega) only [↓AW_skip, ↓AW_ops, ↓AW_seq, ↓AW_cond, ↓AW_ret, ↓AOps_nil, ↓AOps_pu, ↓AOps_ha, on_some, extK_app, condB_f, ↓then_normal, ↓Fin_ret, pval, hval_blds, hval_app, rd_S, rd_C, put_S, resV, resL, fillA, repl, List.replicate_succ, List.replicate_zero, List.set_cons_zero, List.set_cons_succ, List.getElem?_cons_zero, List.getElem?_cons_succ, Option.getD_some, map_n, Nat.reduceSub, List.cons_append, List.nil_append, List.replicate_zero, repl, happ]
    exact gc_same_all rfl (by simp)
/-- A list without a road. -/
theorem s63 {A : AHeap} {v : AV} {xs : List Int} (hx : L1 A v xs) (h0 : 0 < xs.length) (hl : xs.length ≤ 1000) (k : Int) : ∃ r H, ACalls Try.prog 63 [v, I k] A r H ∧ A <+: H ∧ L1 H r (without xs k) := by
  refine acallsR hmix Try.func63 (by kernel_rfl) t63 _ 2 rfl (by decide) ?_
  have hpA := pre_app A [AObj.cells true [I k]]
  dsimp only [m63]
  simp (maxSteps := 4000000) -implicitDefEqProofs -dsimp (disch := omega) only [↓AW_ops, ↓AW_seq, ↓AOps_nil, ↓AOps_pu, ↓AOps_ha, ↓AOps_call, on_some, extK_app, ↓then_normal, pval, hval_newv, rd_S, rd_C, put_S, cells_int, List.replicate_succ, List.replicate_zero, List.set_cons_zero, List.set_cons_succ, List.getElem?_cons_zero, List.getElem?_cons_succ, Option.getD_some, map_c, map_n, Nat.reduceSub, List.cons_append, List.nil_append]
  refine CallK.of (s102 (hx.mono hpA) h0 hl) ?_
  have hpB := pre_app (A ++ [AObj.cells true [I k]]) [AObj.cells true [], AObj.cells true (xs.flatMap e1)]
  have hOL : OL 1 e1 A (A ++ [AObj.cells true [I k]] ++ [AObj.cells true [], AObj.cells true (xs.flatMap e1)]) ((A ++ [AObj.cells true [I k]]).length + 1) (.sl 1 ((A ++ [AObj.cells true [I k]]).length + 1) 0 xs.length false) xs := by
    have h0 := OL.new_mk e1_len (A ++ [AObj.cells true [I k]] ++ [AObj.cells true []]) xs false
    have q1 : A ++ [AObj.cells true [I k]] ++ [AObj.cells true []] ++ [AObj.cells true (xs.flatMap e1)] = A ++ [AObj.cells true [I k]] ++ [AObj.cells true [], AObj.cells true (xs.flatMap e1)] := by simp
    have q2 : (A ++ [AObj.cells true [I k]] ++ [AObj.cells true []]).length = (A ++ [AObj.cells true [I k]]).length + 1 := by simp
    rw [q1, q2] at h0
    exact ⟨h0.he, hpA.trans hpB, by simp; omega, h0.ob, h0.v⟩
  have hld : ldA 1 false (.ptr A.length 0) (A ++ [AObj.cells true [I k]] ++ [AObj.cells true [], AObj.cells true (xs.flatMap e1)]) = some (I k) := ld_mono hpB (by simp [ldA, partA])
  have h101 := s101 (p := k) hOL hl (a := A.length) (by simp; omega) hld
  simp (maxSteps := 4000000) -implicitDefEqProofs -dsimp (disch := omega) only [↓AOps_pu, ↓AOps_call, on_some, extK_app, pval, rd_S, put_S, List.replicate_succ, List.replicate_zero, List.set_cons_zero, List.set_cons_succ, List.getElem?_cons_zero, List.getElem?_cons_succ, Option.getD_some, map_c, map_n, Nat.reduceSub, List.cons_append, List.nil_append]
  refine CallK.of h101 ?_
  have hw := without_le xs k
  simp (maxSteps := 4000000) -implicitDefEqProofs -dsimp (disch := omega) only [↓AW_ret, ↓AOps_nil, ↓AOps_pu, on_some, extK_false, ↓then_normal, ↓FinR_ret, pval, rd_S, put_S, resV, resL, List.replicate_succ, List.replicate_zero, List.set_cons_zero, List.set_cons_succ, List.getElem?_cons_zero, List.getElem?_cons_succ, Option.getD_some, Nat.reduceSub, List.cons_append, List.nil_append, Bool.false_and]
  refine ⟨_, _, gc_all, ?_, ?_⟩
  · exact pre_set (hpA.trans hpB) (by simp; omega) _
  · refine ⟨e1_len, ?_⟩
    have hlen : ((A ++ [AObj.cells true [I k]]).length + 1) < (A ++ [AObj.cells true [I k]] ++ [AObj.cells true [], AObj.cells true (xs.flatMap e1)]).length := by simp
    have hfl := flatMap_length e1_len (without xs k)
    simp only [slCells, cellsAt, List.getElem?_set_self hlen, if_true]
    rw [if_pos (by rw [flatMap_length e1_len, List.length_append, List.length_replicate]; omega)]
    simp only [Option.map_some, Option.some.injEq, Prod.mk.injEq, true_and, List.flatMap_append, List.drop_zero]
    rw [← hfl, List.take_left]
end Go.Proofs.Ytkgfcdpckfhknaa

