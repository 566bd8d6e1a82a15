/- Wishes: which are valid, and which givings, as the document says it. No conditions. -/
import Derived.Test.YtlmbobbefgcolaaW1
namespace Go.Proofs.Ytlmbobbefgcolaa
open Go Go.Eng

theorem all_take {α : Type} {p : α → Prop} {l : List α} {i : Nat} {z : α} (h : ∀ y ∈ l.take i, p y) (hz : l[i]? = some z) (hp : p z) : ∀ y ∈ l.take (i + 1), p y := by
  intro y hy
  rw [List.take_add_one, hz] at hy
  rcases List.mem_append.1 hy with hy | hy
  · exact h y hy
  · have : y = z := by simpa using hy
    rw [this]; exact hp

theorem s40 {P : Int} {ws : List (AV × List Int)} {v : AV} {A : AHeap} (hw : LL A v ws) (hs : Sz ws) : ACalls Try.prog 40 [.agg [I P, v]] A (I (vW P (lists ws))) A := by
  refine acalls hmix Try.func40 (by kernel_rfl) t40 1 rfl (by decide) ?_
  obtain ⟨hs1, hs2⟩ := hs
  dsimp only [m40]
  simp (maxSteps := 4000000) -implicitDefEqProofs -dsimp (disch := omega) only [↓AW_ops, ↓AW_seq, ↓AOps_nil, ↓AOps_pu, ↓AOps_call, on_some, ↓then_normal, pval, rd_S, rd_C, put_S, chkd, isAdr, bgot, AV.cells?, partA, eq_self, List.replicate_succ, List.replicate_zero, List.set_cons_zero, List.set_cons_succ, List.getElem?_cons_zero, List.getElem?_cons_succ, List.drop_zero, List.take_zero, List.take_succ_cons, Option.getD_some, map_c, map_n, List.length_cons, List.length_nil, Nat.reduceAdd, Nat.reduceSub, Nat.reduceLeDiff, Nat.zero_add, List.cons_append, List.nil_append, if_true, if_false, Bool.false_eq_true]
  refine CallK.of (s64 _ _ _ _) ?_
  by_cases h1 : 1 ≤ P ∧ P ≤ 7
  · simp (maxSteps := 4000000) -implicitDefEqProofs -dsimp (disch := omega) only [↓AW_skip, ↓AW_ops, ↓AW_seq, ↓AW_cond, ↓AOps_nil, ↓AOps_pu, on_some, extK_same, condB_f, ↓then_normal, pval, rd_S, rd_C, put_S, chkd, isAdr, bgot, AV.cells?, partA, eq_self, List.replicate_succ, List.replicate_zero, List.set_cons_zero, List.set_cons_succ, List.getElem?_cons_zero, List.getElem?_cons_succ, List.drop_zero, List.drop_succ_cons, List.take_succ_cons, List.take_nil, Option.getD_some, List.length_cons, List.length_nil, Nat.reduceAdd, Nat.reduceSub, Nat.reduceLeDiff, Nat.zero_add, List.cons_append, List.nil_append, bin_gtr, if_true, if_false, Bool.false_eq_true, Bool.not_true, decide_true, and_true, h1, hw.ls.len]
    by_cases h3 : (7 : Int) < ws.length
    · simp (maxSteps := 4000000) -implicitDefEqProofs -dsimp (disch := omega) only [↓AW_ops, ↓AW_seq, ↓AW_ret, ↓AOps_nil, ↓AOps_pu, on_some, condB_t, ↓then_normal, ↓then_ret, ↓Fin_ret, pval, rd_S, rd_C, put_S, resV, resL, List.replicate_succ, List.replicate_zero, List.set_cons_zero, List.set_cons_succ, List.getElem?_cons_zero, List.getElem?_cons_succ, Option.getD_some, Nat.reduceSub, List.cons_append, List.nil_append, decide_true, h3]
      exact gc_same (by rw [vW_n h1 (by simp; omega)])
    · simp (maxSteps := 4000000) -implicitDefEqProofs -dsimp (disch := omega) only [↓AW_skip, ↓AW_ops, ↓AW_seq, ↓AW_block, ↓AOps_nil, ↓AOps_pu, on_some, condB_f, ↓then_normal, pval, rd_C, put_S, ↓AW_toLoop, List.replicate_succ, List.replicate_zero, List.set_cons_zero, List.set_cons_succ, Nat.reduceSub, List.cons_append, List.nil_append, decide_false, h3]
      rw [vW_l h1 (by simp; omega)]
      refine LoopK.by 70 (fun i : Nat => i ≤ ws.length ∧ lsE P ((lists ws).take i) = 0) (fun i => [(1, .agg [I P, v]), (3, I i)]) (fun _ => A) (fun i => ws.length - i) 0 ⟨by omega, rfl⟩ rfl (by simp [Has, rd_s]) rfl ?_
      rintro i ⟨hi, he⟩
      by_cases hlt : i < ws.length
      · obtain ⟨x, hz⟩ : ∃ z, ws[i]? = some z := ⟨_, List.getElem?_eq_getElem hlt⟩
        have hlt' : (i : Int) < ws.length := by omega
        have hm := List.mem_of_getElem? hz
        have hx := hw.inn x hm
        have hx2 := hs2 x hm
        simp (maxSteps := 4000000) -implicitDefEqProofs -dsimp (disch := omega) only [↓AW_skip, ↓AW_ops, ↓AW_seq, ↓AW_cond, ↓AW_block, ↓AOps_nil, ↓AOps_pu, on_some, condB_t, ↓then_normal, pval, rd_S, rd_C, put_S, ↓AW_toLoop, chkd, isAdr, bgot, AV.cells?, partA, eq_self, mk, List.foldl_cons, List.foldl_nil, List.replicate_succ, List.replicate_zero, List.set_cons_zero, List.set_cons_succ, List.getElem?_cons_zero, List.getElem?_cons_succ, List.drop_zero, List.drop_succ_cons, List.take_succ_cons, List.take_nil, Option.getD_some, List.length_cons, List.length_nil, Nat.reduceAdd, Nat.reduceLeDiff, Nat.zero_add, bin_lss, if_true, if_false, Bool.false_eq_true, decide_true, hlt', hw.ls.len]
        refine LoopK.by 70 (fun k : Nat => k ≤ x.2.length ∧ ∀ p ∈ x.2.take k, inP P p) (fun k => [(1, .agg [I P, v]), (3, I i), (4, I k)]) (fun _ => A) (fun k => x.2.length - k) 0 ⟨by omega, by simp⟩ rfl (by simp [Has, rd_s]) rfl ?_
        rintro k ⟨hk, hnd⟩
        by_cases hltk : k < x.2.length
        · obtain ⟨p, hzp⟩ : ∃ p, x.2[k]? = some p := ⟨_, List.getElem?_eq_getElem hltk⟩
          have hltk' : (k : Int) < x.2.length := by omega
          simp (maxSteps := 4000000) -implicitDefEqProofs -dsimp (disch := omega) only [↓AW_skip, ↓AW_ops, ↓AW_seq, ↓AW_cond, ↓AW_block, ↓AOps_nil, ↓AOps_pu, ↓AOps_ld, ↓AOps_call, on_some, condB_t, ↓then_normal, pval, lval, rd_S, rd_C, put_S, chkd, isAdr, bgot, AV.cells?, partA, eq_self, mk, List.foldl_cons, List.foldl_nil, List.replicate_succ, List.replicate_zero, List.set_cons_zero, List.set_cons_succ, List.getElem?_cons_zero, List.getElem?_cons_succ, List.drop_zero, List.drop_succ_cons, List.take_zero, List.take_succ_cons, List.take_nil, Option.getD_some, map_c, map_n, List.length_cons, List.length_nil, Nat.reduceAdd, Nat.reduceLeDiff, Nat.zero_add, bin_sub, bin_lss, w64, if_true, if_false, Bool.false_eq_true, decide_true, Go.Eng.e1, hltk', hw.ls.idx hlt, hw.ls.ld0 hz 1 false (by decide), e0, hx.len, hx.idx hltk, hx.ld0 hzp 1 false (by decide)]
          refine CallK.of (s64 _ _ _ _) ?_
          by_cases hc : 0 ≤ p ∧ p ≤ P - 1
          · simp (maxSteps := 4000000) -implicitDefEqProofs -dsimp (disch := omega) only [↓AW_skip, ↓AW_ops, ↓AW_cond, ↓AOps_nil, ↓AOps_pu, on_some, extK_same, condB_f, ↓then_normal, ↓inBlock_normal, pval, rd_S, rd_C, put_S, eq_self, mk, List.foldl_cons, List.foldl_nil, List.replicate_succ, List.replicate_zero, List.set_cons_zero, List.set_cons_succ, List.getElem?_cons_zero, List.getElem?_cons_succ, Option.getD_some, List.length_cons, List.length_nil, Nat.reduceAdd, Nat.zero_add, bin_add, w64, Bool.not_true, decide_true, true_and, and_true, hc]
            exact ⟨k + 1, ⟨hltk, all_take hnd hzp ⟨by omega, by omega⟩⟩, by simp [Has, rd_s], by omega⟩
          · simp (maxSteps := 4000000) -implicitDefEqProofs -dsimp (disch := omega) only [↓AW_ops, ↓AW_seq, ↓AW_cond, ↓AW_ret, ↓AOps_nil, ↓AOps_pu, on_some, extK_same, condB_t, ↓then_normal, ↓then_ret, ↓inBlock_ret, ↓Fin_ret, pval, rd_S, rd_C, put_S, resV, resL, mk, List.foldl_cons, List.foldl_nil, List.replicate_succ, List.replicate_zero, List.set_cons_zero, List.set_cons_succ, List.getElem?_cons_zero, List.getElem?_cons_succ, Option.getD_some, Bool.not_false, decide_false, hc]
            have hb : lE P x.2 = 1 := by
              unfold lE; rw [if_neg]
              intro h
              have := h p (List.mem_of_getElem? hzp)
              exact hc ⟨this.1, by have := this.2; omega⟩
            exact gc_same (by rw [lsE_bad (ws_get hz) he (by rw [hb]; decide), hb])
        · have hltk' : ¬ ((k : Int) < x.2.length) := by omega
          rw [List.take_of_length_le (by omega)] at hnd
          simp (maxSteps := 4000000) -implicitDefEqProofs -dsimp (disch := omega) only [↓AW_ops, ↓AW_seq, ↓AW_cond, ↓AW_block, ↓AW_exit, ↓AW_ret, ↓AOps_nil, ↓AOps_pu, ↓AOps_ld, on_some, condB_f, ↓then_normal, ↓then_exit, ↓inBlock_exit, ↓Fin_ret, pval, lval, rd_S, rd_C, put_S, ↓AW_toLoop, resV, resL, chkd, isAdr, bgot, AV.cells?, partA, eq_self, mk, List.foldl_cons, List.foldl_nil, List.replicate_succ, List.replicate_zero, List.set_cons_zero, List.set_cons_succ, List.getElem?_cons_zero, List.getElem?_cons_succ, List.drop_zero, List.drop_succ_cons, List.take_succ_cons, List.take_nil, Option.getD_some, List.length_cons, List.length_nil, Nat.reduceAdd, Nat.reduceLeDiff, Nat.reduceEqDiff, Nat.zero_add, bin_add, bin_lss, w64, if_true, if_false, Bool.false_eq_true, decide_false, true_and, reduceCtorEq, hltk', hw.ls.idx hlt, hw.ls.ld0 hz 1 false (by decide), e0, hx.len]
          refine LoopK.by 70 (fun k : Nat => k ≤ x.2.length ∧ (x.2.take k).Nodup) (fun k => [(1, .agg [I P, v]), (3, I i), (5, I k)]) (fun _ => A) (fun k => x.2.length - k) 0 ⟨by omega, by simp⟩ rfl (by simp [Has, rd_s]) rfl ?_
          rintro k ⟨hk, hnd2⟩
          by_cases hltk : k < x.2.length
          · obtain ⟨p, hzp⟩ : ∃ p, x.2[k]? = some p := ⟨_, List.getElem?_eq_getElem hltk⟩
            have hltk' : (k : Int) < x.2.length := by omega
            obtain ⟨v', hv', hL⟩ := Ls_takeS hx k (by omega)
            simp (maxSteps := 4000000) -implicitDefEqProofs -dsimp (disch := omega) only [↓AW_skip, ↓AW_ops, ↓AW_seq, ↓AW_cond, ↓AW_block, ↓AOps_nil, ↓AOps_pu, ↓AOps_ld, ↓AOps_call, on_some, condB_t, ↓then_normal, pval, lval, rd_S, put_S, chkd, isAdr, bgot, AV.cells?, partA, eq_self, mk, List.foldl_cons, List.foldl_nil, List.replicate_succ, List.replicate_zero, List.set_cons_zero, List.set_cons_succ, List.getElem?_cons_zero, List.getElem?_cons_succ, List.drop_zero, List.drop_succ_cons, List.take_succ_cons, List.take_nil, Option.getD_some, Option.map_some, Option.map_none, map_c, map_n, List.length_cons, List.length_nil, Nat.reduceAdd, Nat.reduceLeDiff, Nat.zero_add, bin_lss, if_true, if_false, Bool.false_eq_true, decide_true, Go.Eng.e1, hltk', hw.ls.idx hlt, hw.ls.ld0 hz 1 false (by decide), e0, hx.len, hx.idx hltk, hx.ld0 hzp 1 false (by decide), hv']
            refine CallK.of (s65 hL (by rw [List.length_take]; omega) p) ?_
            by_cases hc : p ∈ x.2.take k
            · simp (maxSteps := 4000000) -implicitDefEqProofs -dsimp (disch := omega) only [↓AW_ops, ↓AW_seq, ↓AW_cond, ↓AW_ret, ↓AOps_nil, ↓AOps_pu, on_some, extK_same, condB_t, ↓then_normal, ↓then_ret, ↓inBlock_ret, ↓Fin_ret, pval, rd_S, rd_C, put_S, resV, resL, mk, List.foldl_cons, List.foldl_nil, List.replicate_succ, List.replicate_zero, List.set_cons_zero, List.set_cons_succ, List.getElem?_cons_zero, List.getElem?_cons_succ, Option.getD_some, decide_true, hc]
              have hb : lE P x.2 = 6 := by unfold lE; rw [if_pos hnd, if_neg (not_nodup hzp hc)]
              exact gc_same (by rw [lsE_bad (ws_get hz) he (by rw [hb]; decide), hb])
            · simp (maxSteps := 4000000) -implicitDefEqProofs -dsimp (disch := omega) only [↓AW_skip, ↓AW_ops, ↓AW_cond, ↓AOps_nil, ↓AOps_pu, on_some, extK_same, condB_f, ↓then_normal, ↓inBlock_normal, pval, rd_S, rd_C, put_S, eq_self, mk, List.foldl_cons, List.foldl_nil, List.replicate_succ, List.replicate_zero, List.set_cons_zero, List.set_cons_succ, List.getElem?_cons_zero, List.getElem?_cons_succ, Option.getD_some, List.length_cons, List.length_nil, Nat.reduceAdd, Nat.zero_add, bin_add, w64, decide_false, true_and, hc]
              exact ⟨k + 1, ⟨hltk, nodup_take hzp hnd2 hc⟩, by simp [Has, rd_s], by omega⟩
          · have hltk' : ¬ ((k : Int) < x.2.length) := by omega
            rw [List.take_of_length_le (by omega)] at hnd2
            simp (maxSteps := 4000000) -implicitDefEqProofs -dsimp (disch := omega) only [↓AW_ops, ↓AW_seq, ↓AW_cond, ↓AW_exit, ↓AW_ret, ↓AOps_nil, ↓AOps_pu, ↓AOps_ld, on_some, condB_f, ↓then_normal, ↓then_exit, ↓inBlock_normal, ↓inBlock_exit, ↓Fin_ret, pval, lval, rd_S, rd_C, put_S, resV, resL, chkd, isAdr, bgot, AV.cells?, partA, eq_self, mk, List.foldl_cons, List.foldl_nil, List.replicate_succ, List.replicate_zero, List.set_cons_zero, List.set_cons_succ, List.getElem?_cons_zero, List.getElem?_cons_succ, List.drop_zero, List.drop_succ_cons, List.take_succ_cons, List.take_nil, Option.getD_some, List.length_cons, List.length_nil, Nat.reduceAdd, Nat.reduceLeDiff, Nat.reduceEqDiff, Nat.zero_add, bin_add, bin_lss, w64, if_true, if_false, Bool.false_eq_true, decide_false, true_and, reduceCtorEq, hltk', hw.ls.idx hlt, hw.ls.ld0 hz 1 false (by decide), e0, hx.len]
            exact ⟨i + 1, ⟨hlt, lsE_ok (ws_get hz) he (by unfold lE; rw [if_pos hnd, if_pos hnd2])⟩, by simp [Has, rd_s], by omega⟩
      · have hlt' : ¬ ((i : Int) < ws.length) := by omega
        simp (maxSteps := 4000000) -implicitDefEqProofs -dsimp (disch := omega) only [↓AW_ops, ↓AW_seq, ↓AW_cond, ↓AW_exit, ↓AW_ret, ↓AOps_nil, ↓AOps_pu, on_some, condB_f, ↓then_normal, ↓then_exit, ↓inBlock_exit, ↓Fin_ret, pval, rd_S, rd_C, put_S, resV, resL, chkd, isAdr, bgot, AV.cells?, partA, eq_self, mk, List.foldl_cons, List.foldl_nil, List.replicate_succ, List.replicate_zero, List.set_cons_zero, List.set_cons_succ, List.getElem?_cons_zero, List.getElem?_cons_succ, List.drop_zero, List.drop_succ_cons, List.take_succ_cons, List.take_nil, Option.getD_some, List.length_cons, List.length_nil, Nat.reduceAdd, Nat.reduceLeDiff, Nat.zero_add, bin_lss, if_true, if_false, Bool.false_eq_true, decide_false, hlt', hw.ls.len]
        rw [List.take_of_length_le (by simp; omega)] at he
        exact gc_same (by rw [he])
  · simp (maxSteps := 4000000) -implicitDefEqProofs -dsimp (disch := omega) only [↓AW_ops, ↓AW_seq, ↓AW_cond, ↓AW_ret, ↓AOps_nil, ↓AOps_pu, on_some, extK_same, condB_t, ↓then_normal, ↓then_ret, ↓Fin_ret, pval, rd_S, rd_C, put_S, resV, resL, List.replicate_succ, List.replicate_zero, List.set_cons_zero, List.set_cons_succ, List.getElem?_cons_zero, List.getElem?_cons_succ, Option.getD_some, Nat.reduceSub, List.cons_append, List.nil_append, Bool.not_false, decide_false, h1]
    exact gc_same (by rw [vW_P h1])

/-- How many are served. -/
def srv (g : List Int) : Nat := g.countP (fun p => decide (0 ≤ p))
theorem srv_take {g : List Int} {i : Nat} {z : Int} (hz : g[i]? = some z) : srv (g.take (i + 1)) = srv (g.take i) + if 0 ≤ z then 1 else 0 := by
  unfold srv
  rw [List.take_add_one, hz, List.countP_append]
  simp [List.countP_cons]
theorem srv_le (g : List Int) : srv g ≤ g.length := List.countP_le_length

theorem s61 {g : List Int} {v : AV} {A : AHeap} (hx : L1 A v g) (hl : g.length ≤ 1000000) : ACalls Try.prog 61 [v] A (I (srv g)) A := by
  refine acalls hmix Try.func61 (by kernel_rfl) t61 1 rfl (by decide) ?_
  dsimp only [m61]
  simp (maxSteps := 4000000) -implicitDefEqProofs -dsimp (disch := omega) only [↓AW_ops, ↓AW_seq, ↓AW_block, ↓AOps_nil, ↓AOps_pu, on_some, ↓then_normal, pval, rd_S, rd_C, put_S, ↓AW_toLoop, List.replicate_succ, List.replicate_zero, List.set_cons_zero, List.set_cons_succ, List.getElem?_cons_zero, List.getElem?_cons_succ, Option.getD_some, Nat.reduceSub, List.cons_append, List.nil_append, hx.len]
  refine LoopK.by 18 (fun i : Nat => i ≤ g.length) (fun i => [(3, I (srv (g.take i))), (6, v), (7, I g.length), (8, I i)]) (fun _ => A) (fun i => g.length - i) 0 (by omega) rfl (by simp [Has, rd_s, srv]) rfl ?_
  intro i hi
  have hle := srv_le (g.take i)
  rw [List.length_take] at hle
  by_cases hlt : i < g.length
  · obtain ⟨z, hz⟩ : ∃ z, g[i]? = some z := ⟨_, List.getElem?_eq_getElem hlt⟩
    have hlt' : (i : Int) < g.length := by omega
    by_cases h : 0 ≤ z
    · simp (maxSteps := 4000000) -implicitDefEqProofs -dsimp (disch := omega) only [↓AW_skip, ↓AW_ops, ↓AW_seq, ↓AW_cond, ↓AW_block, ↓AOps_nil, ↓AOps_pu, ↓AOps_ld, on_some, condB_t, ↓then_normal, ↓inBlock_normal, pval, lval, rd_S, rd_C, put_S, partA, eq_self, mk, List.foldl_cons, List.foldl_nil, List.replicate_succ, List.replicate_zero, List.set_cons_zero, List.set_cons_succ, List.getElem?_cons_zero, List.getElem?_cons_succ, List.drop_zero, List.take_succ_cons, List.take_nil, Option.getD_some, List.length_cons, List.length_nil, Nat.reduceAdd, Nat.reduceLeDiff, Nat.zero_add, bin_add, bin_lss, bin_geq, w64, if_true, if_false, Bool.false_eq_true, decide_true, Go.Eng.e1, true_and, hlt', hx.idx hlt, hx.ld0 hz 1 false (by decide), h]
      exact ⟨i + 1, hlt, by simp [Has, rd_s, srv_take hz, h], by omega⟩
    · simp (maxSteps := 4000000) -implicitDefEqProofs -dsimp (disch := omega) only [↓AW_skip, ↓AW_ops, ↓AW_seq, ↓AW_cond, ↓AW_block, ↓AOps_nil, ↓AOps_pu, ↓AOps_ld, on_some, condB_t, condB_f, ↓then_normal, ↓inBlock_normal, pval, lval, rd_S, rd_C, put_S, partA, eq_self, mk, List.foldl_cons, List.foldl_nil, List.replicate_succ, List.replicate_zero, List.set_cons_zero, List.set_cons_succ, List.getElem?_cons_zero, List.getElem?_cons_succ, List.drop_zero, List.take_succ_cons, List.take_nil, Option.getD_some, List.length_cons, List.length_nil, Nat.reduceAdd, Nat.reduceLeDiff, Nat.zero_add, bin_add, bin_lss, bin_geq, w64, if_true, if_false, Bool.false_eq_true, decide_true, decide_false, Go.Eng.e1, true_and, hlt', hx.idx hlt, hx.ld0 hz 1 false (by decide), h]
      exact ⟨i + 1, hlt, by simp [Has, rd_s, srv_take hz, h], by omega⟩
  · have hlt' : ¬ ((i : Int) < g.length) := by omega
    simp (maxSteps := 4000000) -implicitDefEqProofs -dsimp (disch := omega) only [↓AW_ops, ↓AW_seq, ↓AW_cond, ↓AW_exit, ↓AW_ret, ↓AOps_nil, ↓AOps_pu, on_some, condB_f, ↓then_normal, ↓then_exit, ↓inBlock_exit, ↓Fin_ret, pval, rd_S, put_S, resV, resL, eq_self, mk, List.foldl_cons, List.foldl_nil, List.replicate_succ, List.replicate_zero, List.set_cons_zero, List.set_cons_succ, List.getElem?_cons_zero, List.getElem?_cons_succ, Option.getD_some, bin_lss, if_true, decide_false, hlt']
    exact gc_same (by rw [List.take_of_length_le (by omega)])

theorem s66 {g : List Int} {v : AV} {A : AHeap} (hx : L1 A v g) (hl : g.length ≤ 1000000) : ACalls Try.prog 66 [v] A (I (srv g)) A := by
  refine acalls hmix Try.func66 (by kernel_rfl) t66 1 rfl (by decide) ?_
  dsimp only [m66]
  simp (maxSteps := 4000000) -implicitDefEqProofs -dsimp (disch := omega) only [↓AW_ops, ↓AW_seq, ↓AW_block, ↓AOps_nil, ↓AOps_pu, on_some, ↓then_normal, pval, rd_C, put_S, ↓AW_toLoop, List.replicate_succ, List.replicate_zero, List.set_cons_zero, List.set_cons_succ, Nat.reduceSub, List.cons_append, List.nil_append]
  refine LoopK.by 19 (fun i : Nat => i ≤ g.length) (fun i => [(0, v), (3, I (srv (g.take i))), (4, I i)]) (fun _ => A) (fun i => g.length - i) 0 (by omega) rfl (by simp [Has, rd_s, srv]) rfl ?_
  intro i hi
  have hle := srv_le (g.take i)
  rw [List.length_take] at hle
  by_cases hlt : i < g.length
  · obtain ⟨z, hz⟩ : ∃ z, g[i]? = some z := ⟨_, List.getElem?_eq_getElem hlt⟩
    have hlt' : (i : Int) < g.length := by omega
    by_cases h : 0 ≤ z
    · simp (maxSteps := 4000000) -implicitDefEqProofs -dsimp (disch := omega) only [↓AW_skip, ↓AW_ops, ↓AW_seq, ↓AW_cond, ↓AW_block, ↓AOps_nil, ↓AOps_pu, ↓AOps_ld, on_some, condB_t, ↓then_normal, ↓inBlock_normal, pval, lval, rd_S, rd_C, put_S, partA, eq_self, mk, List.foldl_cons, List.foldl_nil, List.replicate_succ, List.replicate_zero, List.set_cons_zero, List.set_cons_succ, List.getElem?_cons_zero, List.getElem?_cons_succ, List.drop_zero, List.take_succ_cons, List.take_nil, Option.getD_some, List.length_cons, List.length_nil, Nat.reduceAdd, Nat.reduceLeDiff, Nat.zero_add, bin_add, bin_lss, bin_geq, w64, if_true, if_false, Bool.false_eq_true, decide_true, Go.Eng.e1, true_and, hlt', hx.len, hx.idx hlt, hx.ld0 hz 1 false (by decide), h]
      exact ⟨i + 1, hlt, by simp [Has, rd_s, srv_take hz, h], by omega⟩
    · simp (maxSteps := 4000000) -implicitDefEqProofs -dsimp (disch := omega) only [↓AW_skip, ↓AW_ops, ↓AW_seq, ↓AW_cond, ↓AW_block, ↓AOps_nil, ↓AOps_pu, ↓AOps_ld, on_some, condB_t, condB_f, ↓then_normal, ↓inBlock_normal, pval, lval, rd_S, rd_C, put_S, partA, eq_self, mk, List.foldl_cons, List.foldl_nil, List.replicate_succ, List.replicate_zero, List.set_cons_zero, List.set_cons_succ, List.getElem?_cons_zero, List.getElem?_cons_succ, List.drop_zero, List.take_succ_cons, List.take_nil, Option.getD_some, List.length_cons, List.length_nil, Nat.reduceAdd, Nat.reduceLeDiff, Nat.zero_add, bin_add, bin_lss, bin_geq, w64, if_true, if_false, Bool.false_eq_true, decide_true, decide_false, Go.Eng.e1, true_and, hlt', hx.len, hx.idx hlt, hx.ld0 hz 1 false (by decide), h]
      exact ⟨i + 1, hlt, by simp [Has, rd_s, srv_take hz, h], by omega⟩
  · have hlt' : ¬ ((i : Int) < g.length) := by omega
    simp (maxSteps := 4000000) -implicitDefEqProofs -dsimp (disch := omega) only [↓AW_ops, ↓AW_seq, ↓AW_cond, ↓AW_exit, ↓AW_ret, ↓AOps_nil, ↓AOps_pu, on_some, condB_f, ↓then_normal, ↓then_exit, ↓inBlock_exit, ↓Fin_ret, pval, rd_S, put_S, resV, resL, eq_self, mk, List.foldl_cons, List.foldl_nil, List.replicate_succ, List.replicate_zero, List.set_cons_zero, List.set_cons_succ, List.getElem?_cons_zero, List.getElem?_cons_succ, Option.getD_some, bin_lss, if_true, decide_false, hlt', hx.len]
    exact gc_same (by rw [List.take_of_length_le (by omega)])

/-! Givings. -/
def gR (P : Int) (p : Int) : Prop := -1 ≤ p ∧ p < P
instance (P p : Int) : Decidable (gR P p) := by unfold gR; exact inferInstance
def okP (x : Int × List Int) : Prop := 0 ≤ x.1 → x.1 ∈ x.2
instance (x : Int × List Int) : Decidable (okP x) := by unfold okP; exact inferInstance
def given (g : List Int) : List Int := g.filter (fun p => decide (0 ≤ p))
/-- The error of a giving. -/
def gE (P : Int) (ls : List (List Int)) (g : List Int) : Int :=
  if vW P ls = 0 then (if g.length = ls.length ∧ ∀ p ∈ g, gR P p then (if ∀ x ∈ g.zip ls, okP x then (if (given g).Nodup then 0 else 6) else 8) else 1) else vW P ls
def gN (P : Int) (ls : List (List Int)) (g : List Int) : Int := if gE P ls g = 0 then srv g else 0

theorem gE_v {P : Int} {ls : List (List Int)} {g : List Int} (h : vW P ls ≠ 0) : gE P ls g = vW P ls := by unfold gE; rw [if_neg h]
theorem gE_1 {P : Int} {ls : List (List Int)} {g : List Int} (h : vW P ls = 0) (h1 : ¬ (g.length = ls.length ∧ ∀ p ∈ g, gR P p)) : gE P ls g = 1 := by unfold gE; rw [if_pos h, if_neg h1]
theorem gE_8 {P : Int} {ls : List (List Int)} {g : List Int} (h : vW P ls = 0) (h1 : g.length = ls.length ∧ ∀ p ∈ g, gR P p) (h2 : ¬ ∀ x ∈ g.zip ls, okP x) : gE P ls g = 8 := by unfold gE; rw [if_pos h, if_pos h1, if_neg h2]
theorem gE_6 {P : Int} {ls : List (List Int)} {g : List Int} (h : vW P ls = 0) (h1 : g.length = ls.length ∧ ∀ p ∈ g, gR P p) (h2 : ∀ x ∈ g.zip ls, okP x) (h3 : ¬ (given g).Nodup) : gE P ls g = 6 := by unfold gE; rw [if_pos h, if_pos h1, if_pos h2, if_neg h3]
theorem gE_0 {P : Int} {ls : List (List Int)} {g : List Int} (h : vW P ls = 0) (h1 : g.length = ls.length ∧ ∀ p ∈ g, gR P p) (h2 : ∀ x ∈ g.zip ls, okP x) (h3 : (given g).Nodup) : gE P ls g = 0 := by unfold gE; rw [if_pos h, if_pos h1, if_pos h2, if_pos h3]

theorem zip_get {g : List Int} {ls : List (List Int)} {i : Nat} {p : Int} {l : List Int} (h : g[i]? = some p) (k : ls[i]? = some l) : (g.zip ls)[i]? = some (p, l) := by
  rw [List.getElem?_zip_eq_some]
  exact ⟨h, k⟩

theorem given_take {g : List Int} {i : Nat} {z : Int} (hz : g[i]? = some z) : given (g.take (i + 1)) = given (g.take i) ++ if 0 ≤ z then [z] else [] := by
  unfold given
  rw [List.take_add_one, hz, List.filter_append]
  simp [List.filter_cons]

theorem given_mem {g : List Int} {z : Int} (h : 0 ≤ z) : z ∈ given g ↔ z ∈ g := by simp [given, h]

theorem given_bad {g : List Int} {i : Nat} {z : Int} (hz : g[i]? = some z) (h0 : 0 ≤ z) (h : z ∈ g.take i) : ¬ (given g).Nodup := by
  have hi : i < g.length := (List.getElem?_eq_some_iff.1 hz).1
  have e : g = g.take i ++ z :: g.drop (i + 1) := by
    have := (List.getElem?_eq_some_iff.1 hz).2
    rw [← this, List.getElem_cons_drop, List.take_append_drop]
  intro hn
  rw [e] at hn
  unfold given at hn
  rw [List.filter_append, List.nodup_append] at hn
  exact hn.2.2 z (by simp [h, h0]) z (by simp [h0]) rfl

theorem s70 {P p : Int} {v : AV} {A : AHeap} : ACalls Try.prog 70 [I p, .ptr A.length 0] (A ++ [.cells true [I P, v]]) (B (!decide (gR P p))) (A ++ [.cells true [I P, v]]) := by
  refine acalls hmix Try.func70 (by kernel_rfl) t70 2 rfl (by decide) ?_
  by_cases h1 : p < -1
  · dsimp only [m70]
    simp (maxSteps := 4000000) -implicitDefEqProofs -dsimp (disch := omega) only [↓AW_ops, ↓AW_seq, ↓AW_ret, ↓AOps_nil, ↓AOps_pu, ↓AOps_guard, on_some, guardB_tf, skipS_some, ↓then_normal, ↓Fin_ret, pval, rd_S, rd_C, put_S, resV, resL, eq_self, List.replicate_succ, List.replicate_zero, List.set_cons_zero, List.set_cons_succ, List.getElem?_cons_zero, List.getElem?_cons_succ, Option.getD_some, Nat.reduceSub, List.cons_append, List.nil_append, bin_lss, if_true, decide_true, Int.reduceNeg, h1]
    exact gc_same (by rw [decide_eq_false (fun h2 : gR P p => by have := h2.1; omega)]; rfl)
  · dsimp only [m70]
    simp (maxSteps := 4000000) -implicitDefEqProofs -dsimp (disch := omega) only [↓AW_ops, ↓AW_seq, ↓AW_ret, ↓AOps_nil, ↓AOps_pu, ↓AOps_ld, ↓AOps_guard, on_some, guardB_ff, ↓then_normal, ↓Fin_ret, pval, lval, rd_S, rd_C, put_S, resV, resL, List.replicate_succ, List.replicate_zero, List.set_cons_zero, List.set_cons_succ, List.getElem?_cons_zero, List.getElem?_cons_succ, Option.getD_some, Nat.reduceSub, Nat.add_zero, List.cons_append, List.nil_append, bin_lss, bin_geq, if_false, Bool.false_eq_true, decide_false, Int.reduceNeg, h1, ld_new]
    refine gc_same ?_
    have : gR P p ↔ ¬ P ≤ p := by unfold gR; omega
    congr 1
    rw [Bool.eq_iff_iff]
    simp [this]

theorem s33 {P : Int} {ws : List (AV × List Int)} {v : AV} {g : List Int} {u : AV} {A : AHeap} (hw : LL A v ws) (hs : Sz ws) (hg : L1 A u g) (hgl : g.length ≤ 1000000) : ACalls Try.prog 33 [.agg [I P, v], u] A (.tuple [I (gN P (lists ws) g), I (gE P (lists ws) g)]) A := by
  refine acalls hmix Try.func33 (by kernel_rfl) t33 2 rfl (by decide) ?_
  have hw2 := hw.mono (pre_app A [.cells true [I P, v]])
  have hg2 := hg.mono (pre_app A [.cells true [I P, v]])
  dsimp only [m33]
  simp (maxSteps := 4000000) -implicitDefEqProofs -dsimp (disch := omega) only [↓AW_ops, ↓AW_seq, ↓AOps_nil, ↓AOps_pu, ↓AOps_ld, ↓AOps_ha, ↓AOps_call, on_some, extK_app, ↓then_normal, pval, lval, hval, rd_S, rd_C, put_S, AV.cells?, List.replicate_succ, List.replicate_zero, List.set_cons_zero, List.set_cons_succ, List.getElem?_cons_zero, List.getElem?_cons_succ, Option.getD_some, map_c, map_n, Nat.reduceSub, List.cons_append, List.nil_append, ld_new2]
  refine CallK.of (s39 hw2 hs) ?_
  by_cases h0 : vW P (lists ws) = 0
  · by_cases hlen : g.length = ws.length
    · have hlen' : (g.length : Int) = ws.length := by omega
      simp (maxSteps := 4000000) -implicitDefEqProofs -dsimp (disch := omega) only [↓AW_skip, ↓AW_ops, ↓AW_seq, ↓AW_cond, ↓AOps_nil, ↓AOps_pu, ↓AOps_ld, ↓AOps_call, ↓AOps_guard, on_some, extK_same, guardB_ff, condB_f, ↓then_normal, pval, lval, rd_S, rd_C, put_S, eq_self, List.replicate_succ, List.replicate_zero, List.set_cons_zero, List.set_cons_succ, List.getElem?_cons_zero, List.getElem?_cons_succ, Option.getD_some, map_c, map_n, Nat.reduceSub, Nat.zero_add, List.cons_append, List.nil_append, bin_neq, decide_false, not_true_eq_false, h0, hg2.len, ld_new1, hw2.ls.len, hlen']
      refine CallK.of (c_ContainsFunc hg2 hgl 70 [.ptr A.length 0] (fun p => !decide (gR P p)) (fun x _ => s70)) ?_
      by_cases hr : ∀ p ∈ g, gR P p
      · have hr' : (g.any fun p => !decide (gR P p)) = false := by simpa using hr
        have h1 : g.length = (lists ws).length ∧ ∀ p ∈ g, gR P p := ⟨by simp [hlen], hr⟩
        simp (maxSteps := 4000000) -implicitDefEqProofs -dsimp (disch := omega) only [↓AW_skip, ↓AW_ops, ↓AW_seq, ↓AW_cond, ↓AW_block, ↓AOps_nil, ↓AOps_pu, on_some, extK_same, condB_f, ↓then_normal, pval, rd_S, rd_C, put_S, ↓AW_toLoop, List.replicate_succ, List.replicate_zero, List.set_cons_zero, List.set_cons_succ, List.getElem?_cons_zero, List.getElem?_cons_succ, Option.getD_some, Nat.reduceSub, List.cons_append, List.nil_append, if_false, Bool.false_eq_true, hr', hg2.len]
        refine LoopK.by 66 (fun i : Nat => i ≤ g.length ∧ ∀ x ∈ (g.zip (lists ws)).take i, okP x) (fun i => [(1, u), (2, .ptr A.length 0), (27, u), (28, I g.length), (29, I i)]) (fun _ => A ++ [.cells true [I P, v]]) (fun i => g.length - i) 0 ⟨by omega, by simp⟩ rfl (by simp [Has, rd_s, hlen]) rfl ?_
        rintro i ⟨hi, he⟩
        by_cases hlt : i < g.length
        · obtain ⟨z, hz⟩ : ∃ z, g[i]? = some z := ⟨_, List.getElem?_eq_getElem hlt⟩
          have hlt' : (i : Int) < g.length := by omega
          have hltw : i < ws.length := by omega
          obtain ⟨x, hx⟩ : ∃ x, ws[i]? = some x := ⟨_, List.getElem?_eq_getElem hltw⟩
          have hm := List.mem_of_getElem? hx
          have hzx := zip_get hz (ws_get hx)
          by_cases hz0 : 0 ≤ z
          · simp (maxSteps := 4000000) -implicitDefEqProofs -dsimp (disch := omega) only [↓AW_skip, ↓AW_ops, ↓AW_seq, ↓AW_cond, ↓AW_block, ↓AOps_nil, ↓AOps_pu, ↓AOps_ld, ↓AOps_call, ↓AOps_guard, on_some, guardB_tt, condB_t, ↓then_normal, pval, lval, rd_S, rd_C, put_S, partA, eq_self, mk, List.foldl_cons, List.foldl_nil, List.replicate_succ, List.replicate_zero, List.set_cons_zero, List.set_cons_succ, List.getElem?_cons_zero, List.getElem?_cons_succ, List.drop_zero, List.take_succ_cons, List.take_nil, Option.getD_some, map_c, map_n, List.length_cons, List.length_nil, Nat.reduceLeDiff, Nat.zero_add, bin_lss, bin_geq, if_true, if_false, Bool.false_eq_true, decide_true, Go.Eng.e1, hlt', hg2.idx hlt, hg2.ld0 hz 1 false (by decide), hz0, ld_new1, hw2.ls.idx hltw, hw2.ls.ld0 hx 1 false (by decide), e0]
            refine CallK.of (c_Contains (hw2.inn x hm) (by have := hs.2 x hm; omega) z) ?_
            by_cases hc : z ∈ x.2
            · simp (maxSteps := 4000000) -implicitDefEqProofs -dsimp (disch := omega) only [↓AW_skip, ↓AW_ops, ↓AW_cond, ↓AOps_nil, ↓AOps_pu, ↓AOps_guard, on_some, extK_same, guardB_tt, condB_f, ↓then_normal, ↓inBlock_normal, pval, rd_S, rd_C, put_S, eq_self, mk, List.foldl_cons, List.foldl_nil, List.replicate_succ, List.replicate_zero, List.set_cons_zero, List.set_cons_succ, List.getElem?_cons_zero, List.getElem?_cons_succ, Option.getD_some, List.length_cons, List.length_nil, Nat.reduceAdd, Nat.zero_add, bin_add, w64, if_true, Bool.not_true, decide_true, true_and, hc]
              exact ⟨i + 1, ⟨hlt, all_take he hzx (fun _ => hc)⟩, by simp [Has, rd_s], by omega⟩
            · simp (maxSteps := 4000000) -implicitDefEqProofs -dsimp (disch := omega) only [↓AW_ops, ↓AW_seq, ↓AW_cond, ↓AW_ret, ↓AOps_nil, ↓AOps_pu, ↓AOps_guard, on_some, extK_same, guardB_tt, condB_t, ↓then_normal, ↓then_ret, ↓inBlock_ret, ↓Fin_ret, pval, rd_S, rd_C, put_S, resV, resL, eq_self, mk, List.foldl_cons, List.foldl_nil, List.replicate_succ, List.replicate_zero, List.set_cons_zero, List.set_cons_succ, List.getElem?_cons_zero, List.getElem?_cons_succ, Option.getD_some, if_true, Bool.not_false, decide_false, hc]
              have hE := gE_8 h0 h1 (fun h => hc (h _ (List.mem_of_getElem? hzx) hz0))
              exact gc_val (pre_app _ _) (by simp [gN, hE, ren])
          · simp (maxSteps := 4000000) -implicitDefEqProofs -dsimp (disch := omega) only [↓AW_skip, ↓AW_ops, ↓AW_seq, ↓AW_cond, ↓AW_block, ↓AOps_nil, ↓AOps_pu, ↓AOps_ld, ↓AOps_guard, on_some, guardB_ft, skipS_some, condB_t, condB_f, ↓then_normal, ↓inBlock_normal, pval, lval, rd_S, rd_C, put_S, partA, eq_self, mk, List.foldl_cons, List.foldl_nil, List.replicate_succ, List.replicate_zero, List.set_cons_zero, List.set_cons_succ, List.getElem?_cons_zero, List.getElem?_cons_succ, List.drop_zero, List.take_succ_cons, List.take_nil, Option.getD_some, List.length_cons, List.length_nil, Nat.reduceAdd, Nat.reduceLeDiff, Nat.zero_add, bin_add, bin_lss, bin_geq, w64, if_true, if_false, Bool.false_eq_true, decide_true, decide_false, Go.Eng.e1, true_and, hlt', hg2.idx hlt, hg2.ld0 hz 1 false (by decide), hz0]
            exact ⟨i + 1, ⟨hlt, all_take he hzx (fun h => absurd h hz0)⟩, by simp [Has, rd_s], by omega⟩
        · have hlt' : ¬ ((i : Int) < g.length) := by omega
          rw [List.take_of_length_le (by rw [List.length_zip]; omega)] at he
          simp (maxSteps := 4000000) -implicitDefEqProofs -dsimp (disch := omega) only [↓AW_ops, ↓AW_seq, ↓AW_cond, ↓AW_block, ↓AW_exit, ↓AOps_nil, ↓AOps_pu, on_some, condB_f, ↓then_normal, ↓then_exit, ↓inBlock_exit, pval, rd_S, rd_C, put_S, ↓AW_toLoop, eq_self, mk, List.foldl_cons, List.foldl_nil, List.replicate_succ, List.replicate_zero, List.set_cons_zero, List.set_cons_succ, List.getElem?_cons_zero, List.getElem?_cons_succ, Option.getD_some, bin_lss, if_true, decide_false, hlt', hg2.len]
          refine LoopK.by 66 (fun i : Nat => i ≤ g.length ∧ (given (g.take i)).Nodup) (fun i => [(1, u), (47, u), (48, I g.length), (49, I i)]) (fun _ => A ++ [.cells true [I P, v]]) (fun i => g.length - i) 0 ⟨by omega, by simp [given]⟩ rfl (by simp [Has, rd_s]) rfl ?_
          rintro i ⟨hi, hnd⟩
          by_cases hlt : i < g.length
          · obtain ⟨z, hz⟩ : ∃ z, g[i]? = some z := ⟨_, List.getElem?_eq_getElem hlt⟩
            have hlt' : (i : Int) < g.length := by omega
            by_cases hz0 : 0 ≤ z
            · obtain ⟨v', hv', hL⟩ := Ls_takeS hg2 i (by omega)
              simp (maxSteps := 4000000) -implicitDefEqProofs -dsimp (disch := omega) only [↓AW_skip, ↓AW_ops, ↓AW_seq, ↓AW_cond, ↓AW_block, ↓AOps_nil, ↓AOps_pu, ↓AOps_ld, ↓AOps_call, ↓AOps_guard, on_some, guardB_tt, condB_t, ↓then_normal, pval, lval, rd_S, rd_C, put_S, partA, eq_self, mk, List.foldl_cons, List.foldl_nil, List.replicate_succ, List.replicate_zero, List.set_cons_zero, List.set_cons_succ, List.getElem?_cons_zero, List.getElem?_cons_succ, List.drop_zero, List.take_succ_cons, List.take_nil, Option.getD_some, Option.map_some, Option.map_none, map_c, map_n, List.length_cons, List.length_nil, Nat.reduceLeDiff, Nat.zero_add, bin_lss, bin_geq, if_true, if_false, Bool.false_eq_true, decide_true, Go.Eng.e1, hlt', hg2.idx hlt, hg2.ld0 hz 1 false (by decide), hz0, hv']
              refine CallK.of (c_Contains hL (by rw [List.length_take]; omega) z) ?_
              by_cases hc : z ∈ g.take i
              · simp (maxSteps := 4000000) -implicitDefEqProofs -dsimp (disch := omega) only [↓AW_ops, ↓AW_seq, ↓AW_cond, ↓AW_ret, ↓AOps_nil, ↓AOps_pu, on_some, extK_same, condB_t, ↓then_normal, ↓then_ret, ↓inBlock_ret, ↓Fin_ret, pval, rd_S, rd_C, put_S, resV, resL, eq_self, mk, List.foldl_cons, List.foldl_nil, List.replicate_succ, List.replicate_zero, List.set_cons_zero, List.set_cons_succ, List.getElem?_cons_zero, List.getElem?_cons_succ, Option.getD_some, if_true, decide_true, hc]
                have hE := gE_6 h0 h1 he (given_bad hz hz0 hc)
                exact gc_val (pre_app _ _) (by simp [gN, hE, ren])
              · simp (maxSteps := 4000000) -implicitDefEqProofs -dsimp (disch := omega) only [↓AW_skip, ↓AW_ops, ↓AW_cond, ↓AOps_nil, ↓AOps_pu, on_some, extK_same, condB_f, ↓then_normal, ↓inBlock_normal, pval, rd_S, rd_C, put_S, eq_self, mk, List.foldl_cons, List.foldl_nil, List.replicate_succ, List.replicate_zero, List.set_cons_zero, List.set_cons_succ, List.getElem?_cons_zero, List.getElem?_cons_succ, Option.getD_some, List.length_cons, List.length_nil, Nat.reduceAdd, Nat.zero_add, bin_add, w64, if_true, decide_false, true_and, hc]
                refine ⟨i + 1, ⟨hlt, ?_⟩, by simp [Has, rd_s], by omega⟩
                rw [given_take hz, if_pos hz0, List.nodup_append]
                refine ⟨hnd, by simp, fun a ha b hb => ?_⟩
                have hbz : b = z := by simpa using hb
                rw [hbz]
                rintro rfl
                exact hc ((given_mem hz0).1 ha)
            · simp (maxSteps := 4000000) -implicitDefEqProofs -dsimp (disch := omega) only [↓AW_skip, ↓AW_ops, ↓AW_seq, ↓AW_cond, ↓AW_block, ↓AOps_nil, ↓AOps_pu, ↓AOps_ld, ↓AOps_guard, on_some, guardB_ft, skipS_some, condB_t, condB_f, ↓then_normal, ↓inBlock_normal, pval, lval, rd_S, rd_C, put_S, partA, eq_self, mk, List.foldl_cons, List.foldl_nil, List.replicate_succ, List.replicate_zero, List.set_cons_zero, List.set_cons_succ, List.getElem?_cons_zero, List.getElem?_cons_succ, List.drop_zero, List.take_succ_cons, List.take_nil, Option.getD_some, List.length_cons, List.length_nil, Nat.reduceAdd, Nat.reduceLeDiff, Nat.zero_add, bin_add, bin_lss, bin_geq, w64, if_true, if_false, Bool.false_eq_true, decide_true, decide_false, Go.Eng.e1, true_and, hlt', hg2.idx hlt, hg2.ld0 hz 1 false (by decide), hz0]
              exact ⟨i + 1, ⟨hlt, by rw [given_take hz, if_neg hz0, List.append_nil]; exact hnd⟩, by simp [Has, rd_s], by omega⟩
          · have hlt' : ¬ ((i : Int) < g.length) := by omega
            rw [List.take_of_length_le (by omega)] at hnd
            simp (maxSteps := 4000000) -implicitDefEqProofs -dsimp (disch := omega) only [↓AW_ops, ↓AW_seq, ↓AW_cond, ↓AW_exit, ↓AOps_nil, ↓AOps_pu, ↓AOps_call, on_some, condB_f, ↓then_normal, ↓then_exit, ↓inBlock_exit, pval, rd_S, put_S, eq_self, mk, List.foldl_cons, List.foldl_nil, List.replicate_succ, List.replicate_zero, List.set_cons_zero, List.set_cons_succ, List.getElem?_cons_zero, List.getElem?_cons_succ, Option.getD_some, map_c, map_n, bin_lss, if_true, decide_false, hlt']
            refine CallK.of (s61 hg2 hgl) ?_
            simp (maxSteps := 4000000) -implicitDefEqProofs -dsimp (disch := omega) only [↓AW_ret, ↓AOps_nil, ↓AOps_pu, on_some, extK_same, ↓then_normal, ↓Fin_ret, pval, rd_S, rd_C, put_S, resV, resL, mk, List.foldl_cons, List.foldl_nil, List.replicate_succ, List.replicate_zero, List.set_cons_zero, List.set_cons_succ, List.getElem?_cons_zero, List.getElem?_cons_succ, Option.getD_some]
            have hE := gE_0 h0 h1 he hnd
            exact gc_val (pre_app _ _) (by simp [gN, hE, ren])
      · have hr' : (g.any fun p => !decide (gR P p)) = true := by simpa using hr
        simp (maxSteps := 4000000) -implicitDefEqProofs -dsimp (disch := omega) only [↓AW_ops, ↓AW_seq, ↓AW_cond, ↓AW_ret, ↓AOps_nil, ↓AOps_pu, on_some, extK_same, condB_t, ↓then_normal, ↓then_ret, ↓Fin_ret, pval, rd_S, rd_C, put_S, resV, resL, List.replicate_succ, List.replicate_zero, List.set_cons_zero, List.set_cons_succ, List.getElem?_cons_zero, List.getElem?_cons_succ, Option.getD_some, Nat.reduceSub, List.cons_append, List.nil_append, if_false, Bool.false_eq_true, hr']
        have hE := gE_1 h0 (fun h => hr h.2)
        exact gc_val (pre_app _ _) (by simp [gN, hE, ren])
    · have hlen' : ¬ (g.length : Int) = ws.length := by omega
      simp (maxSteps := 4000000) -implicitDefEqProofs -dsimp (disch := omega) only [↓AW_skip, ↓AW_ops, ↓AW_seq, ↓AW_cond, ↓AW_ret, ↓AOps_nil, ↓AOps_pu, ↓AOps_ld, ↓AOps_guard, on_some, extK_same, guardB_tf, skipS_some, condB_t, condB_f, ↓then_normal, ↓then_ret, ↓Fin_ret, pval, lval, rd_S, rd_C, put_S, resV, resL, eq_self, List.replicate_succ, List.replicate_zero, List.set_cons_zero, List.set_cons_succ, List.getElem?_cons_zero, List.getElem?_cons_succ, Option.getD_some, Nat.reduceSub, Nat.zero_add, List.cons_append, List.nil_append, bin_neq, if_true, decide_true, decide_false, not_true_eq_false, not_false_eq_true, h0, hg2.len, ld_new1, hw2.ls.len, hlen']
      have hE := gE_1 (g := g) h0 (fun h => hlen (by simpa using h.1))
      exact gc_val (pre_app _ _) (by simp [gN, hE, ren])
  · simp (maxSteps := 4000000) -implicitDefEqProofs -dsimp (disch := omega) only [↓AW_ops, ↓AW_seq, ↓AW_cond, ↓AW_ret, ↓AOps_nil, ↓AOps_pu, on_some, extK_same, condB_t, ↓then_normal, ↓then_ret, ↓Fin_ret, pval, rd_S, rd_C, put_S, resV, resL, List.replicate_succ, List.replicate_zero, List.set_cons_zero, List.set_cons_succ, List.getElem?_cons_zero, List.getElem?_cons_succ, Option.getD_some, Nat.reduceSub, List.cons_append, List.nil_append, bin_neq, decide_true, not_false_eq_true, h0]
    have hE := gE_v (g := g) h0
    exact gc_val (pre_app _ _) (by simp [gN, hE, h0, ren])

end Go.Proofs.Ytlmbobbefgcolaa
