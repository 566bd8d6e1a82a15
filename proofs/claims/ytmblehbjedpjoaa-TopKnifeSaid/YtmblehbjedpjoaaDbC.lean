/- What the law's proof rests on, part 5: for all that is said in each line. No conditions. -/
import Derived.Test.YtmblehbjedpjoaaRows
import Derived.Test.YtmblehbjedpjoaaDbB
namespace Go.Proofs.Ytmblehbjedpjoaa
open Go Go.Eng
theorem rch_ex (x : Rat) : ∀ (us : List Int) (b a : Int), (a : Rat) < x → x ≤ ((a + us.sum : Int) : Rat) → ∃ z, rch b a us x = some z
  | [], b, a, h, k => by
    rw [List.sum_nil, Int.add_zero] at k
    exact absurd h (Rat.not_lt.2 k)
  | u :: us, b, a, h, k => by
    rw [rch]
    split
    · exact ⟨_, rfl⟩
    · rename_i hn
      rw [List.sum_cons, ← Int.add_assoc] at k
      exact rch_ex x us (b + 1) (a + u) (Rat.not_le.1 hn) k
/-- A worth that is there is found. -/
theorem plc_ex {f : List (Int × Int)} (hg : good f) {p w : Rat} (hp : Pl f p) (hw : Wh w) (h : upTo 0 f p + w ≤ ((tot f : Int) : Rat)) : ∃ z, plc f p w = some z := by
  unfold plc
  split
  · exact ⟨_, rfl⟩
  · rename_i h0
    have hwp : 0 < w := by
      have := Rat.num_nonneg.2 hw.h0
      exact num_pos_iff w |>.1 (by omega)
    have hbp := upTo_bounds hg 0 p
    refine rch_ex _ _ 0 0 (by rw [int0]; grind) ?_
    rw [Int.zero_add, sum_units hg.2]
    exact h
theorem Dv_den {D : Int} {q : Rat} (hD : 0 < D) (h : Dv D q) : (q.den : Int) ≤ D := by
  obtain ⟨k, hk⟩ := h
  have e : q = (k : Rat) / (D : Rat) := by have := cast_ne (show D ≠ 0 by omega); grind
  have := (ratio_le k D hD).2
  rw [← e] at this
  exact this
section
variable {L : List Int} {ws : List (AV × List Int)} {x y : AV} {A : AHeap}
theorem Pl_of {V : List (List Int)} (h : KG L V) {r : List Int} (hr : r ∈ V) {z : Rat} (h0 : 0 ≤ z) (h1 : z ≤ ((L.sum : Int) : Rat)) (hd : (z.den : Int) ≤ 1048576) : Pl (L.zip r) z := Pl.of h0 (by rw [h.lenz hr]; exact h1) hd
theorem upTo_end {V : List (List Int)} (h : KG L V) {r : List Int} (hr : r ∈ V) : upTo 0 (L.zip r) ((L.sum : Int) : Rat) = ((tot (L.zip r) : Int) : Rat) := by
  have hg := h.gd hr
  exact upTo_full _ _ 0 (all_pos hg.2) (by rw [Int.zero_add, h.lenz hr]; exact Rat.le_refl)
theorem flat_e5 (p : Pc) : ∀ y ∈ e5 p, flat y = true := by simp [e5, flat]
end
end Go.Proofs.Ytmblehbjedpjoaa

namespace Go.Proofs.Ytmblehbjedpjoaa
open Go Go.Eng
section
variable {L : List Int} {ws : List (AV × List Int)} {x y : AV} {A : AHeap}
/-- What a piece is worth. -/
def pwo (f : List (Int × Int)) (p : Pc) : Rat := upTo 0 f (qr p.s) - upTo 0 f (qr p.r)
theorem CP.at {V : List (List Int)} {pcs : List Pc} (h : CP L V pcs) {p : Pc} (hp : p ∈ pcs) : isK L p.r ∧ isK L p.s ∧ qr p.r ≤ qr p.s := by
  obtain ⟨j, hj, rfl⟩ := List.mem_iff_getElem.1 hp
  have := h.2.1 j hj
  exact ⟨this.2.2.1, this.2.2.2.1, Rat.not_lt.1 this.2.2.2.2.2⟩
theorem c_pwo (hL : L1 A x L) (hV : LL A y ws) (h : KG L (lists ws)) {pcs : List Pc} (hc : CP L (lists ws) pcs) {o : Nat} {w : AV × List Int} (ho : ws[o]? = some w) {p : Pc} (hp : p ∈ pcs) :
    ACalls Try.prog 66 [.agg [x, y], I o, .agg [I p.r.1, I p.r.2], .agg [I p.s.1, I p.s.2]] A (R (pwo (L.zip w.2) p)) A := by
  have hmr := mem_lists (List.mem_of_getElem? ho)
  obtain ⟨h1, h2, h3⟩ := hc.at hp
  obtain ⟨k1, _, _, p1⟩ := isK_R h h1
  obtain ⟨k2, _, _, p2⟩ := isK_R h h2
  rw [k1, k2]
  exact c_worth hL hV h ho _ _ (p1 _ hmr) (p2 _ hmr) h3
theorem pwo_facts {V : List (List Int)} (h : KG L V) {pcs : List Pc} (hc : CP L V pcs) {r : List Int} (hr : r ∈ V) {p : Pc} (hp : p ∈ pcs) : 0 ≤ pwo (L.zip r) p ∧ pwo (L.zip r) p ≤ ((tot (L.zip r) : Int) : Rat) ∧ Sm (pwo (L.zip r) p) ∧ ((pwo (L.zip r) p).num.natAbs ≤ 2400000000 ∧ ((pwo (L.zip r) p).den : Int) ≤ 1000000) := by
  obtain ⟨D, hD, hDp⟩ := hc.dv
  obtain ⟨h1, h2, h3⟩ := hc.at hp
  obtain ⟨d1, d2⟩ := hDp p hp
  have hg := h.gd hr
  obtain ⟨_, _, _, p2⟩ := isK_R h h2
  have hle := (p2 _ hr).le
  have b1 := upTo_bounds hg 0 (qr p.r)
  have b2 := upTo_bounds hg 0 (qr p.s)
  have hmo := upTo_mono h3 (L.zip r) 0 hg.2
  have hm2 := upTo_mono hle.2 (L.zip r) 0 hg.2
  rw [h.lenz hr, upTo_end h hr] at hm2
  unfold pwo
  have w0 : 0 ≤ upTo 0 (L.zip r) (qr p.s) - upTo 0 (L.zip r) (qr p.r) := by grind
  have w1 : upTo 0 (L.zip r) (qr p.s) - upTo 0 (L.zip r) (qr p.r) ≤ ((2400 : Int) : Rat) := by grind
  have dw := (upTo_Dv d2 (L.zip r) 0).sub (upTo_Dv d1 (L.zip r) 0)
  have nw := num_le (M := 2400) hD.1 dw (int_neg_le_zero (by omega) w0) w1
  exact ⟨w0, by grind, Sm_of (M := 2400) hD.1 (by omega) (by omega) dw (int_neg_le_zero (by omega) w0) w1, by omega, by omega⟩
set_option maxRecDepth 20000 in
theorem s42 (hL : L1 A x L) (hV : LL A y ws) (hs : Sz L ws) {pcs : List Pc} {v : AV} (hP : L5 A v pcs) (hl : pcs.length ≤ 1000000) (hW : ∀ p ∈ pcs, W p.r.1 ∧ W p.s.1) (hg : KG L (lists ws)) (hc : CP L (lists ws) pcs)
    (hown : ∀ o : Nat, o < ws.length → ∃ p ∈ pcs, p.o = o)
    (hne : ∀ (i j k l : Nat) (w : AV × List Int) (p q : Pc), ws[i]? = some w → j < ws.length → At pcs i k p → At pcs j l q → pwo (L.zip w.2) q ≤ pwo (L.zip w.2) p) :
    ACalls Try.prog 42 [.agg [x, y], v] A (.tuple [.nilS, I 0]) A := by
  refine acalls hmix Try.func42 (by kernel_rfl) t42 2 rfl (by decide) ?_
  have hcE : cpE L (lists ws) pcs = 0 := by rw [cpE, if_pos hg.e, if_pos hc]
  have hv5 := hg.v5
  have hll : (lists ws).length = ws.length := by simp
  dsimp only [m42]
  simp (maxSteps := 4000000) -implicitDefEqProofs -dsimp (disch := omega) only [↓AW_ops, ↓AW_seq, ↓AOps_nil, ↓AOps_pu, ↓AOps_call, on_some, ↓then_normal, pval, rd_S, rd_C, put_S, chkd, bgot, AV.cells?, partA, eq_self, List.replicate_succ, List.replicate_zero, List.set_cons_zero, List.set_cons_succ, List.getElem?_cons_zero, List.getElem?_cons_succ, List.drop_zero, List.take_succ_cons, List.take_nil, Option.getD_some, map_c, map_n, List.length_cons, List.length_nil, Nat.reduceAdd, Nat.reduceSub, Nat.reduceLeDiff, Nat.reduceEqDiff, Nat.zero_add, List.cons_append, List.nil_append, if_true, if_false]
  refine CallK.of (s35 hL hV hs hP hl hW) ?_
  simp (maxSteps := 4000000) -implicitDefEqProofs -dsimp (disch := omega) only [↓AW_skip, ↓AW_ops, ↓AW_seq, ↓AW_cond, ↓AW_block, ↓AOps_nil, ↓AOps_pu, on_some, extK_same, condB_f, ↓then_normal, pval, rd_S, rd_C, put_S, ↓AW_toLoop, chkd, isAdr, bgot, AV.cells?, partA, eq_self, List.replicate_succ, List.replicate_zero, List.set_cons_zero, List.set_cons_succ, List.getElem?_cons_zero, List.getElem?_cons_succ, List.drop_zero, List.drop_succ_cons, List.take_succ_cons, List.take_nil, Option.getD_some, List.length_cons, List.length_nil, Nat.reduceAdd, Nat.reduceSub, Nat.reduceLeDiff, Nat.zero_add, List.cons_append, List.nil_append, bin_neq, if_true, if_false, Bool.false_eq_true, decide_false, not_true_eq_false, hcE, hV.ls.len]
  refine LoopK.by 61 (fun i : Nat => i ≤ ws.length) (fun i => [(1, v), (2, .agg [x, y]), (7, .nilS), (20, I ws.length), (21, I i)]) (fun _ => A) (fun i => ws.length - i) 0 (by omega) rfl (by simp [Has, rd_s]) rfl ?_
  intro i hi
  by_cases hlt : i < ws.length
  · obtain ⟨w, hz⟩ : ∃ z, ws[i]? = some z := ⟨_, List.getElem?_eq_getElem hlt⟩
    have hlt' : (i : Int) < ws.length := by omega
    obtain ⟨k, p, hat⟩ := At.ex (hown i hlt)
    have hpm := List.mem_of_getElem? hat.1
    have hmr := mem_lists (List.mem_of_getElem? hz)
    simp (maxSteps := 4000000) -implicitDefEqProofs -dsimp (disch := omega) only [↓AW_skip, ↓AW_ops, ↓AW_seq, ↓AW_cond, ↓AW_block, ↓AOps_nil, ↓AOps_pu, ↓AOps_call, on_some, condB_t, ↓then_normal, pval, rd_S, put_S, mk, List.foldl_cons, List.foldl_nil, List.replicate_succ, List.replicate_zero, List.set_cons_zero, List.set_cons_succ, List.getElem?_cons_zero, List.getElem?_cons_succ, Option.getD_some, map_c, map_n, bin_lss, decide_true, hlt']
    refine CallK.of (c_own hP hl hat) ?_
    simp (maxSteps := 4000000) -implicitDefEqProofs -dsimp (disch := omega) only [↓AW_ops, ↓AW_seq, ↓AW_block, ↓AOps_nil, ↓AOps_pu, on_some, extK_same, ↓then_normal, pval, rd_S, rd_C, put_S, ↓AW_toLoop, chkd, isAdr, bput, bgot, AV.cells?, splice, partA, eq_self, mk, List.foldl_cons, List.foldl_nil, List.replicate_succ, List.replicate_zero, List.set_cons_zero, List.set_cons_succ, List.getElem?_cons_zero, List.getElem?_cons_succ, List.drop_zero, List.drop_succ_cons, List.drop_nil, List.take_zero, List.take_succ_cons, List.take_nil, Option.getD_some, List.length_cons, List.length_nil, Nat.reduceAdd, Nat.reduceLeDiff, Nat.zero_add, List.nil_append, List.append_nil, if_true, if_false, Bool.false_eq_true, ne_eq, not_true_eq_false, hV.ls.len]
    refine LoopK.by 61 (fun j : Nat => j ≤ ws.length) (fun j => [(1, v), (2, .agg [x, y]), (7, .nilS), (8, I i), (9, .agg [I p.o, I p.r.1, I p.r.2, I p.s.1, I p.s.2]), (20, I ws.length), (21, I i), (29, I ws.length), (30, I j)]) (fun _ => A) (fun j => ws.length - j) 0 (by omega) rfl (by simp [Has, rd_s]) rfl ?_
    intro j hj
    by_cases hltj : j < ws.length
    · have hltj' : (j : Int) < ws.length := by omega
      obtain ⟨l, q, hatq⟩ := At.ex (hown j hltj)
      have hqm := List.mem_of_getElem? hatq.1
      obtain ⟨_, _, sp, _⟩ := pwo_facts hg hc hmr hpm
      obtain ⟨_, _, sq, _⟩ := pwo_facts hg hc hmr hqm
      have hle := hne i j k l w p q hz hltj hat hatq
      have hn : ¬ 0 < (pwo (L.zip w.2) q - pwo (L.zip w.2) p).num := fun hh => absurd ((sub_pos_iff _ _).1 hh) (Rat.not_lt.2 hle)
      simp (maxSteps := 4000000) -implicitDefEqProofs -dsimp (disch := omega) only [↓AW_skip, ↓AW_ops, ↓AW_seq, ↓AW_cond, ↓AW_block, ↓AOps_nil, ↓AOps_pu, ↓AOps_call, on_some, condB_t, ↓then_normal, pval, rd_S, put_S, mk, List.foldl_cons, List.foldl_nil, List.replicate_succ, List.replicate_zero, List.set_cons_zero, List.set_cons_succ, List.getElem?_cons_zero, List.getElem?_cons_succ, Option.getD_some, map_c, map_n, bin_lss, decide_true, hltj']
      refine CallK.of (c_own hP hl hatq) ?_
      simp (maxSteps := 4000000) -implicitDefEqProofs -dsimp (disch := omega) only [↓AW_ops, ↓AW_seq, ↓AOps_nil, ↓AOps_pu, ↓AOps_call, on_some, extK_same, ↓then_normal, pval, rd_S, rd_C, put_S, chkd, isAdr, bput, bgot, AV.cells?, splice, partA, eq_self, mk, List.foldl_cons, List.foldl_nil, List.replicate_succ, List.replicate_zero, List.set_cons_zero, List.set_cons_succ, List.getElem?_cons_zero, List.getElem?_cons_succ, List.drop_zero, List.drop_succ_cons, List.drop_nil, List.take_zero, List.take_succ_cons, List.take_nil, Option.getD_some, map_c, map_n, List.length_cons, List.length_nil, Nat.reduceAdd, Nat.reduceLeDiff, Nat.reduceEqDiff, Nat.zero_add, List.nil_append, List.append_nil, if_true, if_false, ne_eq, not_true_eq_false]
      refine CallK.of (c_pwo hL hV hg hc hz hqm) ?_
      simp (maxSteps := 4000000) -implicitDefEqProofs -dsimp (disch := omega) only [↓AOps_pu, ↓AOps_call, on_some, extK_same, pval, rd_S, put_S, chkd, isAdr, bgot, AV.cells?, partA, eq_self, mk, List.foldl_cons, List.foldl_nil, List.replicate_succ, List.replicate_zero, List.set_cons_zero, List.set_cons_succ, List.getElem?_cons_zero, List.getElem?_cons_succ, List.drop_zero, List.drop_succ_cons, List.take_zero, List.take_succ_cons, List.take_nil, Option.getD_some, map_c, map_n, List.length_cons, List.length_nil, Nat.reduceAdd, Nat.reduceLeDiff, Nat.reduceEqDiff, Nat.zero_add, if_true, if_false]
      refine CallK.of (c_pwo hL hV hg hc hz hpm) ?_
      simp (maxSteps := 4000000) -implicitDefEqProofs -dsimp (disch := omega) only [↓AOps_call, extK_same, rd_S, put_S, mk, List.foldl_cons, List.foldl_nil, List.replicate_succ, List.replicate_zero, List.set_cons_zero, List.set_cons_succ, List.getElem?_cons_zero, List.getElem?_cons_succ, Option.getD_some, map_c, map_n]
      refine CallK.of (s65 _ _ _ sq sp) ?_
      simp (maxSteps := 4000000) -implicitDefEqProofs -dsimp (disch := omega) only [↓AW_skip, ↓AW_ops, ↓AW_cond, ↓AOps_nil, ↓AOps_pu, on_some, extK_same, condB_f, ↓then_normal, ↓inBlock_normal, pval, rd_S, rd_C, put_S, eq_self, mk, List.foldl_cons, List.foldl_nil, List.replicate_succ, List.replicate_zero, List.set_cons_zero, List.set_cons_succ, List.getElem?_cons_zero, List.getElem?_cons_succ, Option.getD_some, List.length_cons, List.length_nil, Nat.reduceAdd, Nat.zero_add, bin_add, bin_gtr, w64, decide_false, true_and, hn]
      exact ⟨j + 1, hltj, by simp [Has, rd_s], by omega⟩
    · have hltj' : ¬ ((j : Int) < ws.length) := by omega
      simp (maxSteps := 4000000) -implicitDefEqProofs -dsimp (disch := omega) only [↓AW_ops, ↓AW_seq, ↓AW_cond, ↓AW_exit, ↓AW_ret, ↓AOps_nil, ↓AOps_pu, on_some, condB_f, ↓then_normal, ↓then_exit, ↓inBlock_normal, ↓inBlock_exit, ↓Fin_ret, pval, rd_S, rd_C, put_S, resV, resL, eq_self, mk, List.foldl_cons, List.foldl_nil, List.replicate_succ, List.replicate_zero, List.set_cons_zero, List.set_cons_succ, List.getElem?_cons_zero, List.getElem?_cons_succ, Option.getD_some, List.length_cons, List.length_nil, Nat.reduceAdd, Nat.reduceEqDiff, Nat.zero_add, bin_add, bin_lss, w64, if_true, if_false, decide_false, true_and, reduceCtorEq, hltj']
      exact ⟨i + 1, hlt, by simp [Has, rd_s], by omega⟩
  · have hlt' : ¬ ((i : Int) < ws.length) := by omega
    simp (maxSteps := 4000000) -implicitDefEqProofs -dsimp (disch := omega) only [↓AW_ops, ↓AW_seq, ↓AW_cond, ↓AW_exit, ↓AW_ret, ↓AOps_nil, ↓AOps_pu, on_some, condB_f, ↓then_normal, ↓then_exit, ↓inBlock_exit, ↓Fin_ret, pval, rd_S, rd_C, put_S, resV, resL, eq_self, mk, List.foldl_cons, List.foldl_nil, List.replicate_succ, List.replicate_zero, List.set_cons_zero, List.set_cons_succ, List.getElem?_cons_zero, List.getElem?_cons_succ, Option.getD_some, bin_lss, if_true, decide_false, hlt']
    exact gc_same rfl
theorem At.o {pcs : List Pc} {o : Int} {i : Nat} {p : Pc} (h : At pcs o i p) : p ∈ pcs ∧ p.o = o := ⟨List.mem_of_getElem? h.1, h.2.1⟩
end
end Go.Proofs.Ytmblehbjedpjoaa

namespace Go.Proofs.Ytmblehbjedpjoaa
open Go Go.Eng
end Go.Proofs.Ytmblehbjedpjoaa

namespace Go.Proofs.Ytmblehbjedpjoaa
open Go Go.Eng
section
variable {L : List Int} {ws : List (AV × List Int)} {x y : AV} {A : AHeap}
/-- The part that each owner has of his piece. -/
def prts (L : List Int) (V : List (List Int)) (P : Nat → Pc) : List Rat := (List.range V.length).map fun (o : Nat) => pwo (L.zip (rowOf V o)) (P o) / ((tot (L.zip (rowOf V o)) : Int) : Rat)
theorem c_parts (hL : L1 A x L) (hV : LL A y ws) (h : KG L (lists ws)) {pcs : List Pc} {v : AV} (hP : L5 A v pcs) (hl : pcs.length ≤ 1000000) (hc : CP L (lists ws) pcs) (P : Nat → Pc) (hown : ∀ o : Nat, o < ws.length → ∃ k, At pcs o k (P o)) :
    ACalls Try.prog 82 [.agg [x, y], v] A (outV 2 A ((prts L (lists ws) P).map rp).length) (outH A (((prts L (lists ws) P).map rp).flatMap e2) ((prts L (lists ws) P).map rp).length) := by
  refine acalls hmix Try.func82 (by kernel_rfl) t82 2 rfl (by decide) ?_
  have hv5 := h.v5
  have hll : (lists ws).length = ws.length := by simp
  rw [hll] at hv5
  dsimp only [m82]
  simp (maxSteps := 4000000) -implicitDefEqProofs -dsimp (disch := omega) only [↓AW_ops, ↓AW_seq, ↓AW_block, ↓AOps_nil, ↓AOps_pu, on_some, ↓then_normal, pval, rd_S, rd_C, put_S, ↓AW_toLoop, chkd, isAdr, bgot, AV.cells?, partA, eq_self, List.replicate_succ, List.replicate_zero, List.set_cons_zero, List.set_cons_succ, List.getElem?_cons_zero, List.getElem?_cons_succ, List.drop_zero, List.drop_succ_cons, List.take_succ_cons, List.take_nil, Option.getD_some, List.length_cons, List.length_nil, Nat.reduceAdd, Nat.reduceSub, Nat.reduceLeDiff, Nat.zero_add, List.cons_append, List.nil_append, if_true, if_false, Bool.false_eq_true, hV.ls.len]
  refine LoopK.by 33 (fun z : Nat × AV × AHeap => z.1 ≤ ws.length ∧ AccL 2 e2 A z.2.2 z.2.1 ((prts L (lists ws) P).take z.1 |>.map rp)) (fun z => [(1, v), (2, .agg [x, y]), (5, z.2.1), (10, I ws.length), (11, I z.1)]) (fun z => z.2.2) (fun z => ws.length - z.1) (0, .nilS, A) ⟨by omega, AccL.nil (List.prefix_refl _)⟩ rfl (by simp [Has, rd_s]) rfl ?_
  rintro ⟨i, u, A1⟩ ⟨hi, hu⟩
  simp only at hi hu
  have hL1 := hL.mono hu.pre
  have hV1 := hV.mono hu.pre
  have hP1 := hP.mono hu.pre
  have hpl : (prts L (lists ws) P).length = ws.length := by simp [prts]
  by_cases hlt : i < ws.length
  · obtain ⟨w, hz⟩ : ∃ z, ws[i]? = some z := ⟨_, List.getElem?_eq_getElem hlt⟩
    have hlt' : (i : Int) < ws.length := by omega
    have hmr := mem_lists (List.mem_of_getElem? hz)
    have ht := tot_bound (h.gd hmr)
    have htp := h.tot_pos hmr
    obtain ⟨k, hat⟩ := hown i hlt
    obtain ⟨hpm, hpo⟩ := hat.o
    obtain ⟨f1, f2, f3, f4⟩ := pwo_facts h hc hmr hpm
    have hq : (prts L (lists ws) P)[i]? = some (pwo (L.zip w.2) (P i) / ((tot (L.zip w.2) : Int) : Rat)) := by
      unfold prts
      rw [List.getElem?_map, List.getElem?_range (by omega), Option.map_some, rowOf_at hz]
    have htl : ((prts L (lists ws) P).take i).length = i := by rw [List.length_take]; omega
    obtain ⟨u3, A3, happ, hu3⟩ := hu.push e2_len (rp (pwo (L.zip w.2) (P i) / ((tot (L.zip w.2) : Int) : Rat))) (by rw [List.length_map, htl]; simp [lim]; omega)
    rw [e2_rp] at happ
    have hu3 : AccL 2 e2 A A3 u3 (((prts L (lists ws) P).take (i + 1)).map rp) := by
      rw [List.take_add_one, hq, Option.toList_some, List.map_append]; exact hu3
    simp (maxSteps := 4000000) -implicitDefEqProofs -dsimp (disch := omega) only [↓AW_skip, ↓AW_ops, ↓AW_seq, ↓AW_cond, ↓AW_block, ↓AOps_nil, ↓AOps_pu, ↓AOps_call, on_some, condB_t, ↓then_normal, pval, rd_S, put_S, mk, List.foldl_cons, List.foldl_nil, List.replicate_succ, List.replicate_zero, List.set_cons_zero, List.set_cons_succ, List.getElem?_cons_zero, List.getElem?_cons_succ, Option.getD_some, map_c, map_n, bin_lss, decide_true, hlt']
    refine CallK.of (c_own hP1 hl hat) ?_
    simp (maxSteps := 4000000) -implicitDefEqProofs -dsimp (disch := omega) only [↓AW_ops, ↓AOps_nil, ↓AOps_pu, ↓AOps_call, on_some, extK_same, ↓then_normal, pval, rd_S, rd_C, put_S, chkd, isAdr, bput, bgot, AV.cells?, splice, partA, eq_self, mk, List.foldl_cons, List.foldl_nil, List.replicate_succ, List.replicate_zero, List.set_cons_zero, List.set_cons_succ, List.getElem?_cons_zero, List.getElem?_cons_succ, List.drop_zero, List.drop_succ_cons, List.drop_nil, List.take_zero, List.take_succ_cons, List.take_nil, Option.getD_some, map_c, map_n, List.length_cons, List.length_nil, Nat.reduceAdd, Nat.reduceLeDiff, Nat.reduceEqDiff, Nat.zero_add, List.nil_append, List.append_nil, if_true, if_false, ne_eq, not_true_eq_false]
    refine CallK.of (c_pwo hL1 hV1 h hc hz hpm) ?_
    simp (maxSteps := 4000000) -implicitDefEqProofs -dsimp (disch := omega) only [↓AOps_pu, ↓AOps_call, on_some, extK_same, pval, rd_S, put_S, chkd, bgot, partA, eq_self, mk, List.foldl_cons, List.foldl_nil, List.replicate_succ, List.replicate_zero, List.set_cons_zero, List.set_cons_succ, List.getElem?_cons_zero, List.getElem?_cons_succ, List.drop_zero, List.take_succ_cons, List.take_nil, Option.getD_some, map_c, map_n, List.length_cons, List.length_nil, Nat.reduceAdd, Nat.reduceLeDiff, Nat.reduceEqDiff, Nat.zero_add, if_true, if_false]
    refine CallK.of (c_whole hL1 hV1 h hz) ?_
    simp (maxSteps := 4000000) -implicitDefEqProofs -dsimp (disch := omega) only [↓AOps_call, extK_same, rd_S, put_S, mk, List.foldl_cons, List.foldl_nil, List.replicate_succ, List.replicate_zero, List.set_cons_zero, List.set_cons_succ, List.getElem?_cons_zero, List.getElem?_cons_succ, Option.getD_some, map_c, map_n]
    refine CallK.of (c_Div _ _ _ (by omega) (by omega) ⟨by omega, by omega⟩) ?_
    simp (maxSteps := 4000000) -implicitDefEqProofs -dsimp (disch := omega) only [↓AW_ops, ↓AOps_nil, ↓AOps_pu, ↓AOps_ha, on_some, extK_false, extK_app, extK_same, ↓then_normal, ↓inBlock_normal, pval, hval, rd_S, rd_C, put_S, AV.cells?, splice, fillA, repl, eq_self, mk, List.foldl_cons, List.foldl_nil, List.replicate_succ, List.replicate_zero, List.set_cons_zero, List.set_cons_succ, List.getElem?_cons_zero, List.getElem?_cons_succ, List.drop_succ_cons, List.drop_nil, List.take_zero, Option.getD_some, map_c, map_n, List.length_cons, List.length_nil, Nat.reduceAdd, Nat.reduceLeDiff, Nat.zero_add, List.nil_append, List.append_nil, bin_add, w64, if_true, true_and, and_true, R, happ]
    exact ⟨(i + 1, u3, A3), ⟨hlt, hu3⟩, by simp [Has, rd_s], rfl, by simp only; omega⟩
  · have hlt' : ¬ ((i : Int) < ws.length) := by omega
    simp (maxSteps := 4000000) -implicitDefEqProofs -dsimp (disch := omega) only [↓AW_ops, ↓AW_seq, ↓AW_cond, ↓AW_exit, ↓AW_ret, ↓AOps_nil, ↓AOps_pu, on_some, condB_f, ↓then_normal, ↓then_exit, ↓inBlock_exit, ↓Fin_ret, pval, rd_S, put_S, resV, resL, eq_self, mk, List.foldl_cons, List.foldl_nil, List.replicate_succ, List.replicate_zero, List.set_cons_zero, List.set_cons_succ, List.getElem?_cons_zero, List.getElem?_cons_succ, Option.getD_some, bin_lss, if_true, decide_false, hlt']
    rw [List.take_of_length_le (by omega)] at hu
    exact hu.gc flat_e2
theorem s31 (hL : L1 A x L) (hV : LL A y ws) (hs : Sz L ws) (h : KG L (lists ws)) {pcs : List Pc} {v : AV} (hP : L5 A v pcs) (hl : pcs.length ≤ 1000000) (hW : ∀ p ∈ pcs, W p.r.1 ∧ W p.s.1) (hc : CP L (lists ws) pcs) (P : Nat → Pc) (hown : ∀ o : Nat, o < ws.length → ∃ k, At pcs o k (P o)) :
    ACalls Try.prog 31 [.agg [x, y], v] A (.tuple [outV 2 A ((prts L (lists ws) P).map rp).length, I 0]) (outH A (((prts L (lists ws) P).map rp).flatMap e2) ((prts L (lists ws) P).map rp).length) := by
  refine acalls hmix Try.func31 (by kernel_rfl) t31 2 rfl (by decide) ?_
  have hcE : cpE L (lists ws) pcs = 0 := by rw [cpE, if_pos h.e, if_pos hc]
  dsimp only [m31]
  simp (maxSteps := 4000000) -implicitDefEqProofs -dsimp (disch := omega) only [↓AW_ops, ↓AW_seq, ↓AOps_nil, ↓AOps_pu, ↓AOps_call, on_some, ↓then_normal, pval, rd_S, rd_C, put_S, chkd, bgot, AV.cells?, partA, eq_self, List.replicate_succ, List.replicate_zero, List.set_cons_zero, List.set_cons_succ, List.getElem?_cons_zero, List.getElem?_cons_succ, List.drop_zero, List.take_succ_cons, List.take_nil, Option.getD_some, map_c, map_n, List.length_cons, List.length_nil, Nat.reduceAdd, Nat.reduceSub, Nat.reduceLeDiff, Nat.reduceEqDiff, Nat.zero_add, List.cons_append, List.nil_append, if_true, if_false]
  refine CallK.of (s35 hL hV hs hP hl hW) ?_
  simp (maxSteps := 4000000) -implicitDefEqProofs -dsimp (disch := omega) only [↓AW_skip, ↓AW_ops, ↓AW_seq, ↓AW_cond, ↓AOps_nil, ↓AOps_pu, ↓AOps_call, on_some, extK_same, condB_f, ↓then_normal, pval, rd_S, rd_C, put_S, chkd, bgot, partA, eq_self, List.replicate_succ, List.replicate_zero, List.set_cons_zero, List.set_cons_succ, List.getElem?_cons_zero, List.getElem?_cons_succ, List.drop_zero, List.take_succ_cons, List.take_nil, Option.getD_some, map_c, map_n, List.length_cons, List.length_nil, Nat.reduceAdd, Nat.reduceSub, Nat.reduceLeDiff, Nat.reduceEqDiff, Nat.zero_add, List.cons_append, List.nil_append, bin_neq, if_true, if_false, decide_false, not_true_eq_false, hcE]
  refine CallK.of (c_parts hL hV h hP hl hc P hown) ?_
  simp (maxSteps := 4000000) -implicitDefEqProofs -dsimp (disch := omega) only [↓AW_ret, ↓AOps_nil, ↓AOps_pu, on_some, extK_false, ↓then_normal, ↓Fin_ret, pval, rd_S, rd_C, put_S, resV, resL, List.replicate_succ, List.replicate_zero, List.set_cons_zero, List.set_cons_succ, List.getElem?_cons_zero, List.getElem?_cons_succ, Option.getD_some, Nat.reduceSub, List.cons_append, List.nil_append]
  exact gc_all
end
end Go.Proofs.Ytmblehbjedpjoaa

namespace Go.Proofs.Ytmblehbjedpjoaa
open Go Go.Eng
theorem rsub_mul (a b c : Rat) : (a - b) * c = a * c - b * c := by grind
def without (l : List Int) (p : Int) : List Int := l.filter (fun x => !decide (x = p))
/-- Where an owner calls. -/
def cqI (L : List Int) (V : List (List Int)) (p : Rat) (o : Int) : Rat := cq (fOf L V o) p V.length
/-- The first one for which nothing is before it. -/
def bestF (c : Int → Rat) : Int → List Int → Int
  | out, [] => out
  | out, i :: l => bestF c (if c i < c out then i else out) l
theorem bestF_mem (c : Int → Rat) : ∀ (l : List Int) (out : Int), bestF c out l = out ∨ bestF c out l ∈ l
  | [], out => .inl rfl
  | i :: l, out => by
    rw [bestF]
    rcases bestF_mem c l (if c i < c out then i else out) with h | h
    · rw [h]
      split
      · exact .inr (by simp)
      · exact .inl rfl
    · exact .inr (by simp [h])
theorem bestF_le (c : Int → Rat) : ∀ (l : List Int) (out : Int), c (bestF c out l) ≤ c out ∧ ∀ i ∈ l, c (bestF c out l) ≤ c i
  | [], out => ⟨Rat.le_refl, by simp⟩
  | i :: l, out => by
    rw [bestF]
    obtain ⟨h1, h2⟩ := bestF_le c l (if c i < c out then i else out)
    have h3 : c (if c i < c out then i else out) ≤ c out ∧ c (if c i < c out then i else out) ≤ c i := by
      split
      · rename_i h; exact ⟨Rat.le_of_lt h, Rat.le_refl⟩
      · rename_i h; exact ⟨Rat.le_refl, Rat.not_lt.1 h⟩
    refine ⟨Rat.le_trans h1 h3.1, fun j hj => ?_⟩
    rcases List.mem_cons.1 hj with rfl | hj
    · exact Rat.le_trans h1 h3.2
    · exact h2 j hj
/-- The knife, from a place on, for those who are left. -/
def kn (L : List Int) (V : List (List Int)) : Nat → List Int → Rat → List Pc
  | 0, _, _ => []
  | _ + 1, [], _ => []
  | _ + 1, [o], p => [⟨o, rp p, (L.sum, 1)⟩]
  | k + 1, a :: b :: l, p => ⟨bestF (cqI L V p) a (a :: b :: l), rp p, rp (cqI L V p (bestF (cqI L V p) a (a :: b :: l)))⟩ :: kn L V k (without (a :: b :: l) (bestF (cqI L V p) a (a :: b :: l))) (cqI L V p (bestF (cqI L V p) a (a :: b :: l)))
def chainR (L : List Int) : Int × Int → List Pc → Prop
  | a, [] => a = (L.sum, 1)
  | a, p :: ps => p.r = a ∧ isK L p.r ∧ isK L p.s ∧ ¬ qr p.s < qr p.r ∧ chainR L p.s ps
theorem plc_dvD {f : List (Int × Int)} (hg : good f) {p w z : Rat} {D : Int} (hp : Dv D p) (hw : Dv D w) (hw0 : 0 ≤ w) (h : plc f p w = some z) : ∃ v : Int, (1 ≤ v ∧ v ≤ 20) ∧ Dv (D * v) z := by
  unfold plc at h
  split at h
  · have : p = z := Option.some.inj h
    subst this
    exact ⟨1, by omega, by rw [Int.mul_one]; exact hp⟩
  · rename_i h0
    have hwp : 0 < w := by
      have := Rat.num_nonneg.2 hw0
      exact num_pos_iff w |>.1 (by omega)
    have hbp := upTo_bounds hg 0 p
    obtain ⟨⟨v, hv, b', a', hy⟩, _, _⟩ := rch_some _ (units f) 0 0 z (units_le hg.2) (by have : ((0 : Int) : Rat) = 0 := rfl; grind) h
    refine ⟨v, hv, ?_⟩
    rw [hy]
    exact (Dv_int _ _).add ((((upTo_Dv hp f 0).add hw).sub (Dv_int _ _)).div v (by omega))
structure KI (L : List Int) (V : List (List Int)) (left : List Int) (p : Rat) (D : Int) : Prop where
  nd : left.Nodup
  rg : ∀ o ∈ left, 0 ≤ o ∧ o < V.length
  p0 : 0 ≤ p
  p1 : p ≤ ((L.sum : Int) : Rat)
  dv : Dv D p
  nD : (V.length : Int) ∣ D
  D0 : 0 < D
  D1 : D * 20 ^ (left.length - 1) ≤ 1000000
  fr : ∀ o ∈ left, ((left.length : Int) : Rat) * ((tot (fOf L V o) : Int) : Rat) ≤ (((tot (fOf L V o) : Int) : Rat) - upTo 0 (fOf L V o) p) * ((V.length : Int) : Rat)
theorem fOf_mem {L : List Int} {V : List (List Int)} {o : Int} (h : 0 ≤ o ∧ o < V.length) : ∃ r ∈ V, fOf L V o = L.zip r := by
  have : V[o.toNat]? = some V[o.toNat] := List.getElem?_eq_getElem (by omega)
  refine ⟨_, List.mem_of_getElem? this, ?_⟩
  unfold fOf rowOf
  rw [this]; rfl
theorem pow20 (k : Nat) : 0 < (20 : Int) ^ k := Int.pow_pos (by decide)
theorem KI.den {L : List Int} {V : List (List Int)} {left : List Int} {p : Rat} {D : Int} (h : KI L V left p D) : D ≤ 1000000 ∧ (p.den : Int) ≤ 1000000 := by
  have h1 := h.D1
  have h2 := pow20 (left.length - 1)
  have h3 : D * 1 ≤ D * 20 ^ (left.length - 1) := Int.mul_le_mul_of_nonneg_left (by omega) (by have := h.D0; omega)
  have := Dv_den h.D0 h.dv
  omega
/-- Where each one who is left calls: there he has his part. -/
theorem KI.call {L : List Int} {V : List (List Int)} (hg : KG L V) {left : List Int} {p : Rat} {D : Int} (h : KI L V left p D) (hl : 1 ≤ left.length) {o : Int} (ho : o ∈ left) :
    p ≤ cqI L V p o ∧ cqI L V p o ≤ ((L.sum : Int) : Rat) ∧ (upTo 0 (fOf L V o) (cqI L V p o) - upTo 0 (fOf L V o) p) * ((V.length : Int) : Rat) = ((tot (fOf L V o) : Int) : Rat) ∧ ∃ v : Int, (1 ≤ v ∧ v ≤ 20) ∧ Dv (D * v) (cqI L V p o) := by
  obtain ⟨r, hr, hf⟩ := fOf_mem (L := L) (h.rg o ho)
  have hgd := hg.gd hr
  have hv1 := hg.v1
  have hv5 := hg.v5
  have hfr := h.fr o ho
  have hden := h.den
  unfold cqI
  rw [hf] at hfr ⊢
  have hw := pw_wh hgd (n := 1) (m := V.length) (by omega) (by omega)
  have hpl : Pl (L.zip r) p := Pl_of hg hr h.p0 h.p1 (by omega)
  have hn := cast_pos (show 0 < (V.length : Int) by omega)
  have hwn : pw (L.zip r) 1 V.length * ((V.length : Int) : Rat) = ((tot (L.zip r) : Int) : Rat) := by
    unfold pw
    rw [Int.mul_one]
    exact Rat.div_mul_cancel (cast_ne (by omega))
  have ht0 := cast_nonneg (tot_bound hgd).1
  have hll : (1 : Rat) ≤ ((left.length : Int) : Rat) := by rw [← int1]; exact Rat.intCast_le_intCast.2 (by omega)
  have hle : upTo 0 (L.zip r) p + pw (L.zip r) 1 V.length ≤ ((tot (L.zip r) : Int) : Rat) := by
    refine Rat.le_of_mul_le_mul_right ?_ hn
    have h1 := Rat.mul_le_mul_of_nonneg_right hll ht0
    rw [Rat.one_mul] at h1
    rw [Rat.add_mul, hwn]
    have h2 := Rat.le_trans h1 hfr
    rw [rsub_mul] at h2
    grind
  obtain ⟨z, hz⟩ := plc_ex hgd hpl hw hle
  obtain ⟨a1, a2, a3, _⟩ := plc_y hgd hpl hw hz
  have hDw : Dv D (pw (L.zip r) 1 V.length) := by
    obtain ⟨k, hk⟩ := h.nD
    refine ⟨tot (L.zip r) * k, ?_⟩
    rw [hk, Rat.intCast_mul, Rat.intCast_mul, ← Rat.mul_assoc, hwn]
  obtain ⟨v, hv, hd⟩ := plc_dvD hgd h.dv hDw hw.h0 hz
  have hcq : cq (L.zip r) p V.length = z := by rw [cq, hz]; rfl
  rw [hcq]
  rw [hg.lenz hr] at a2
  refine ⟨a1, a2, ?_, v, hv, hd⟩
  rw [a3, ← hwn]
  grind
theorem without_erase {l : List Int} (hn : l.Nodup) (b : Int) : without l b = l.erase b := by
  rw [hn.erase_eq_filter]
  unfold without
  exact List.filter_congr (fun x _ => by by_cases h : x = b <;> simp [h])
/-- What the knife makes. -/
theorem kn_facts {L : List Int} {V : List (List Int)} (hg : KG L V) : ∀ (k : Nat) (left : List Int) (p : Rat) (D : Int), left.length = k → 1 ≤ k → KI L V left p D →
    ((kn L V k left p).map Pc.o).Perm left ∧ chainR L (rp p) (kn L V k left p) ∧ (∃ E : Int, (0 < E ∧ E ≤ 1000000) ∧ D ∣ E ∧ ∀ q ∈ kn L V k left p, Dv E (qr q.r) ∧ Dv E (qr q.s)) ∧
      ∀ q ∈ kn L V k left p, ((tot (fOf L V q.o) : Int) : Rat) ≤ pwo (fOf L V q.o) q * ((V.length : Int) : Rat)
  | 0, _, _, _, _, h, _ => by omega
  | k + 1, [], _, _, hl, _, _ => by simp at hl
  | k + 1, [o], p, D, hl, _, h => by
    have hden := h.den
    obtain ⟨k1, k2⟩ := rp_isK hg h.p0 h.p1 hden.2
    have hfr := h.fr o (by simp)
    obtain ⟨r, hr, hf⟩ := fOf_mem (L := L) (h.rg o (by simp))
    refine ⟨by simp [kn], ⟨rfl, k1, (isK_ends hg).2, ?_, rfl⟩, ⟨D, ⟨h.D0, hden.1⟩, Int.dvd_refl _, ?_⟩, ?_⟩
    · show ¬ qr (L.sum, 1) < qr (rp p)
      rw [k2, qr_one]
      exact Rat.not_lt.2 h.p1
    · intro q hq
      have : q = ⟨o, rp p, (L.sum, 1)⟩ := by simpa [kn] using hq
      subst this
      simp only
      rw [k2, qr_one]
      exact ⟨h.dv, Dv_int _ _⟩
    · intro q hq
      have : q = ⟨o, rp p, (L.sum, 1)⟩ := by simpa [kn] using hq
      subst this
      unfold pwo
      simp only
      rw [k2, qr_one, hf, upTo_end hg hr]
      rw [hf] at hfr
      have e : (([o].length : Int) : Rat) = 1 := rfl
      rw [e, Rat.one_mul] at hfr
      exact hfr
  | k + 1, a :: b :: l, p, D, hl, _, h => by
    have hden := h.den
    obtain ⟨k1, k2⟩ := rp_isK hg h.p0 h.p1 hden.2
    generalize hleft : a :: b :: l = left at *
    have hkn : kn L V (k + 1) left p = ⟨bestF (cqI L V p) a left, rp p, rp (cqI L V p (bestF (cqI L V p) a left))⟩ :: kn L V k (without left (bestF (cqI L V p) a left)) (cqI L V p (bestF (cqI L V p) a left)) := by
      rw [← hleft]; rfl
    have ham : a ∈ left := by rw [← hleft]; simp
    have hk2 : 2 ≤ left.length := by rw [← hleft]; simp
    have hbm : bestF (cqI L V p) a left ∈ left := by
      rcases bestF_mem (cqI L V p) left a with h1 | h1
      · rw [h1]; exact ham
      · exact h1
    have hbl := (bestF_le (cqI L V p) left a).2
    rw [hkn]
    generalize bestF (cqI L V p) a left = bo at *
    obtain ⟨c1, c2, c3, v, hv, c4⟩ := h.call hg (by omega) hbm
    have hwe := without_erase h.nd bo
    have hwl : (without left bo).length = left.length - 1 := by rw [hwe, List.length_erase_of_mem hbm]
    have hpow : (20 : Int) ^ (left.length - 1) = 20 * 20 ^ (left.length - 1 - 1) := by
      rw [show left.length - 1 = (left.length - 1 - 1) + 1 by omega, Int.pow_succ, Int.mul_comm]
      rfl
    have hD1 := h.D1
    have hDp := h.D0
    have hn : (0 : Rat) ≤ ((V.length : Int) : Rat) := cast_nonneg (by omega)
    have hKI : KI L V (without left bo) (cqI L V p bo) (D * v) := by
      refine ⟨?_, fun o ho => ?_, Rat.le_trans h.p0 c1, c2, c4, Int.dvd_trans h.nD (Int.dvd_mul_right _ _), Int.mul_pos hDp (by omega), ?_, fun o ho => ?_⟩
      · rw [hwe]; exact h.nd.erase _
      · rw [hwe] at ho; exact h.rg o (List.mem_of_mem_erase ho)
      · rw [hwl]
        rw [hpow] at hD1
        have hpp := pow20 (left.length - 1 - 1)
        have e1 : D * v * 20 ^ (left.length - 1 - 1) = (D * 20 ^ (left.length - 1 - 1)) * v := by rw [Int.mul_assoc, Int.mul_comm v, Int.mul_assoc]
        have e2 : D * (20 * 20 ^ (left.length - 1 - 1)) = (D * 20 ^ (left.length - 1 - 1)) * 20 := by rw [Int.mul_comm 20, Int.mul_assoc]
        rw [e1]
        rw [e2] at hD1
        have := Int.mul_le_mul_of_nonneg_left hv.2 (show 0 ≤ D * 20 ^ (left.length - 1 - 1) from Int.le_of_lt (Int.mul_pos hDp hpp))
        omega
      · rw [hwe] at ho
        have hol := List.mem_of_mem_erase ho
        obtain ⟨d1, d2, d3, _⟩ := h.call hg (by omega) hol
        have hfr := h.fr o hol
        obtain ⟨r, hr, hf⟩ := fOf_mem (L := L) (h.rg o hol)
        have hgd := hg.gd hr
        have hmo := upTo_mono (hbl o hol) (fOf L V o) 0 (by rw [hf]; exact hgd.2)
        have hm2 := Rat.mul_le_mul_of_nonneg_right hmo hn
        rw [hwl]
        have e : (((left.length - 1 : Nat) : Int) : Rat) = ((left.length : Int) : Rat) - 1 := by
          rw [show ((left.length - 1 : Nat) : Int) = (left.length : Int) - 1 by omega, Rat.intCast_sub]; rfl
        rw [e]
        rw [rsub_mul] at d3 hfr ⊢
        rw [rsub_mul, Rat.one_mul]
        grind
    have ih := kn_facts hg k (without left bo) (cqI L V p bo) (D * v) (by rw [hwl]; omega) (by omega) hKI
    obtain ⟨i1, i2, ⟨E, hE, hDE, hEq⟩, i4⟩ := ih
    have hden2 := hKI.den
    obtain ⟨m1, m2⟩ := rp_isK hg (Rat.le_trans h.p0 c1) c2 hden2.2
    refine ⟨?_, ⟨rfl, k1, m1, ?_, i2⟩, ⟨E, hE, Int.dvd_trans (Int.dvd_mul_right _ _) hDE, ?_⟩, ?_⟩
    · rw [List.map_cons]
      rw [hwe] at i1
      rw [hwe]
      exact (List.Perm.cons _ i1).trans (List.perm_cons_erase hbm).symm
    · show ¬ qr (rp (cqI L V p bo)) < qr (rp p)
      rw [m2, k2]
      exact Rat.not_lt.2 c1
    · intro q hq
      rcases List.mem_cons.1 hq with rfl | hq
      · simp only
        rw [m2, k2]
        exact ⟨h.dv.dvd (Int.dvd_trans (Int.dvd_mul_right _ _) hDE), c4.dvd hDE⟩
      · exact hEq q hq
    · intro q hq
      rcases List.mem_cons.1 hq with rfl | hq
      · unfold pwo
        simp only
        rw [m2, k2, c3]
        exact Rat.le_refl
      · exact i4 q hq
end Go.Proofs.Ytmblehbjedpjoaa

namespace Go.Proofs.Ytmblehbjedpjoaa
open Go Go.Eng
section
variable {α : Type} {es : Nat} {e : α → List AV} {A H : AHeap} {v : AV} {xs : List α}
theorem AccL_ol (h : AccL es e A H v xs) (he : ∀ x, (e x).length = es) (h0 : 0 < xs.length) : ∃ n, OL es e A H n v xs ∧ v = .sl es n 0 xs.length false := by
  obtain ⟨h1, h2, h3⟩ := h
  rcases h3 with ⟨h4, _⟩ | ⟨_, n, rfl, h5, h6⟩
  · omega
  · exact ⟨n, ⟨he, h1, h5, h6, false, rfl⟩, rfl⟩
end
theorem Ls_nn {α : Type} {es : Nat} {e : α → List AV} {A : AHeap} {v : AV} {xs : List α} (h : Ls es e A v xs) (h0 : 0 < xs.length) : v ≠ .nilS := by
  rintro rfl
  have := h.hc
  simp [slCells] at this
  omega
theorem set_same {α : Type} {l : List α} {n : Nat} {x : α} (h : l[n]? = some x) : l.set n x = l := by
  have hlt := (List.getElem?_eq_some_iff.1 h).1
  have hx := (List.getElem?_eq_some_iff.1 h).2
  rw [← hx]
  exact List.set_getElem_self hlt
end Go.Proofs.Ytmblehbjedpjoaa

namespace Go.Proofs.Ytmblehbjedpjoaa
open Go Go.Eng
/-- Cells that are cleared. -/
def clA (es : Nat) (zero : List AV) (x : AV) (H : AHeap) : Option AHeap :=
  match x with
    | .nilS => some H
    | .sl es' n off len _ => if len = 0 then some H else if es' = es then match H[n]? with
        | some (.cells true l) => if off + len * es ≤ l.length then some (H.set n (.cells true (splice l off (repl zero len)))) else none
        | _ => none
      else none
    | _ => none
theorem hval_clr (es : Nat) (zero : List AV) (x : Opd) (S : List AV) (H : AHeap) : hval (.clr es zero x) S H = (clA es zero (rd S x) H).map (fun H' => (undefA, H')) := by
  simp only [hval, clA]
  cases rd S x with
  | sl es' n off len full =>
    simp only
    by_cases h0 : len = 0
    · simp [h0]
    · by_cases h1 : es' = es
      · simp only [h0, h1, if_true, if_false]
        cases H[n]? with
        | none => rfl
        | some o =>
          cases o with
          | cells rw l =>
            cases rw
            · rfl
            · simp only
              split <;> rfl
          | _ => rfl
      · simp [h0, h1]
  | nilS => rfl
  | _ => rfl
theorem flat_map (xs : List Int) : xs.flatMap e1 = xs.map (fun x => I x) := by
  induction xs with
  | nil => rfl
  | cons a l ih => rw [List.flatMap_cons, ih]; rfl
theorem repl_map : ∀ n, repl [AV.int .i64 0] n = (List.replicate n (0 : Int)).map (fun x => I x)
  | 0 => rfl
  | n + 1 => by rw [repl, repl_map n, List.replicate_succ, List.map_cons]; rfl
/-- A list of the call's own in an object that may have more cells. -/
structure OT (A H : AHeap) (n : Nat) (v : AV) (xs tl : List Int) : Prop where
  pre : A <+: H
  new : A.length ≤ n
  ob : H[n]? = some (.cells true ((xs ++ tl).flatMap e1))
  v : v = .sl 1 n 0 xs.length false
section
variable {A H : AHeap} {n : Nat} {v : AV} {xs tl : List Int}
theorem OT.lt (h : OT A H n v xs tl) : n < H.length := (List.getElem?_eq_some_iff.1 h.ob).1
theorem OT.ls (h : OT A H n v xs tl) : L1 H v xs := by
  refine ⟨e1_len, ?_⟩
  rw [h.v]
  simp only [slCells, cellsAt, h.ob, if_true, Nat.zero_add]
  rw [flat_map, if_pos (by simp), flat_map]
  simp
theorem OT.ol (h : OT A H n v xs tl) : OL 1 e1 A H n (.sl 1 n 0 (xs ++ tl).length false) (xs ++ tl) := ⟨e1_len, h.pre, h.new, h.ob, false, rfl⟩
theorem OT.setAll (h : OT A H n v xs tl) (ys : List Int) (hl : ys.length = xs.length) : OT A (H.set n (.cells true ((ys ++ tl).flatMap e1))) n v ys tl :=
  ⟨pre_set h.pre h.new _, h.new, by rw [List.getElem?_set_self h.lt], by rw [h.v, hl]⟩
theorem OT.st (h : OT A H n v xs tl) {i : Nat} (hi : i < xs.length) (z : Int) : stA 1 (.ptr (nm v) (of v + i * 1)) (I z) H = some (H.set n (.cells true ((xs.set i z ++ tl).flatMap e1))) := by
  have := h.ol.st (i := i) (by simp; omega) (I z) z rfl
  rw [List.set_append_left _ _ hi] at this
  rw [h.v]
  exact this
theorem OT.clr (h : OT A H n v xs tl) (i : Nat) (hi : i ≤ xs.length) (full : Bool) :
    clA 1 [.int .i64 0] (.sl 1 n (i * 1) (xs.length - i) full) H = some (H.set n (.cells true ((xs.take i ++ (List.replicate (xs.length - i) 0 ++ tl)).flatMap e1))) := by
  unfold clA
  by_cases h0 : xs.length - i = 0
  · have : i = xs.length := by omega
    simp only [h0, if_true]
    rw [List.replicate_zero, List.nil_append, List.take_of_length_le (by omega), set_same h.ob]
  · simp only [h0, if_false, if_true, h.ob]
    rw [if_pos (by rw [flat_map]; simp; omega), repl_map]
    congr 3
    unfold splice
    rw [flat_map, flat_map]
    simp only [List.map_append, List.length_map, List.length_replicate, Nat.mul_one]
    rw [← List.map_append, ← List.map_take, ← List.map_drop, List.take_append_of_le_length hi, show i + (xs.length - i) = xs.length by omega, List.drop_left]
    rw [List.append_assoc]
end
theorem fpos_in {xs : List Int} {p : Int} (h : p ∈ xs) : ∃ i : Nat, fpos (fun x => decide (x = p)) xs = i ∧ xs[i]? = some p ∧ ∀ y ∈ xs.take i, y ≠ p := by
  have key : ∃ i : Nat, xs[i]? = some p ∧ ∀ y ∈ xs.take i, y ≠ p := by
    induction xs with
    | nil => simp at h
    | cons a l ih =>
      by_cases ha : a = p
      · exact ⟨0, by simp [ha], by simp⟩
      · rcases List.mem_cons.1 h with rfl | h
        · exact absurd rfl ha
        · obtain ⟨i, h1, h2⟩ := ih h
          refine ⟨i + 1, by simpa using h1, fun y hy => ?_⟩
          rw [List.take_succ_cons] at hy
          rcases List.mem_cons.1 hy with rfl | hy
          · exact ha
          · exact h2 y hy
  obtain ⟨i, h1, h2⟩ := key
  exact ⟨i, fpos_some (fun y hy => decide_eq_false (h2 y hy)) h1 (by simp), h1, h2⟩
theorem without_take {l : List Int} {j : Nat} {z p : Int} (h : l[j]? = some z) : without (l.take (j + 1)) p = without (l.take j) p ++ if z = p then [] else [z] := by
  unfold without
  rw [List.take_add_one, h, List.filter_append]
  by_cases hz : z = p <;> simp [hz]
theorem s86 {x p : Int} {A : AHeap} {a : Nat} (h : ldA 1 false (.ptr a 0) A = some (I p)) : ACalls Try.prog 86 [I x, .ptr a 0] A (B (decide (x = p))) A := by
  refine acalls hmix Try.func86 (by kernel_rfl) t86 2 rfl (by decide) ?_
  dsimp only [m86]
  simp (maxSteps := 4000000) -implicitDefEqProofs -dsimp (disch := omega) only [↓AW_ops, ↓AW_seq, ↓AW_ret, ↓AOps_nil, ↓AOps_pu, ↓AOps_ld, on_some, ↓then_normal, ↓Fin_ret, pval, lval, rd_S, rd_C, put_S, resV, resL, List.replicate_succ, List.replicate_zero, List.set_cons_zero, List.set_cons_succ, List.getElem?_cons_zero, List.getElem?_cons_succ, Option.getD_some, Nat.reduceSub, List.cons_append, List.nil_append, bin_eql, h]
  exact gc_same rfl
set_option maxHeartbeats 1000000 in
theorem c_del {A H : AHeap} {n a : Nat} {xs tl : List Int} {p : Int} (h : OT A H n (.sl 1 n 0 xs.length false) xs tl) (hl : xs.length ≤ 1000) (ha : a ≠ n) (hp : ldA 1 false (.ptr a 0) H = some (I p)) (hmem : p ∈ xs) :
    ACalls Try.prog 85 [.sl 1 n 0 xs.length false, .fn 86 [.ptr a 0]] H (.sl 1 n 0 (without xs p).length false) (H.set n (.cells true ((without xs p ++ (List.replicate (xs.length - (without xs p).length) 0 ++ tl)).flatMap e1))) := by
  refine acalls hmix Try.func85 (by kernel_rfl) t85 2 rfl (by decide) ?_
  have hpk : ∀ ys : List Int, ldA 1 false (.ptr a 0) (H.set n (.cells true (ys.flatMap e1))) = some (I p) := fun ys => by
    unfold ldA at hp ⊢
    simp only at hp ⊢
    rw [List.getElem?_set_ne (Ne.symm ha)]
    exact hp
  have hln : ∀ k, lenA (.sl 1 n 0 k false) = some (I k) := fun k => rfl
  dsimp only [m85]
  simp (maxSteps := 4000000) -implicitDefEqProofs -dsimp (disch := omega) only [↓AW_ops, ↓AW_seq, ↓AOps_nil, ↓AOps_pu, ↓AOps_call, on_some, ↓then_normal, pval, rd_S, rd_C, put_S, List.replicate_succ, List.replicate_zero, List.set_cons_zero, List.set_cons_succ, List.getElem?_cons_zero, List.getElem?_cons_succ, Option.getD_some, map_c, map_n, Nat.reduceSub, List.cons_append, List.nil_append]
  refine CallK.of (c_IndexFunc h.ls (by omega) 86 [.ptr a 0] (fun x => decide (x = p)) (fun x _ => s86 hp)) ?_
  obtain ⟨i0, hfe, hz0, hpre⟩ := fpos_in hmem
  have hi0 : i0 < xs.length := (List.getElem?_eq_some_iff.1 hz0).1
  rw [hfe]
  have hne : ¬ (i0 : Int) = -1 := by omega
  have hw0 : without (xs.take i0) p = xs.take i0 := by
    unfold without
    rw [List.filter_eq_self]
    intro y hy
    simp [hpre y hy]
  have hw1 : without (xs.take (i0 + 1)) p = xs.take i0 := by rw [without_take hz0, if_pos rfl, hw0, List.append_nil]
  simp (maxSteps := 4000000) -implicitDefEqProofs -dsimp (disch := omega) only [↓AW_skip, ↓AW_ops, ↓AW_seq, ↓AW_cond, ↓AW_block, ↓AOps_nil, ↓AOps_pu, on_some, extK_same, condB_f, ↓then_normal, pval, rd_S, rd_C, put_S, ↓AW_toLoop, List.replicate_succ, List.replicate_zero, List.set_cons_zero, List.set_cons_succ, List.getElem?_cons_zero, List.getElem?_cons_succ, Option.getD_some, Nat.reduceSub, List.cons_append, List.nil_append, bin_add, bin_eql, w64, decide_false, Int.reduceNeg, hne]
  refine LoopK.by 42 (fun x : Nat × Nat × List Int => (x.2.1 ≤ xs.length ∧ x.1 < x.2.1) ∧ x.2.2.length = xs.length ∧ x.2.2.take x.1 = without (xs.take x.2.1) p ∧ x.2.2.drop x.2.1 = xs.drop x.2.1) (fun x => [(0, .sl 1 n 0 xs.length false), (1, .fn 86 [.ptr a 0]), (5, I x.1), (6, I x.2.1)]) (fun x => H.set n (.cells true ((x.2.2 ++ tl).flatMap e1))) (fun x => xs.length - x.2.1) (i0, i0 + 1, xs) ⟨by simp only; omega, rfl, hw1.symm, rfl⟩ rfl (by simp [Has, rd_s]) (by simp only; rw [set_same h.ob]) ?_
  rintro ⟨i, j, ys⟩ ⟨⟨hj, hij⟩, hyl, hyt, hyd⟩
  simp only at hj hij hyl hyt hyd
  have ho := h.setAll ys hyl
  have hwl : (without (xs.take j) p).length = i := by rw [← hyt, List.length_take]; omega
  by_cases hlt : j < xs.length
  · have hlt' : (j : Int) < xs.length := by omega
    obtain ⟨z, hz⟩ : ∃ z, xs[j]? = some z := ⟨_, List.getElem?_eq_getElem hlt⟩
    have hzy : ys[j]? = some z := by
      have : (ys.drop j)[0]? = (xs.drop j)[0]? := by rw [hyd]
      rw [List.getElem?_drop, List.getElem?_drop, Nat.add_zero] at this
      rw [this]; exact hz
    have hjy : j < ys.length := by omega
    have hiy : i < ys.length := by omega
    simp (maxSteps := 4000000) -implicitDefEqProofs -dsimp (disch := omega) only [↓AW_skip, ↓AW_ops, ↓AW_seq, ↓AW_cond, ↓AW_block, ↓AOps_nil, ↓AOps_pu, ↓AOps_ld, ↓AOps_callv, on_some, CallF_fn, condB_t, ↓then_normal, pval, lval, rd_S, put_S, partA, eq_self, mk, List.foldl_cons, List.foldl_nil, List.replicate_succ, List.replicate_zero, List.set_cons_zero, List.set_cons_succ, List.getElem?_cons_zero, List.getElem?_cons_succ, List.drop_zero, List.take_succ_cons, List.take_nil, Option.getD_some, map_c, map_n, List.length_cons, List.length_nil, Nat.reduceLeDiff, Nat.zero_add, List.cons_append, List.nil_append, bin_lss, if_true, if_false, Bool.false_eq_true, decide_true, Go.Eng.e1, hlt', hln, ho.ls.idx hjy, ho.ls.ld0 hzy 1 false (by decide)]
    refine CallK.of (s86 (hpk (ys ++ tl))) ?_
    by_cases hzp : z = p
    · simp (maxSteps := 4000000) -implicitDefEqProofs -dsimp (disch := omega) only [↓AW_skip, ↓AW_ops, ↓AW_cond, ↓AOps_nil, ↓AOps_pu, on_some, extK_same, condB_f, ↓then_normal, ↓inBlock_normal, pval, rd_S, rd_C, put_S, eq_self, mk, List.foldl_cons, List.foldl_nil, List.replicate_succ, List.replicate_zero, List.set_cons_zero, List.set_cons_succ, List.getElem?_cons_zero, List.getElem?_cons_succ, Option.getD_some, List.length_cons, List.length_nil, Nat.reduceAdd, Nat.zero_add, bin_add, w64, Bool.not_true, decide_true, true_and, hzp]
      refine ⟨(i, j + 1, ys), ⟨⟨hlt, by simp only; omega⟩, hyl, ?_, ?_⟩, by simp [Has, rd_s], rfl, by simp only; omega⟩
      · simp only; rw [without_take hz, if_pos hzp, List.append_nil]; exact hyt
      · simp only
        rw [← List.drop_drop, ← List.drop_drop, hyd]
    · have hst := ho.st hiy z
      rw [List.set_set] at hst
      simp (maxSteps := 4000000) -implicitDefEqProofs -dsimp (disch := omega) only [↓AW_ops, ↓AW_seq, ↓AW_cond, ↓AOps_nil, ↓AOps_pu, ↓AOps_ha, on_some, extK_false, extK_same, condB_t, ↓then_normal, ↓inBlock_normal, pval, hval_st, rd_S, rd_C, put_S, putS_none, eq_self, mk, List.foldl_cons, List.foldl_nil, List.replicate_succ, List.replicate_zero, List.set_cons_zero, List.set_cons_succ, List.getElem?_cons_zero, List.getElem?_cons_succ, Option.getD_some, Option.map_some, List.length_cons, List.length_nil, Nat.reduceAdd, Nat.zero_add, bin_add, w64, Bool.not_false, decide_false, true_and, hzp, ho.ls.idx hiy, hst]
      refine ⟨(i + 1, j + 1, ys.set i z), ⟨⟨hlt, by simp only; omega⟩, by simp [hyl], ?_, ?_⟩, by simp [Has, rd_s], rfl, by simp only; omega⟩
      · simp only
        rw [without_take hz, if_neg hzp, ← hyt, List.take_add_one, List.getElem?_set_self hiy, Option.toList_some, List.take_set_of_le (Nat.le_refl _)]
      · simp only
        rw [List.drop_set_of_lt (by omega), ← List.drop_drop, ← List.drop_drop, hyd]
  · have hlt' : ¬ ((j : Int) < xs.length) := by omega
    rw [show xs.take j = xs from List.take_of_length_le (by omega)] at hyt hwl
    have hs1 : slcA 1 (.sl 1 n 0 xs.length false) (some (I i)) none none = some (.sl 1 n (i * 1) (xs.length - i) false) := by
      have : i ≤ xs.length := by omega
      simp [slcA, bnd, this]
    have hs2 : slcA 1 (.sl 1 n 0 xs.length false) none (some (I i)) none = some (.sl 1 n 0 i false) := by
      have : i ≤ xs.length := by omega
      simp [slcA, bnd, this]
    have hc := ho.clr i (by omega) false
    rw [hyl, List.set_set, hyt] at hc
    simp (maxSteps := 4000000) -implicitDefEqProofs -dsimp (disch := omega) only [↓AW_ops, ↓AW_seq, ↓AW_cond, ↓AW_exit, ↓AW_ret, ↓AOps_nil, ↓AOps_pu, ↓AOps_ha, on_some, extK_false, condB_f, ↓then_normal, ↓then_exit, ↓inBlock_exit, ↓Fin_ret, pval, rd_S, put_S, putS_none, resV, resL, eq_self, mk, List.foldl_cons, List.foldl_nil, List.replicate_succ, List.replicate_zero, List.set_cons_zero, List.set_cons_succ, List.getElem?_cons_zero, List.getElem?_cons_succ, Option.getD_some, Option.map_some, Option.map_none, bin_lss, if_true, decide_false, hlt', hln, hs1, hval_clr, hc, hs2]
    exact gc_same_all (by rw [hwl]) (by rw [hwl])
theorem s84 {H : AHeap} {a : Nat} {lv : AV} {ls : List (Int × Int)} (hld : ldA 1 false (.ptr a 0) H = some lv) (hls : L2 H lv ls) {i : Int} {q : Rat} (h0 : 0 ≤ i) (hi : ls[i.toNat]? = some (rp q)) : ACalls Try.prog 84 [I i, .ptr a 0] H (R q) H := by
  refine acalls hmix Try.func84 (by kernel_rfl) t84 2 rfl (by decide) ?_
  have hlt := (List.getElem?_eq_some_iff.1 hi).1
  dsimp only [m84]
  simp (maxSteps := 4000000) -implicitDefEqProofs -dsimp (disch := omega) only [↓AW_ops, ↓AW_seq, ↓AW_ret, ↓AOps_nil, ↓AOps_pu, ↓AOps_ld, on_some, ↓then_normal, ↓Fin_ret, pval, lval, rd_S, rd_C, put_S, resV, resL, chkd, bput, bgot, AV.cells?, splice, partA, eq_self, List.replicate_succ, List.replicate_zero, List.set_cons_zero, List.set_cons_succ, List.getElem?_cons_zero, List.getElem?_cons_succ, List.drop_zero, List.drop_succ_cons, List.drop_nil, List.take_zero, List.take_succ_cons, List.take_nil, Option.getD_some, List.length_cons, List.length_nil, Nat.reduceAdd, Nat.reduceSub, Nat.reduceLeDiff, Nat.reduceEqDiff, Nat.zero_add, List.cons_append, List.nil_append, List.append_nil, if_true, if_false, Go.Eng.e2, ne_eq, not_true_eq_false, hld, hls.idxI h0 (by omega : i < ls.length), hls.ld0 hi 2 true (by decide)]
  exact gc_same rfl
theorem c_first {H : AHeap} {v : AV} {xs : List Int} {x0 : Int} (hx : L1 H v xs) (h0 : xs[0]? = some x0) (hl : xs.length ≤ 1000) {a : Nat} (c : Int → Rat) (hc : ∀ i ∈ xs, ACalls Try.prog 84 [I i, .ptr a 0] H (R (c i)) H) (hs : ∀ i ∈ xs, Sm (c i)) :
    ACalls Try.prog 83 [v, .fn 84 [.ptr a 0], .fn 65 []] H (I (bestF c x0 xs)) H := by
  refine acalls hmix Try.func83 (by kernel_rfl) t83 3 rfl (by decide) ?_
  have hlt0 := (List.getElem?_eq_some_iff.1 h0).1
  have i0 := hx.idx (k := .i64) hlt0
  have l0 := hx.ld0 h0 1 false (by decide)
  rw [show ((0 : Nat) : Int) = 0 from rfl] at i0
  rw [Nat.zero_mul, Nat.add_zero] at i0 l0
  dsimp only [m83]
  simp (maxSteps := 4000000) -implicitDefEqProofs -dsimp (disch := omega) only [↓AW_ops, ↓AW_seq, ↓AW_block, ↓AOps_nil, ↓AOps_pu, ↓AOps_ld, on_some, ↓then_normal, pval, lval, rd_S, rd_C, put_S, ↓AW_toLoop, partA, eq_self, List.replicate_succ, List.replicate_zero, List.set_cons_zero, List.set_cons_succ, List.getElem?_cons_zero, List.getElem?_cons_succ, List.drop_zero, List.take_succ_cons, List.take_nil, Option.getD_some, List.length_cons, List.length_nil, Nat.reduceSub, Nat.reduceLeDiff, Nat.zero_add, List.cons_append, List.nil_append, if_true, if_false, Bool.false_eq_true, Go.Eng.e1, i0, l0, hx.len]
  refine LoopK.by 31 (fun s : Nat × Int => s.1 ≤ xs.length ∧ s.2 ∈ xs ∧ bestF c x0 xs = bestF c s.2 (xs.drop s.1)) (fun s => [(1, .fn 84 [.ptr a 0]), (2, .fn 65 []), (7, I s.2), (13, v), (14, I xs.length), (15, I s.1)]) (fun _ => H) (fun s => xs.length - s.1) (0, x0) ⟨by simp only; omega, List.mem_of_getElem? h0, rfl⟩ rfl (by simp [Has, rd_s]) rfl ?_
  rintro ⟨k, out⟩ ⟨hk, hom, hb⟩
  simp only at hk hom hb
  by_cases hlt : k < xs.length
  · obtain ⟨z, hz⟩ : ∃ z, xs[k]? = some z := ⟨_, List.getElem?_eq_getElem hlt⟩
    have hlt' : (k : Int) < xs.length := by omega
    have hzm := List.mem_of_getElem? hz
    have hdr : xs.drop k = z :: xs.drop (k + 1) := by
      have := (List.getElem?_eq_some_iff.1 hz).2
      rw [← this]; exact List.drop_eq_getElem_cons hlt
    rw [hdr, bestF] at hb
    simp (maxSteps := 4000000) -implicitDefEqProofs -dsimp (disch := omega) only [↓AW_skip, ↓AW_ops, ↓AW_seq, ↓AW_cond, ↓AW_block, ↓AOps_nil, ↓AOps_pu, ↓AOps_ld, ↓AOps_callv, on_some, CallF_fn, condB_t, ↓then_normal, pval, lval, rd_S, put_S, partA, eq_self, mk, List.foldl_cons, List.foldl_nil, List.replicate_succ, List.replicate_zero, List.set_cons_zero, List.set_cons_succ, List.getElem?_cons_zero, List.getElem?_cons_succ, List.drop_zero, List.take_succ_cons, List.take_nil, Option.getD_some, map_c, map_n, List.length_cons, List.length_nil, Nat.reduceLeDiff, Nat.zero_add, List.cons_append, List.nil_append, bin_lss, if_true, if_false, Bool.false_eq_true, decide_true, Go.Eng.e1, hlt', hx.idx hlt, hx.ld0 hz 1 false (by decide)]
    refine CallK.of (hc z hzm) ?_
    simp (maxSteps := 4000000) -implicitDefEqProofs -dsimp (disch := omega) only [↓AOps_pu, ↓AOps_callv, on_some, extK_same, CallF_fn, pval, rd_S, put_S, mk, List.foldl_cons, List.foldl_nil, List.replicate_succ, List.replicate_zero, List.set_cons_zero, List.set_cons_succ, List.getElem?_cons_zero, List.getElem?_cons_succ, Option.getD_some, map_c, map_n, List.cons_append, List.nil_append]
    refine CallK.of (hc out hom) ?_
    simp (maxSteps := 4000000) -implicitDefEqProofs -dsimp (disch := omega) only [↓AOps_callv, extK_same, CallF_fn, rd_S, put_S, mk, List.foldl_cons, List.foldl_nil, List.replicate_succ, List.replicate_zero, List.set_cons_zero, List.set_cons_succ, List.getElem?_cons_zero, List.getElem?_cons_succ, Option.getD_some, map_c, map_n, List.append_nil]
    refine CallK.of (s65 _ _ _ (hs z hzm) (hs out hom)) ?_
    by_cases h1 : c z < c out
    · have hn := (sub_neg_iff _ _).2 h1
      rw [if_pos h1] at hb
      simp (maxSteps := 4000000) -implicitDefEqProofs -dsimp (disch := omega) only [↓AW_ops, ↓AW_cond, ↓AOps_nil, ↓AOps_pu, on_some, extK_same, condB_t, ↓then_normal, ↓inBlock_normal, pval, rd_S, rd_C, put_S, eq_self, mk, List.foldl_cons, List.foldl_nil, List.replicate_succ, List.replicate_zero, List.set_cons_zero, List.set_cons_succ, List.getElem?_cons_zero, List.getElem?_cons_succ, Option.getD_some, List.length_cons, List.length_nil, Nat.reduceAdd, Nat.zero_add, bin_add, bin_lss, w64, decide_true, true_and, hn]
      exact ⟨(k + 1, z), ⟨hlt, hzm, hb⟩, by simp [Has, rd_s], by simp only; omega⟩
    · have hn : ¬ (c z - c out).num < 0 := fun hh => h1 ((sub_neg_iff _ _).1 hh)
      rw [if_neg h1] at hb
      simp (maxSteps := 4000000) -implicitDefEqProofs -dsimp (disch := omega) only [↓AW_skip, ↓AW_ops, ↓AW_cond, ↓AOps_nil, ↓AOps_pu, on_some, extK_same, condB_f, ↓then_normal, ↓inBlock_normal, pval, rd_S, rd_C, put_S, eq_self, mk, List.foldl_cons, List.foldl_nil, List.replicate_succ, List.replicate_zero, List.set_cons_zero, List.set_cons_succ, List.getElem?_cons_zero, List.getElem?_cons_succ, Option.getD_some, List.length_cons, List.length_nil, Nat.reduceAdd, Nat.zero_add, bin_add, bin_lss, w64, decide_false, true_and, hn]
      exact ⟨(k + 1, out), ⟨hlt, hom, hb⟩, by simp [Has, rd_s], by simp only; omega⟩
  · have hlt' : ¬ ((k : Int) < xs.length) := by omega
    rw [List.drop_of_length_le (by omega)] at hb
    simp (maxSteps := 4000000) -implicitDefEqProofs -dsimp (disch := omega) only [↓AW_ops, ↓AW_seq, ↓AW_cond, ↓AW_exit, ↓AW_ret, ↓AOps_nil, ↓AOps_pu, on_some, condB_f, ↓then_normal, ↓then_exit, ↓inBlock_exit, ↓Fin_ret, pval, rd_S, put_S, resV, resL, eq_self, mk, List.foldl_cons, List.foldl_nil, List.replicate_succ, List.replicate_zero, List.set_cons_zero, List.set_cons_succ, List.getElem?_cons_zero, List.getElem?_cons_succ, Option.getD_some, bin_lss, if_true, decide_false, hlt']
    exact gc_same (by rw [hb]; rfl)
end Go.Proofs.Ytmblehbjedpjoaa

namespace Go.Proofs.Ytmblehbjedpjoaa
open Go Go.Eng
theorem KI.dvb {L : List Int} {V : List (List Int)} {left : List Int} {p : Rat} {D : Int} (h : KI L V left p D) (hl : 2 ≤ left.length) {v : Int} (hv : 1 ≤ v ∧ v ≤ 20) : 0 < D * v ∧ D * v ≤ 1000000 := by
  have h1 := h.D1
  have h0 := h.D0
  have hpow : (20 : Int) ^ (left.length - 1) = 20 * 20 ^ (left.length - 1 - 1) := by
    rw [show left.length - 1 = (left.length - 1 - 1) + 1 by omega, Int.pow_succ, Int.mul_comm]
    rfl
  have hp := pow20 (left.length - 1 - 1)
  rw [hpow] at h1
  have h2 : D * (20 * 1) ≤ D * (20 * 20 ^ (left.length - 1 - 1)) := Int.mul_le_mul_of_nonneg_left (by omega) (by omega)
  have h3 : D * v ≤ D * 20 := Int.mul_le_mul_of_nonneg_left hv.2 (by omega)
  exact ⟨Int.mul_pos h0 (by omega), by omega⟩
/-- After one has called. -/
theorem KI.next {L : List Int} {V : List (List Int)} (hg : KG L V) {left : List Int} {p : Rat} {D : Int} (h : KI L V left p D) (hl : 2 ≤ left.length) {b : Int} (hbl : ∀ i ∈ left, cqI L V p b ≤ cqI L V p i) (hbm : b ∈ left) :
    ∃ D', KI L V (without left b) (cqI L V p b) D' ∧ (without left b).length = left.length - 1 := by
  obtain ⟨c1, c2, c3, v, hv, c4⟩ := h.call hg (by omega) hbm
  have hwe := without_erase h.nd b
  have hwl : (without left b).length = left.length - 1 := by rw [hwe, List.length_erase_of_mem hbm]
  have hpow : (20 : Int) ^ (left.length - 1) = 20 * 20 ^ (left.length - 1 - 1) := by
    rw [show left.length - 1 = (left.length - 1 - 1) + 1 by omega, Int.pow_succ, Int.mul_comm]
    rfl
  have hD1 := h.D1
  have hDp := h.D0
  have hn : (0 : Rat) ≤ ((V.length : Int) : Rat) := cast_nonneg (by omega)
  have hKI : KI L V (without left b) (cqI L V p b) (D * v) := by
    refine ⟨?_, fun o ho => ?_, Rat.le_trans h.p0 c1, c2, c4, Int.dvd_trans h.nD (Int.dvd_mul_right _ _), Int.mul_pos hDp (by omega), ?_, fun o ho => ?_⟩
    · rw [hwe]; exact h.nd.erase _
    · rw [hwe] at ho; exact h.rg o (List.mem_of_mem_erase ho)
    · rw [hwl]
      rw [hpow] at hD1
      have hpp := pow20 (left.length - 1 - 1)
      have e1 : D * v * 20 ^ (left.length - 1 - 1) = (D * 20 ^ (left.length - 1 - 1)) * v := by rw [Int.mul_assoc, Int.mul_comm v, Int.mul_assoc]
      have e2 : D * (20 * 20 ^ (left.length - 1 - 1)) = (D * 20 ^ (left.length - 1 - 1)) * 20 := by rw [Int.mul_comm 20, Int.mul_assoc]
      rw [e1]
      rw [e2] at hD1
      have := Int.mul_le_mul_of_nonneg_left hv.2 (show 0 ≤ D * 20 ^ (left.length - 1 - 1) from Int.le_of_lt (Int.mul_pos hDp hpp))
      omega
    · rw [hwe] at ho
      have hol := List.mem_of_mem_erase ho
      obtain ⟨d1, d2, d3, _⟩ := h.call hg (by omega) hol
      have hfr := h.fr o hol
      obtain ⟨r, hr, hf⟩ := fOf_mem (L := L) (h.rg o hol)
      have hgd := hg.gd hr
      have hmo := upTo_mono (hbl o hol) (fOf L V o) 0 (by rw [hf]; exact hgd.2)
      have hm2 := Rat.mul_le_mul_of_nonneg_right hmo hn
      rw [hwl]
      have e : (((left.length - 1 : Nat) : Int) : Rat) = ((left.length : Int) : Rat) - 1 := by
        rw [show ((left.length - 1 : Nat) : Int) = (left.length : Int) - 1 by omega, Rat.intCast_sub]; rfl
      rw [e]
      rw [rsub_mul] at d3 hfr ⊢
      rw [rsub_mul, Rat.one_mul]
      grind
  exact ⟨D * v, hKI, hwl⟩
/-- The list of those who are left, and what has been made. -/
structure KS (A H : AHeap) (nl : Nat) (left tl : List Int) (u : AV) (K : List Pc) : Prop where
  ot : OT A H nl (.sl 1 nl 0 left.length false) left tl
  out : (K = [] ∧ u = .nilS) ∨ ∃ no, 0 < K.length ∧ u = .sl 5 no 0 K.length false ∧ A.length ≤ no ∧ no ≠ nl ∧ H[no]? = some (.cells true (K.flatMap e5))
  Kl : K.length ≤ 1000
section
variable {A H H' : AHeap} {nl : Nat} {left tl : List Int} {u : AV} {K : List Pc}
theorem KS.mono (h : KS A H nl left tl u K) (hp : H <+: H') : KS A H' nl left tl u K := by
  refine ⟨⟨h.ot.pre.trans hp, h.ot.new, pre_get hp h.ot.ob, rfl⟩, ?_, h.Kl⟩
  rcases h.out with h1 | ⟨no, h1, h2, h3, h4, h5⟩
  · exact .inl h1
  · exact .inr ⟨no, h1, h2, h3, h4, pre_get hp h5⟩
theorem KS.no_lt (h : KS A H nl left tl u K) {no len : Nat} (hu : u = .sl 5 no 0 len false) : no < H.length := by
  rcases h.out with ⟨_, h2⟩ | ⟨no', _, h2, _, _, h5⟩
  · rw [h2] at hu; cases hu
  · rw [h2] at hu; cases hu
    exact (List.getElem?_eq_some_iff.1 h5).1
theorem KS.del (h : KS A H nl left tl u K) (left' tl' : List Int) : KS A (H.set nl (.cells true ((left' ++ tl').flatMap e1))) nl left' tl' u K := by
  refine ⟨⟨pre_set h.ot.pre h.ot.new _, h.ot.new, by rw [List.getElem?_set_self h.ot.lt], rfl⟩, ?_, h.Kl⟩
  rcases h.out with h1 | ⟨no, h1, h2, h3, h4, h5⟩
  · exact .inl h1
  · exact .inr ⟨no, h1, h2, h3, h4, by rw [List.getElem?_set_ne (Ne.symm h4)]; exact h5⟩
theorem KS.acc (h : KS A H nl left tl u K) : AccL 5 e5 A H u K := by
  refine ⟨h.ot.pre, flatMap_length e5_len K, ?_⟩
  rcases h.out with ⟨rfl, h2⟩ | ⟨no, h1, h2, h3, h4, h5⟩
  · exact .inl ⟨rfl, h2⟩
  · exact .inr ⟨h1, no, h2, h3, h5⟩
theorem KS.push (h : KS A H nl left tl u K) (p : Pc) (hl : K.length + 1 ≤ 1000) :
    ∃ u' H', appA 5 (H ++ [.cells true (e5 p)]) u (.sl 5 H.length 0 1 true) = some (u', H') ∧ KS A H' nl left tl u' (K ++ [p]) ∧ ∀ m, m < H.length → (∀ no len, u = .sl 5 no 0 len false → m ≠ no) → H'[m]? = H[m]? := by
  have hc := slCells_new H (e5 p) (e5_len p)
  have hlt := h.ot.lt
  rcases h.out with ⟨rfl, rfl⟩ | ⟨no, h1, rfl, h3, h4, h5⟩
  · refine ⟨.sl 5 (H.length + 1) 0 1 false, H ++ [.cells true (e5 p)] ++ [.cells true (e5 p)], ?_, ⟨⟨(h.ot.pre.trans (pre_app _ _)).trans (pre_app _ _), h.ot.new, ?_, rfl⟩, .inr ⟨H.length + 1, by simp, rfl, by have := h.ot.pre.length_le; omega, by omega, by simp⟩, by simp⟩, fun m hm _ => ?_⟩
    · unfold appA
      rw [hc]
      simp [lim]
    · rw [List.append_assoc, List.getElem?_append_left hlt]; exact h.ot.ob
    · rw [List.append_assoc, List.getElem?_append_left hm]
  · have hno := (List.getElem?_eq_some_iff.1 h5).1
    have h5' : (H ++ [AObj.cells true (e5 p)])[no]? = some (.cells true (K.flatMap e5)) := by rw [List.getElem?_append_left hno]; exact h5
    have hfl := flatMap_length e5_len K
    have hpl := h.ot.pre.length_le
    refine ⟨.sl 5 (H.length + 1) 0 (K.length + 1) false, (H ++ [AObj.cells true (e5 p)]).set no AObj.dead ++ [AObj.cells true ((K ++ [p]).flatMap e5)], ?_, ⟨⟨(pre_set (h.ot.pre.trans (pre_app _ _)) h3 _).trans (pre_app _ _), h.ot.new, ?_, rfl⟩, .inr ⟨H.length + 1, by simp, by simp, by omega, by omega, ?_⟩, by simpa using hl⟩, fun m hm hne => ?_⟩
    · unfold appA
      rw [hc]
      have h0 : ¬ (1 : Nat) = 0 := by decide
      have hlim : K.length + 1 ≤ lim := by unfold lim; omega
      simp only [h0, if_false, hlim, and_self, if_true, h5']
      rw [if_pos (by omega), List.drop_zero, ← hfl, List.take_length, List.flatMap_append]
      simp
    · rw [List.getElem?_append_left (by simp; omega), List.getElem?_set_ne h4, List.getElem?_append_left hlt]; exact h.ot.ob
    · rw [List.getElem?_append_right (by simp)]
      simp
    · have := hne no _ rfl
      rw [List.getElem?_append_left (by simp; omega), List.getElem?_set_ne (Ne.symm this), List.getElem?_append_left hm]
end
theorem Ls_congr {α : Type} {es : Nat} {e : α → List AV} {H H' : AHeap} {v : AV} {xs : List α} (h : Ls es e H v xs) (hg : v ≠ .nilS → H'[nm v]? = H[nm v]?) : Ls es e H' v xs := by
  refine ⟨h.he, ?_⟩
  have hc := h.hc
  rcases h.inv with ⟨rfl, _⟩ | ⟨n, off, full, rw, l, rfl, h1, _⟩
  · exact hc
  · have := hg (by simp)
    simp only [nm] at this
    unfold slCells cellsAt at hc ⊢
    simp only at hc ⊢
    rw [this]
    exact hc
theorem Ls_lt {α : Type} {es : Nat} {e : α → List AV} {H : AHeap} {v : AV} {xs : List α} (h : Ls es e H v xs) (hne : v ≠ .nilS) : nm v < H.length := by
  rcases h.inv with ⟨rfl, _⟩ | ⟨n, off, full, rw, l, rfl, h1, _⟩
  · exact absurd rfl hne
  · exact (List.getElem?_eq_some_iff.1 h1).1
/-- All owners. -/
def rg0 (n : Nat) : List Int := (List.range n).map (fun (i : Nat) => (i : Int))
structure KSt where
  H : AHeap
  nl : Nat
  left : List Int
  tl : List Int
  u : AV
  K : List Pc
  p : Rat
theorem KI.start {L : List Int} {V : List (List Int)} (hg : KG L V) : KI L V (rg0 V.length) ((0 : Int) : Rat) V.length := by
  have hv1 := hg.v1
  have hv5 := hg.v5
  have hs := hg.sum
  have hlen : (rg0 V.length).length = V.length := by simp [rg0]
  have hrg : ∀ o ∈ rg0 V.length, 0 ≤ o ∧ o < V.length := by
    intro o ho
    obtain ⟨i, hi, rfl⟩ := List.mem_map.1 ho
    have := List.mem_range.1 hi
    omega
  refine ⟨?_, hrg, by rw [int0]; exact Rat.le_refl, Rat.intCast_le_intCast.2 (by omega), Dv_int _ _, Int.dvd_refl _, by omega, ?_, fun o ho => ?_⟩
  · unfold rg0
    rw [List.nodup_iff_pairwise_ne, List.pairwise_map]
    exact (List.nodup_iff_pairwise_ne.1 List.nodup_range).imp (fun h e => h (by omega))
  · rw [hlen]
    have : V.length = 1 ∨ V.length = 2 ∨ V.length = 3 ∨ V.length = 4 ∨ V.length = 5 := by omega
    rcases this with h | h | h | h | h <;> rw [h] <;> decide
  · obtain ⟨r, hr, hf⟩ := fOf_mem (L := L) (hrg o ho)
    rw [hf, upTo_at0 (hg.gd hr), hlen]
    grind
section
variable {L : List Int} {ws : List (AV × List Int)} {x y : AV} {A : AHeap}
def knE (L : List Int) (V : List (List Int)) : List Pc := kn L V V.length (rg0 V.length) ((0 : Int) : Rat)
set_option maxRecDepth 20000 in
set_option maxHeartbeats 8000000 in
theorem s32 (hL : L1 A x L) (hV : LL A y ws) (hs : Sz L ws) (hg : KG L (lists ws)) :
    ACalls Try.prog 32 [.agg [x, y]] A (.tuple [outV 5 A (knE L (lists ws)).length, I 0]) (outH A ((knE L (lists ws)).flatMap e5) (knE L (lists ws)).length) := by
  refine acalls hmix Try.func32 (by kernel_rfl) t32 1 rfl (by decide) ?_
  have hln : ∀ n k, lenA (.sl 1 n 0 k false) = some (I k) := fun _ _ => rfl
  have hv1 := hg.v1
  have hv5 := hg.v5
  have hLs := hg.sum
  have hll : (lists ws).length = ws.length := by simp
  unfold knE
  dsimp only [m32]
  simp (maxSteps := 4000000) -implicitDefEqProofs -dsimp (disch := omega) only [↓AW_ops, ↓AW_seq, ↓AOps_nil, ↓AOps_pu, on_some, ↓then_normal, pval, rd_S, rd_C, put_S, cells_agg, List.replicate_succ, List.replicate_zero, List.set_cons_zero, List.set_cons_succ, List.getElem?_cons_zero, Option.getD_some, Nat.reduceSub, List.cons_append, List.nil_append, ↓AW_toScope]
  refine ScopeK.by 65 (fun s : KSt => KS A s.H s.nl s.left s.tl s.u s.K ∧ (∃ D, KI L (lists ws) s.left s.p D) ∧ 1 ≤ s.left.length ∧ kn L (lists ws) (lists ws).length (rg0 (lists ws).length) ((0 : Int) : Rat) = s.K ++ kn L (lists ws) s.left.length s.left s.p ∧ s.K.length + s.left.length = ws.length)
    (fun s => [(1, .agg [x, y]), (5, .sl 1 s.nl 0 s.left.length false), (7, s.u), (8, R s.p)]) (fun s => s.H) (fun s => s.left.length) (ws.length + 1) ?_ ?_
  · simp (maxSteps := 4000000) -implicitDefEqProofs -dsimp (disch := omega) only [↓AW_ops, ↓AW_seq, ↓AOps_pu, ↓AOps_call, on_some, pval, rd_S, put_S, chkd, bgot, partA, eq_self, List.set_cons_zero, List.set_cons_succ, List.getElem?_cons_zero, List.getElem?_cons_succ, List.drop_zero, List.take_succ_cons, List.take_nil, Option.getD_some, map_c, map_n, List.length_cons, List.length_nil, Nat.reduceAdd, Nat.reduceLeDiff, Nat.reduceEqDiff, Nat.zero_add, if_true, if_false]
    refine CallK.of (s26 hL hV hs.l hs.v hs.w) ?_
    have h0 := hg.e
    simp (maxSteps := 4000000) -implicitDefEqProofs -dsimp (disch := omega) only [↓AW_skip, ↓AW_ops, ↓AW_seq, ↓AW_cond, ↓AW_block, ↓AOps_nil, ↓AOps_pu, on_some, extK_same, condB_f, ↓then_normal, pval, rd_S, rd_C, put_S, ↓AW_toLoop, chkd, isAdr, bgot, cells_agg, partA, eq_self, List.set_cons_zero, List.set_cons_succ, List.getElem?_cons_zero, List.getElem?_cons_succ, List.drop_zero, List.drop_succ_cons, List.take_succ_cons, List.take_nil, Option.getD_some, List.length_cons, List.length_nil, Nat.reduceAdd, Nat.reduceLeDiff, Nat.zero_add, bin_neq, if_true, if_false, Bool.false_eq_true, decide_false, not_true_eq_false, h0, hV.ls.len]
    refine LoopK.by 65 (fun z : Nat × AV × AHeap => z.1 ≤ ws.length ∧ AccL 1 e1 A z.2.2 z.2.1 ((rg0 ws.length).take z.1)) (fun z => [(1, .agg [x, y]), (5, z.2.1), (18, I ws.length), (19, I z.1)]) (fun z => z.2.2) (fun z => ws.length - z.1) (0, .nilS, A) ⟨by simp only; omega, AccL.nil (List.prefix_refl _)⟩ rfl (by simp [Has, rd_s]) rfl ?_
    rintro ⟨i, v0, H0⟩ ⟨hi, hv0⟩
    simp only at hi hv0
    by_cases hlt : i < ws.length
    · have hlt' : (i : Int) < ws.length := by omega
      have hri : (rg0 ws.length)[i]? = some (i : Int) := by
        unfold rg0
        rw [List.getElem?_map, List.getElem?_range hlt]; rfl
      obtain ⟨u3, A3, happ, hu3⟩ := hv0.push e1_len (i : Int) (by simp [lim, rg0]; omega)
      simp only [e1] at happ
      simp (maxSteps := 4000000) -implicitDefEqProofs -dsimp (disch := omega) only [↓AW_skip, ↓AW_ops, ↓AW_seq, ↓AW_cond, ↓AW_block, ↓AOps_nil, ↓AOps_pu, ↓AOps_ha, on_some, extK_false, extK_app, condB_t, ↓then_normal, ↓inBlock_normal, pval, hval_blds, hval_app, rd_S, rd_C, put_S, cells_int, splice, fillA, repl, eq_self, mk, List.foldl_cons, List.foldl_nil, List.replicate_succ, List.replicate_zero, List.set_cons_zero, List.set_cons_succ, List.getElem?_cons_zero, List.getElem?_cons_succ, List.drop_succ_cons, List.drop_nil, List.take_zero, Option.getD_some, map_c, map_n, List.length_cons, List.length_nil, Nat.reduceAdd, Nat.reduceLeDiff, Nat.zero_add, List.nil_append, List.append_nil, bin_add, bin_lss, w64, if_true, decide_true, true_and, and_true, hlt', happ]
      refine ⟨(i + 1, u3, A3), ⟨hlt, ?_⟩, by simp [Has, rd_s], rfl, by simp only; omega⟩
      simp only
      rw [List.take_add_one, hri]
      exact hu3
    · have hlt' : ¬ ((i : Int) < ws.length) := by omega
      have hrl : (rg0 ws.length).length = ws.length := by simp [rg0]
      rw [List.take_of_length_le (by omega)] at hv0
      obtain ⟨nl, hol, hve⟩ := AccL_ol hv0 e1_len (by omega)
      have hki := KI.start hg
      rw [hll] at hki
      have hks : KS A H0 nl (rg0 ws.length) [] .nilS [] := ⟨⟨hol.pre, hol.new, by rw [List.append_nil]; exact hol.ob, rfl⟩, .inl ⟨rfl, rfl⟩, by simp⟩
      have hl1 : 1 ≤ (rg0 ws.length).length := by omega
      have hkn : kn L (lists ws) (lists ws).length (rg0 (lists ws).length) ((0 : Int) : Rat) = [] ++ kn L (lists ws) (rg0 ws.length).length (rg0 ws.length) ((0 : Int) : Rat) := by rw [hll, hrl]; rfl
      have hKl : ([] : List Pc).length + (rg0 ws.length).length = ws.length := by simpa using hrl
      subst hve
      simp (maxSteps := 4000000) -implicitDefEqProofs -dsimp (disch := omega) only [↓AW_ops, ↓AW_seq, ↓AW_cond, ↓AW_exit, ↓AOps_nil, ↓AOps_pu, ↓AOps_call, on_some, condB_f, ↓then_normal, ↓then_exit, ↓inBlock_exit, pval, rd_S, rd_C, put_S, eq_self, mk, List.foldl_cons, List.foldl_nil, List.replicate_succ, List.replicate_zero, List.set_cons_zero, List.set_cons_succ, List.getElem?_cons_zero, List.getElem?_cons_succ, Option.getD_some, map_c, map_n, List.length_cons, List.length_nil, Nat.reduceAdd, Nat.reduceLeDiff, Nat.zero_add, bin_lss, if_true, if_false, decide_false, true_and, reduceCtorEq, ↓inScope_exit, hlt']
      refine CallK.of (s76 _ _) ?_
      simp (maxSteps := 4000000) -implicitDefEqProofs -dsimp (disch := omega) only [↓AW_ops, ↓AW_seq, ↓AOps_nil, ↓AOps_pu, on_some, extK_same, ↓then_normal, pval, rd_S, rd_C, put_S, chkd, bput, cells_agg, splice, eq_self, mk, List.foldl_cons, List.foldl_nil, List.replicate_succ, List.replicate_zero, List.set_cons_zero, List.set_cons_succ, List.getElem?_cons_zero, List.getElem?_cons_succ, List.drop_succ_cons, List.drop_nil, List.take_zero, Option.getD_some, List.length_cons, List.length_nil, Nat.reduceAdd, Nat.reduceLeDiff, Nat.zero_add, List.nil_append, List.append_nil, if_true, if_false, ne_eq, not_true_eq_false, ↓AW_label]
      have hN : (rg0 ws.length).length < ws.length + 1 := by omega
      generalize rg0 ws.length = left at *
      generalize (((ws.length : Nat) : Int)) = D at hki
      generalize ((0 : Int) : Rat) = p at *
      generalize H0 = H at *
      by_cases hl2 : 1 < left.length
      · obtain ⟨a0, b0, l0, rfl⟩ : ∃ a b l, left = a :: b :: l := by
          match left, hl2 with
          | a :: b :: l, _ => exact ⟨a, b, l, rfl⟩
        generalize hleft : a0 :: b0 :: l0 = left at *
        have hl2' : (1 : Int) < left.length := by omega
        have hPl : ∀ row ∈ lists ws, Pl (L.zip row) p := fun row hr => Pl_of hg hr hki.p0 hki.p1 (by have := hki.den; omega)
        have hpre := hks.ot.pre
        have hL1 := hL.mono hpre
        have hV1 := hV.mono hpre
        have ham : a0 ∈ left := by rw [← hleft]; simp
        have hbm : bestF (cqI L (lists ws) p) a0 left ∈ left := by
          rcases bestF_mem (cqI L (lists ws) p) left a0 with h1 | h1
          · rw [h1]; exact ham
          · exact h1
        have hcal : ∀ i ∈ left, Sm (cqI L (lists ws) p i) ∧ ((cqs L (lists ws) p).map rp)[i.toNat]? = some (rp (cqI L (lists ws) p i)) ∧ 0 ≤ i := by
          intro i hi
          obtain ⟨c1, c2, _, v, hv, c4⟩ := hki.call hg (by omega) hi
          have hr := hki.rg i hi
          have hDv := hki.dvb (by omega) hv
          have hc2 : cqI L (lists ws) p i ≤ ((120 : Int) : Rat) := Rat.le_trans c2 (Rat.intCast_le_intCast.2 (by omega))
          refine ⟨Sm_of (M := 120) hDv.1 (by omega) (by omega) c4 (int_neg_le_zero (by omega) (Rat.le_trans hki.p0 c1)) hc2, ?_, hr.1⟩
          have hget : (lists ws)[i.toNat]? = some (lists ws)[i.toNat] := List.getElem?_eq_getElem (by omega)
          rw [List.getElem?_map]
          unfold cqs
          rw [List.getElem?_map, hget]
          simp only [Option.map_some]
          unfold cqI fOf rowOf
          rw [hget]
          rfl
        simp (maxSteps := 4000000) -implicitDefEqProofs -dsimp (disch := omega) only [↓AW_ops, ↓AW_seq, ↓AW_cond, ↓AOps_nil, ↓AOps_pu, ↓AOps_call, on_some, condB_t, ↓then_normal, pval, rd_S, rd_C, put_S, chkd, bgot, partA, eq_self, mk, List.foldl_cons, List.foldl_nil, List.replicate_succ, List.replicate_zero, List.set_cons_zero, List.set_cons_succ, List.getElem?_cons_zero, List.getElem?_cons_succ, List.drop_zero, List.take_succ_cons, List.take_nil, Option.getD_some, map_c, map_n, List.length_cons, List.length_nil, Nat.reduceAdd, Nat.reduceLeDiff, Nat.reduceEqDiff, Nat.zero_add, bin_gtr, if_true, if_false, decide_true, hln, hl2']
        refine CallK.of (c_calls hL1 hV1 hg p hPl) ?_
        have hlv := Ls_out H e2_len ((cqs L (lists ws) p).map rp)
        have hlp := pre_out H (((cqs L (lists ws) p).map rp).flatMap e2) ((cqs L (lists ws) p).map rp).length
        have hnm : H.length ≤ nm (outV 2 H ((cqs L (lists ws) p).map rp).length) ∧ (outV 2 H ((cqs L (lists ws) p).map rp).length).cells? = some [outV 2 H ((cqs L (lists ws) p).map rp).length] := by
          have hcl : ((cqs L (lists ws) p).map rp).length = ws.length := by simp [cqs]
          unfold outV
          rw [if_neg (by omega)]
          exact ⟨Nat.le_refl _, rfl⟩
        generalize outV 2 H ((cqs L (lists ws) p).map rp).length = lv at *
        generalize outH H (((cqs L (lists ws) p).map rp).flatMap e2) ((cqs L (lists ws) p).map rp).length = H1 at *
        have hst1 : stA 1 (.ptr H1.length 0) lv (H1 ++ [.cells true [.nilS]]) = some (H1 ++ [.cells true [lv]]) := by simp [stA, hnm.2, splice]
        simp (maxSteps := 4000000) -implicitDefEqProofs -dsimp (disch := omega) only [↓AW_ops, ↓AW_seq, ↓AOps_nil, ↓AOps_pu, ↓AOps_ha, ↓AOps_call, on_some, extK_false, extK_app, ↓then_normal, pval, hval_st, hval_newv, rd_S, rd_C, put_S, putS_none, cells_nilS, mk, List.foldl_cons, List.foldl_nil, List.replicate_succ, List.replicate_zero, List.set_cons_zero, List.set_cons_succ, List.getElem?_cons_zero, List.getElem?_cons_succ, Option.getD_some, Option.map_some, map_c, map_n, hst1]
        have hp2 := pre_app H1 [AObj.cells true [lv]]
        have hld9 : ldA 1 false (.ptr H1.length 0) (H1 ++ [AObj.cells true [lv]]) = some lv := ld_new _ _ _
        have hlv2 := hlv.mono hp2
        have hks2 := hks.mono (hlp.trans hp2)
        generalize hH2 : H1 ++ [AObj.cells true [lv]] = H2 at *
        have hH2l : H1.length < H2.length := by rw [← hH2]; simp
        refine CallK.of (c_first (x0 := a0) hks2.ot.ls (by rw [← hleft]; rfl) (by omega) (a := H1.length) (cqI L (lists ws) p) (fun i hi => s84 hld9 hlv2 (hcal i hi).2.2 (hcal i hi).2.1) (fun i hi => (hcal i hi).1)) ?_
        have hkn2 : kn L (lists ws) left.length left p = ⟨bestF (cqI L (lists ws) p) a0 left, rp p, rp (cqI L (lists ws) p (bestF (cqI L (lists ws) p) a0 left))⟩ :: kn L (lists ws) (left.length - 1) (without left (bestF (cqI L (lists ws) p) a0 left)) (cqI L (lists ws) p (bestF (cqI L (lists ws) p) a0 left)) := by
          rw [← hleft]; rfl
        rw [hkn2] at hkn
        have hnext := hki.next hg (by omega) (bestF_le (cqI L (lists ws) p) left a0).2 hbm
        generalize bestF (cqI L (lists ws) p) a0 left = b at *
        obtain ⟨hsm, hget, hb0⟩ := hcal b hbm
        have hst2 : stA 1 (.ptr H2.length 0) (I b) (H2 ++ [.cells true [.int .i64 0]]) = some (H2 ++ [.cells true [I b]]) := by simp [stA, cells_int, splice]
        have hp3 := pre_app H2 [AObj.cells true [I b]]
        have hld10 : ldA 1 false (.ptr H2.length 0) (H2 ++ [AObj.cells true [I b]]) = some (I b) := ld_new _ _ _
        have hlv3 := hlv2.mono hp3
        have hks3 := hks2.mono hp3
        have hld9' : ldA 1 false (.ptr H1.length 0) (H2 ++ [AObj.cells true [I b]]) = some lv := by
          unfold ldA at hld9 ⊢
          simp only at hld9 ⊢
          rw [List.getElem?_append_left hH2l]; exact hld9
        have hgl := (List.getElem?_eq_some_iff.1 hget).1
        obtain ⟨u4, H4, happ, hks4, hfr4⟩ := hks3.push ⟨b, rp p, rp (cqI L (lists ws) p b)⟩ (by have := hks.Kl; omega)
        have hno : ∀ m, H.length ≤ m → ∀ no len, AV.nilS = .sl 5 no 0 len false → m ≠ no := fun m hm no len hu => by have := hks.no_lt hu; omega
        have hf9 : H4[H1.length]? = (H2 ++ [AObj.cells true [I b]])[H1.length]? := hfr4 _ (by simp; omega) (hno _ hlp.length_le)
        have hf10 : H4[H2.length]? = (H2 ++ [AObj.cells true [I b]])[H2.length]? := hfr4 _ (by simp) (hno _ (by have := hlp.length_le; omega))
        have hld9b : ldA 1 false (.ptr H1.length 0) H4 = some lv := by
          unfold ldA at hld9' ⊢
          simp only at hld9' ⊢
          rw [hf9]; exact hld9'
        have hld10b : ldA 1 false (.ptr H2.length 0) H4 = some (I b) := by
          unfold ldA at hld10 ⊢
          simp only at hld10 ⊢
          rw [hf10]; exact hld10
        have hlv4 : L2 H4 lv ((cqs L (lists ws) p).map rp) := Ls_congr hlv3 (fun hne => hfr4 _ (Ls_lt hlv3 hne) (hno _ hnm.1))
        have e5p : e5 ⟨b, rp p, rp (cqI L (lists ws) p b)⟩ = [I b, I p.num, I (p.den : Int), I (rp (cqI L (lists ws) p b)).1, I (rp (cqI L (lists ws) p b)).2] := rfl
        rw [e5p] at happ
        simp (maxSteps := 4000000) -implicitDefEqProofs -dsimp (disch := omega) only [↓AW_ops, ↓AW_seq, ↓AOps_nil, ↓AOps_pu, ↓AOps_ld, ↓AOps_ha, ↓AOps_call, on_some, extK_false, extK_app, extK_same, ↓then_normal, pval, lval, hval_st, hval_newv, hval_blds, hval_app, rd_S, rd_C, put_S, putS_none, chkd, bput, bgot, cells_agg, cells_int, splice, partA, fillA, repl, eq_self, mk, List.foldl_cons, List.foldl_nil, List.replicate_succ, List.replicate_zero, List.set_cons_zero, List.set_cons_succ, List.getElem?_cons_zero, List.getElem?_cons_succ, List.drop_zero, List.drop_succ_cons, List.drop_nil, List.take_zero, List.take_succ_cons, List.take_nil, Option.getD_some, Option.map_some, map_c, map_n, List.length_cons, List.length_nil, Nat.reduceAdd, Nat.reduceLeDiff, Nat.reduceEqDiff, Nat.zero_add, List.cons_append, List.nil_append, List.append_nil, if_true, if_false, Go.Eng.e2, and_true, ne_eq, not_true_eq_false, hst2, hld10, hld9', hlv3.idxI hb0 (by omega : b < ((cqs L (lists ws) p).map rp).length), hlv3.ld0 hget 2 true (by decide), R, happ, hld9b, hld10b, hlv4.ld0 hget 2 true (by decide)]
        have hne10 : H2.length ≠ nl := by
          have := hks.ot.lt
          have := hlp.length_le
          omega
        refine CallK.of (c_del hks4.ot (by omega) hne10 hld10b hbm) ?_
        obtain ⟨D2, hki2, hwl⟩ := hnext
        simp (maxSteps := 4000000) -implicitDefEqProofs -dsimp (disch := omega) only [↓AW_exit, ↓AOps_nil, ↓AOps_pu, on_some, extK_false, ↓then_normal, ↓then_exit, pval, rd_S, put_S, putS_none, eq_self, mk, List.foldl_cons, List.foldl_nil, List.replicate_succ, List.replicate_zero, List.set_cons_zero, List.set_cons_succ, List.getElem?_cons_zero, List.getElem?_cons_succ, Option.getD_some, List.length_cons, List.length_nil, Nat.reduceAdd, Nat.reduceLeDiff, Nat.zero_add, List.append_nil, if_true, true_and, ↓inScope_exit]
        refine ⟨⟨_, nl, without left b, _, u4, ([] : List Pc) ++ [⟨b, rp p, rp (cqI L (lists ws) p b)⟩], cqI L (lists ws) p b⟩, ⟨hks4.del _ _, ⟨D2, hki2⟩, by simp only; omega, ?_, ?_⟩, by simp [Has, rd_s, R, rp], rfl, by simp only; omega⟩
        · simp only
          rw [hkn, hwl, List.append_assoc]
          rfl
        · simp only [List.length_append, List.length_cons, List.length_nil]
          omega
      · obtain ⟨o, rfl⟩ : ∃ o, left = [o] := by
          match left, hl1, hl2 with
          | [o], _, _ => exact ⟨o, rfl⟩
          | _ :: _ :: _, _, h => simp at h
        have hl2' : ¬ ((1 : Int) < ((1 : Nat) : Int)) := by decide
        have hpre := hks.ot.pre
        have hls := hks.ot.ls
        have i0 := hls.idx (k := .i64) (i := 0) (by simp)
        have d0 := hls.ld0 (i := 0) (x := o) rfl 1 false (by decide)
        rw [show ((0 : Nat) : Int) = 0 from rfl] at i0
        rw [Nat.zero_mul, Nat.add_zero] at i0 d0
        have hlen1 := hls.len
        obtain ⟨u4, H4, happ, hks4, _⟩ := hks.push ⟨o, rp p, (L.sum, 1)⟩ (by have := hks.Kl; omega)
        have e5p : e5 ⟨o, rp p, (L.sum, 1)⟩ = [I o, I p.num, I (p.den : Int), I ((L.sum : Int) : Rat).num, I (((L.sum : Int) : Rat).den : Int)] := rfl
        rw [e5p] at happ
        clear hks hls
        generalize AV.sl 1 nl 0 [o].length false = vv at *
        simp (maxSteps := 4000000) -implicitDefEqProofs -dsimp (disch := omega) only [↓AW_skip, ↓AW_ops, ↓AW_seq, ↓AW_cond, ↓AOps_nil, ↓AOps_pu, ↓AOps_ld, ↓AOps_call, on_some, condB_f, ↓then_normal, pval, lval, rd_S, rd_C, put_S, chkd, bgot, partA, eq_self, mk, List.foldl_cons, List.foldl_nil, List.replicate_succ, List.replicate_zero, List.set_cons_zero, List.set_cons_succ, List.getElem?_cons_zero, List.getElem?_cons_succ, List.drop_zero, List.take_succ_cons, List.take_nil, Option.getD_some, map_c, map_n, List.length_cons, List.length_nil, Nat.reduceAdd, Nat.reduceLeDiff, Nat.reduceEqDiff, Nat.zero_add, bin_gtr, if_true, if_false, Bool.false_eq_true, decide_false, Go.Eng.e1, hlen1, hl2', i0, d0]
        refine CallK.of (c_end (y := y) (hL.mono hpre) hg) ?_
        simp (maxSteps := 4000000) -implicitDefEqProofs -dsimp (disch := omega) only [↓AOps_call, extK_same, rd_S, put_S, mk, List.foldl_cons, List.foldl_nil, List.replicate_succ, List.replicate_zero, List.set_cons_zero, List.set_cons_succ, List.getElem?_cons_zero, List.getElem?_cons_succ, Option.getD_some, map_c, map_n]
        refine CallK.of (s76 _ _) ?_
        simp (maxSteps := 4000000) -implicitDefEqProofs -dsimp (disch := omega) only [↓AW_ret, ↓AOps_nil, ↓AOps_pu, ↓AOps_ha, on_some, extK_false, extK_app, extK_same, ↓then_normal, ↓Fin_ret, pval, hval_blds, hval_app, rd_S, rd_C, put_S, resV, resL, cells_agg, cells_int, splice, fillA, repl, eq_self, mk, List.foldl_cons, List.foldl_nil, List.replicate_succ, List.replicate_zero, List.set_cons_zero, List.set_cons_succ, List.getElem?_cons_zero, List.getElem?_cons_succ, List.drop_zero, List.drop_succ_cons, List.drop_nil, List.take_zero, List.take_succ_cons, Option.getD_some, Option.map_some, map_c, map_n, List.length_cons, List.length_nil, Nat.reduceAdd, Nat.reduceLeDiff, Nat.zero_add, List.cons_append, List.nil_append, List.append_nil, if_true, and_true, ↓inScope_ret, R, happ]
        have hfin := hks4.acc
        have hkn3 : ([] : List Pc) ++ [⟨o, rp p, (L.sum, 1)⟩] = kn L (lists ws) (lists ws).length (rg0 (lists ws).length) p := by rw [hkn]; rfl
        rw [hkn3] at hfin
        exact hfin.gc2 flat_e5 (I 0) rfl
  · rintro ⟨H, nl, left, tl, u, K, p⟩ ⟨hks, ⟨D, hki⟩, hl1, hkn, hKl⟩
    simp only at hks hki hl1 hkn hKl
    by_cases hl2 : 1 < left.length
    · obtain ⟨a0, b0, l0, rfl⟩ : ∃ a b l, left = a :: b :: l := by
        match left, hl2 with
        | a :: b :: l, _ => exact ⟨a, b, l, rfl⟩
      generalize hleft : a0 :: b0 :: l0 = left at *
      have hl2' : (1 : Int) < left.length := by omega
      have hPl : ∀ row ∈ lists ws, Pl (L.zip row) p := fun row hr => Pl_of hg hr hki.p0 hki.p1 (by have := hki.den; omega)
      have hpre := hks.ot.pre
      have hL1 := hL.mono hpre
      have hV1 := hV.mono hpre
      have ham : a0 ∈ left := by rw [← hleft]; simp
      have hbm : bestF (cqI L (lists ws) p) a0 left ∈ left := by
        rcases bestF_mem (cqI L (lists ws) p) left a0 with h1 | h1
        · rw [h1]; exact ham
        · exact h1
      have hcal : ∀ i ∈ left, Sm (cqI L (lists ws) p i) ∧ ((cqs L (lists ws) p).map rp)[i.toNat]? = some (rp (cqI L (lists ws) p i)) ∧ 0 ≤ i := by
        intro i hi
        obtain ⟨c1, c2, _, v, hv, c4⟩ := hki.call hg (by omega) hi
        have hr := hki.rg i hi
        have hDv := hki.dvb (by omega) hv
        have hc2 : cqI L (lists ws) p i ≤ ((120 : Int) : Rat) := Rat.le_trans c2 (Rat.intCast_le_intCast.2 (by omega))
        refine ⟨Sm_of (M := 120) hDv.1 (by omega) (by omega) c4 (int_neg_le_zero (by omega) (Rat.le_trans hki.p0 c1)) hc2, ?_, hr.1⟩
        have hget : (lists ws)[i.toNat]? = some (lists ws)[i.toNat] := List.getElem?_eq_getElem (by omega)
        rw [List.getElem?_map]
        unfold cqs
        rw [List.getElem?_map, hget]
        simp only [Option.map_some]
        unfold cqI fOf rowOf
        rw [hget]
        rfl
      simp (maxSteps := 4000000) -implicitDefEqProofs -dsimp (disch := omega) only [↓AW_skip, ↓AW_ops, ↓AW_seq, ↓AW_cond, ↓AOps_nil, ↓AOps_pu, ↓AOps_call, on_some, condB_t, ↓then_normal, pval, rd_S, rd_C, put_S, chkd, bgot, partA, eq_self, mk, List.foldl_cons, List.foldl_nil, List.replicate_succ, List.replicate_zero, List.set_cons_zero, List.set_cons_succ, List.getElem?_cons_zero, List.getElem?_cons_succ, List.drop_zero, List.take_succ_cons, List.take_nil, Option.getD_some, map_c, map_n, List.length_cons, List.length_nil, Nat.reduceAdd, Nat.reduceLeDiff, Nat.reduceEqDiff, Nat.zero_add, bin_gtr, if_true, if_false, decide_true, hln, hl2']
      refine CallK.of (c_calls hL1 hV1 hg p hPl) ?_
      have hlv := Ls_out H e2_len ((cqs L (lists ws) p).map rp)
      have hlp := pre_out H (((cqs L (lists ws) p).map rp).flatMap e2) ((cqs L (lists ws) p).map rp).length
      have hnm : H.length ≤ nm (outV 2 H ((cqs L (lists ws) p).map rp).length) ∧ (outV 2 H ((cqs L (lists ws) p).map rp).length).cells? = some [outV 2 H ((cqs L (lists ws) p).map rp).length] := by
        have hcl : ((cqs L (lists ws) p).map rp).length = ws.length := by simp [cqs]
        unfold outV
        rw [if_neg (by omega)]
        exact ⟨Nat.le_refl _, rfl⟩
      generalize outV 2 H ((cqs L (lists ws) p).map rp).length = lv at *
      generalize outH H (((cqs L (lists ws) p).map rp).flatMap e2) ((cqs L (lists ws) p).map rp).length = H1 at *
      have hst1 : stA 1 (.ptr H1.length 0) lv (H1 ++ [.cells true [.nilS]]) = some (H1 ++ [.cells true [lv]]) := by simp [stA, hnm.2, splice]
      simp (maxSteps := 4000000) -implicitDefEqProofs -dsimp (disch := omega) only [↓AW_ops, ↓AW_seq, ↓AOps_nil, ↓AOps_pu, ↓AOps_ha, ↓AOps_call, on_some, extK_false, extK_app, ↓then_normal, pval, hval_st, hval_newv, rd_S, rd_C, put_S, putS_none, cells_nilS, mk, List.foldl_cons, List.foldl_nil, List.replicate_succ, List.replicate_zero, List.set_cons_zero, List.set_cons_succ, List.getElem?_cons_zero, List.getElem?_cons_succ, Option.getD_some, Option.map_some, map_c, map_n, hst1]
      have hp2 := pre_app H1 [AObj.cells true [lv]]
      have hld9 : ldA 1 false (.ptr H1.length 0) (H1 ++ [AObj.cells true [lv]]) = some lv := ld_new _ _ _
      have hlv2 := hlv.mono hp2
      have hks2 := hks.mono (hlp.trans hp2)
      generalize hH2 : H1 ++ [AObj.cells true [lv]] = H2 at *
      have hH2l : H1.length < H2.length := by rw [← hH2]; simp
      refine CallK.of (c_first (x0 := a0) hks2.ot.ls (by rw [← hleft]; rfl) (by omega) (a := H1.length) (cqI L (lists ws) p) (fun i hi => s84 hld9 hlv2 (hcal i hi).2.2 (hcal i hi).2.1) (fun i hi => (hcal i hi).1)) ?_
      have hkn2 : kn L (lists ws) left.length left p = ⟨bestF (cqI L (lists ws) p) a0 left, rp p, rp (cqI L (lists ws) p (bestF (cqI L (lists ws) p) a0 left))⟩ :: kn L (lists ws) (left.length - 1) (without left (bestF (cqI L (lists ws) p) a0 left)) (cqI L (lists ws) p (bestF (cqI L (lists ws) p) a0 left)) := by
        rw [← hleft]; rfl
      rw [hkn2] at hkn
      have hnext := hki.next hg (by omega) (bestF_le (cqI L (lists ws) p) left a0).2 hbm
      generalize bestF (cqI L (lists ws) p) a0 left = b at *
      obtain ⟨hsm, hget, hb0⟩ := hcal b hbm
      have hst2 : stA 1 (.ptr H2.length 0) (I b) (H2 ++ [.cells true [.int .i64 0]]) = some (H2 ++ [.cells true [I b]]) := by simp [stA, cells_int, splice]
      have hp3 := pre_app H2 [AObj.cells true [I b]]
      have hld10 : ldA 1 false (.ptr H2.length 0) (H2 ++ [AObj.cells true [I b]]) = some (I b) := ld_new _ _ _
      have hlv3 := hlv2.mono hp3
      have hks3 := hks2.mono hp3
      have hld9' : ldA 1 false (.ptr H1.length 0) (H2 ++ [AObj.cells true [I b]]) = some lv := by
        unfold ldA at hld9 ⊢
        simp only at hld9 ⊢
        rw [List.getElem?_append_left hH2l]; exact hld9
      have hgl := (List.getElem?_eq_some_iff.1 hget).1
      obtain ⟨u4, H4, happ, hks4, hfr4⟩ := hks3.push ⟨b, rp p, rp (cqI L (lists ws) p b)⟩ (by have := hks.Kl; omega)
      have hno : ∀ m, H.length ≤ m → ∀ no len, u = .sl 5 no 0 len false → m ≠ no := fun m hm no len hu => by have := hks.no_lt hu; omega
      have hf9 : H4[H1.length]? = (H2 ++ [AObj.cells true [I b]])[H1.length]? := hfr4 _ (by simp; omega) (hno _ hlp.length_le)
      have hf10 : H4[H2.length]? = (H2 ++ [AObj.cells true [I b]])[H2.length]? := hfr4 _ (by simp) (hno _ (by have := hlp.length_le; omega))
      have hld9b : ldA 1 false (.ptr H1.length 0) H4 = some lv := by
        unfold ldA at hld9' ⊢
        simp only at hld9' ⊢
        rw [hf9]; exact hld9'
      have hld10b : ldA 1 false (.ptr H2.length 0) H4 = some (I b) := by
        unfold ldA at hld10 ⊢
        simp only at hld10 ⊢
        rw [hf10]; exact hld10
      have hlv4 : L2 H4 lv ((cqs L (lists ws) p).map rp) := Ls_congr hlv3 (fun hne => hfr4 _ (Ls_lt hlv3 hne) (hno _ hnm.1))
      have e5p : e5 ⟨b, rp p, rp (cqI L (lists ws) p b)⟩ = [I b, I p.num, I (p.den : Int), I (rp (cqI L (lists ws) p b)).1, I (rp (cqI L (lists ws) p b)).2] := rfl
      rw [e5p] at happ
      simp (maxSteps := 4000000) -implicitDefEqProofs -dsimp (disch := omega) only [↓AW_ops, ↓AW_seq, ↓AOps_nil, ↓AOps_pu, ↓AOps_ld, ↓AOps_ha, ↓AOps_call, on_some, extK_false, extK_app, extK_same, ↓then_normal, pval, lval, hval_st, hval_newv, hval_blds, hval_app, rd_S, rd_C, put_S, putS_none, chkd, bput, bgot, cells_agg, cells_int, splice, partA, fillA, repl, eq_self, mk, List.foldl_cons, List.foldl_nil, List.replicate_succ, List.replicate_zero, List.set_cons_zero, List.set_cons_succ, List.getElem?_cons_zero, List.getElem?_cons_succ, List.drop_zero, List.drop_succ_cons, List.drop_nil, List.take_zero, List.take_succ_cons, List.take_nil, Option.getD_some, Option.map_some, map_c, map_n, List.length_cons, List.length_nil, Nat.reduceAdd, Nat.reduceLeDiff, Nat.reduceEqDiff, Nat.zero_add, List.cons_append, List.nil_append, List.append_nil, if_true, if_false, Go.Eng.e2, and_true, ne_eq, not_true_eq_false, hst2, hld10, hld9', hlv3.idxI hb0 (by omega : b < ((cqs L (lists ws) p).map rp).length), hlv3.ld0 hget 2 true (by decide), R, happ, hld9b, hld10b, hlv4.ld0 hget 2 true (by decide)]
      have hne10 : H2.length ≠ nl := by
        have := hks.ot.lt
        have := hlp.length_le
        omega
      refine CallK.of (c_del hks4.ot (by omega) hne10 hld10b hbm) ?_
      obtain ⟨D2, hki2, hwl⟩ := hnext
      simp (maxSteps := 4000000) -implicitDefEqProofs -dsimp (disch := omega) only [↓AW_exit, ↓AOps_nil, ↓AOps_pu, on_some, extK_false, ↓then_normal, ↓then_exit, pval, rd_S, put_S, putS_none, eq_self, mk, List.foldl_cons, List.foldl_nil, List.replicate_succ, List.replicate_zero, List.set_cons_zero, List.set_cons_succ, List.getElem?_cons_zero, List.getElem?_cons_succ, Option.getD_some, List.length_cons, List.length_nil, Nat.reduceAdd, Nat.reduceLeDiff, Nat.zero_add, if_true, true_and, ↓inScope_exit]
      refine ⟨⟨_, nl, without left b, _, u4, K ++ [⟨b, rp p, rp (cqI L (lists ws) p b)⟩], cqI L (lists ws) p b⟩, ⟨hks4.del _ _, ⟨D2, hki2⟩, by simp only; omega, ?_, ?_⟩, by simp [Has, rd_s, R, rp], rfl, by simp only; omega⟩
      · simp only
        rw [hkn, hwl, List.append_assoc]
        rfl
      · simp only [List.length_append, List.length_cons, List.length_nil]
        omega
    · obtain ⟨o, rfl⟩ : ∃ o, left = [o] := by
        match left, hl1, hl2 with
        | [o], _, _ => exact ⟨o, rfl⟩
        | _ :: _ :: _, _, h => simp at h
      have hl2' : ¬ ((1 : Int) < ((1 : Nat) : Int)) := by decide
      have hpre := hks.ot.pre
      have hls := hks.ot.ls
      have i0 := hls.idx (k := .i64) (i := 0) (by simp)
      have d0 := hls.ld0 (i := 0) (x := o) rfl 1 false (by decide)
      rw [show ((0 : Nat) : Int) = 0 from rfl] at i0
      rw [Nat.zero_mul, Nat.add_zero] at i0 d0
      have hlen1 := hls.len
      obtain ⟨u4, H4, happ, hks4, _⟩ := hks.push ⟨o, rp p, (L.sum, 1)⟩ (by have := hks.Kl; omega)
      have e5p : e5 ⟨o, rp p, (L.sum, 1)⟩ = [I o, I p.num, I (p.den : Int), I ((L.sum : Int) : Rat).num, I (((L.sum : Int) : Rat).den : Int)] := rfl
      rw [e5p] at happ
      clear hks hls
      generalize AV.sl 1 nl 0 [o].length false = vv at *
      simp (maxSteps := 4000000) -implicitDefEqProofs -dsimp (disch := omega) only [↓AW_skip, ↓AW_ops, ↓AW_seq, ↓AW_cond, ↓AOps_nil, ↓AOps_pu, ↓AOps_ld, ↓AOps_call, on_some, condB_f, ↓then_normal, pval, lval, rd_S, rd_C, put_S, chkd, bgot, partA, eq_self, mk, List.foldl_cons, List.foldl_nil, List.replicate_succ, List.replicate_zero, List.set_cons_zero, List.set_cons_succ, List.getElem?_cons_zero, List.getElem?_cons_succ, List.drop_zero, List.take_succ_cons, List.take_nil, Option.getD_some, map_c, map_n, List.length_cons, List.length_nil, Nat.reduceAdd, Nat.reduceLeDiff, Nat.reduceEqDiff, Nat.zero_add, bin_gtr, if_true, if_false, Bool.false_eq_true, decide_false, Go.Eng.e1, hlen1, hl2', i0, d0]
      refine CallK.of (c_end (y := y) (hL.mono hpre) hg) ?_
      simp (maxSteps := 4000000) -implicitDefEqProofs -dsimp (disch := omega) only [↓AOps_call, extK_same, rd_S, put_S, mk, List.foldl_cons, List.foldl_nil, List.replicate_succ, List.replicate_zero, List.set_cons_zero, List.set_cons_succ, List.getElem?_cons_zero, List.getElem?_cons_succ, Option.getD_some, map_c, map_n]
      refine CallK.of (s76 _ _) ?_
      simp (maxSteps := 4000000) -implicitDefEqProofs -dsimp (disch := omega) only [↓AW_ret, ↓AOps_nil, ↓AOps_pu, ↓AOps_ha, on_some, extK_false, extK_app, extK_same, ↓then_normal, ↓Fin_ret, pval, hval_blds, hval_app, rd_S, rd_C, put_S, resV, resL, cells_agg, cells_int, splice, fillA, repl, eq_self, mk, List.foldl_cons, List.foldl_nil, List.replicate_succ, List.replicate_zero, List.set_cons_zero, List.set_cons_succ, List.getElem?_cons_zero, List.getElem?_cons_succ, List.drop_zero, List.drop_succ_cons, List.drop_nil, List.take_zero, List.take_succ_cons, Option.getD_some, Option.map_some, map_c, map_n, List.length_cons, List.length_nil, Nat.reduceAdd, Nat.reduceLeDiff, Nat.zero_add, List.cons_append, List.nil_append, List.append_nil, if_true, and_true, ↓inScope_ret, R, happ]
      have hfin := hks4.acc
      have hkn3 : K ++ [⟨o, rp p, (L.sum, 1)⟩] = kn L (lists ws) (lists ws).length (rg0 (lists ws).length) ((0 : Int) : Rat) := by rw [hkn]; rfl
      rw [hkn3] at hfin
      exact hfin.gc2 flat_e5 (I 0) rfl
end
end Go.Proofs.Ytmblehbjedpjoaa

namespace Go.Proofs.Ytmblehbjedpjoaa
open Go Go.Eng
/-- Those who are left, in order. -/
def Ord (n : Nat) (left : List Int) : Prop := left = (rg0 n).filter (fun o => decide (o ∈ left))
theorem Ord.without {n : Nat} {left : List Int} (h : Ord n left) (b : Int) : Ord n (without left b) := by
  unfold Ord at h ⊢
  have e : ∀ o, o ∈ Go.Proofs.Ytmblehbjedpjoaa.without left b ↔ o ∈ left ∧ o ≠ b := by
    intro o
    unfold Go.Proofs.Ytmblehbjedpjoaa.without
    rw [List.mem_filter]
    simp
  have h2 : Go.Proofs.Ytmblehbjedpjoaa.without left b = ((rg0 n).filter (fun o => decide (o ∈ left))).filter (fun x => !decide (x = b)) := by
    conv => lhs; rw [h]
    rfl
  rw [h2, List.filter_filter]
  refine List.filter_congr (fun o ho => ?_)
  simp only [List.mem_filter, ho, true_and]
  simp
section
variable {L : List Int} {ws : List (AV × List Int)} {x y : AV} {A : AHeap}
end
end Go.Proofs.Ytmblehbjedpjoaa

namespace Go.Proofs.Ytmblehbjedpjoaa
open Go Go.Eng
theorem Dv_dvd {E : Int} {q : Rat} (h : Dv E q) : (q.den : Int) ∣ E := by
  obtain ⟨k, hk⟩ := h
  have e := R_self q
  have hne := cast_ne (show (q.den : Int) ≠ 0 by have := den_pos q; omega)
  have h1 : ((q.num * E : Int) : Rat) = ((k * q.den : Int) : Rat) := by
    rw [Rat.intCast_mul, Rat.intCast_mul, ← hk]
    generalize ((q.num : Int) : Rat) = n at *
    generalize ((q.den : Int) : Rat) = d at *
    generalize ((E : Int) : Rat) = E' at *
    grind
  have h2 : q.num * E = k * q.den := Rat.intCast_inj.1 h1
  have h3 : q.den ∣ q.num.natAbs * E.natAbs := by
    rw [← Int.natAbs_mul, h2, Int.natAbs_mul]
    exact Nat.dvd_mul_left _ _
  have h4 := Nat.Coprime.dvd_of_dvd_mul_left q.reduced.symm h3
  exact Int.natAbs_dvd_natAbs.1 (by rw [Int.natAbs_natCast]; exact h4)
theorem chain_at {L : List Int} : ∀ (pcs : List Pc) (a : Int × Int), chainR L a pcs → ∀ (i : Nat) (p : Pc), pcs[i]? = some p → p.r = (match i with | 0 => a | j + 1 => ((pcs[j]?).map Pc.s).getD a) ∧ isK L p.r ∧ isK L p.s ∧ ¬ qr p.s < qr p.r
  | [], _, _, _, _, h => by simp at h
  | q :: pcs, a, hc, 0, p, h => by
    have : q = p := by simpa using h
    subst this
    exact ⟨hc.1, hc.2.1, hc.2.2.1, hc.2.2.2.1⟩
  | q :: pcs, a, hc, i + 1, p, h => by
    have h' : pcs[i]? = some p := by simpa using h
    obtain ⟨h1, h2⟩ := chain_at pcs q.s hc.2.2.2.2 i p h'
    refine ⟨?_, h2⟩
    rw [h1]
    cases i with
    | zero => rfl
    | succ j =>
      have hj : j < pcs.length := by have := (List.getElem?_eq_some_iff.1 h').1; omega
      simp [List.getElem?_eq_getElem hj]
theorem chain_last {L : List Int} : ∀ (pcs : List Pc) (a : Int × Int), chainR L a pcs → (match pcs.getLast? with | some p => p.s | none => a) = (L.sum, 1)
  | [], _, h => h
  | [q], a, hc => hc.2.2.2.2
  | q :: q2 :: pcs, a, hc => by
    have := chain_last (q2 :: pcs) q.s hc.2.2.2.2
    rw [List.getLast?_cons_cons]
    rw [List.getLast?_eq_some_getLast (by simp)] at this ⊢
    exact this
theorem CP_of {L : List Int} {V : List (List Int)} (hg : KG L V) {pcs : List Pc} (hp : (pcs.map Pc.o).Perm (rg0 V.length)) (hc : chainR L (0, 1) pcs) {E : Int} (hE : 0 < E ∧ E ≤ 1000000) (hD : ∀ q ∈ pcs, Dv E (qr q.r) ∧ Dv E (qr q.s)) : CP L V pcs := by
  have hst := KI.start hg
  have hlen : pcs.length = V.length := by
    have := hp.length_eq
    simpa [rg0] using this
  have hnd : (pcs.map Pc.o).Nodup := hp.nodup_iff.2 hst.nd
  have hat := chain_at pcs (0, 1) hc
  refine ⟨hlen, fun i hi => ?_, ?_, ?_⟩
  · have hpi : pcs[i]? = some pcs[i] := List.getElem?_eq_getElem hi
    obtain ⟨h1, h2, h3, h4⟩ := hat i _ hpi
    have hom : pcs[i].o ∈ rg0 V.length := hp.mem_iff.1 (List.mem_map_of_mem (List.getElem_mem hi))
    have hr := hst.rg _ hom
    refine ⟨by omega, ?_, h2, h3, ?_, h4⟩
    · have hs := split_f (l := pcs.map Pc.o) (i := i) (z := pcs[i].o) (by rw [List.getElem?_map, hpi]; rfl)
      rw [hs] at hnd
      rw [List.map_take]
      intro hm
      exact (List.nodup_append.1 hnd).2.2 _ hm _ (by simp) rfl
    · rw [h1]
      cases i with
      | zero => rfl
      | succ j =>
        have hj : pcs[j]? = some pcs[j] := List.getElem?_eq_getElem (by omega)
        rw [atI_succ hj]
        simp only [hj, Option.map_some, Option.getD_some]
  · have := chain_last pcs (0, 1) hc
    unfold atI
    rw [List.take_length]
    exact this
  · refine cmn_le hE _ 1 (by omega) (Int.one_dvd _) ?_
    intro d hd
    obtain ⟨r, hr, rfl⟩ := List.mem_map.1 hd
    obtain ⟨q, hq, hr⟩ := List.mem_flatMap.1 hr
    obtain ⟨i, hi, rfl⟩ := List.mem_iff_getElem.1 hq
    obtain ⟨_, h2, h3, _⟩ := hat i _ (List.getElem?_eq_getElem hi)
    obtain ⟨d1, d2⟩ := hD _ hq
    simp only [List.mem_cons, List.not_mem_nil, or_false] at hr
    rcases hr with rfl | rfl
    · obtain ⟨_, _, k3, _⟩ := isK_R hg h2
      have := Dv_dvd d1
      rw [k3] at this
      exact ⟨by have := h2.1.1; omega, this⟩
    · obtain ⟨_, _, k3, _⟩ := isK_R hg h3
      have := Dv_dvd d2
      rw [k3] at this
      exact ⟨by have := h3.1.1; omega, this⟩
/-- What the knife makes are pieces, and each one has his part. -/
theorem knE_ok {L : List Int} {V : List (List Int)} (hg : KG L V) : CP L V (knE L V) ∧ (∀ p ∈ knE L V, W p.r.1 ∧ W p.s.1) ∧ (knE L V).length = V.length ∧
    ∃ P : Nat → Pc, ∀ o : Nat, o < V.length → (∃ k, At (knE L V) o k (P o)) ∧ ((tot (fOf L V o) : Int) : Rat) ≤ pwo (fOf L V o) (P o) * ((V.length : Int) : Rat) := by
  have hv1 := hg.v1
  have hLs := hg.sum
  have hlen : (rg0 V.length).length = V.length := by simp [rg0]
  obtain ⟨h1, h2, ⟨E, hE, _, hEq⟩, h4⟩ := kn_facts hg V.length (rg0 V.length) ((0 : Int) : Rat) V.length hlen hv1 (KI.start hg)
  have hCP := CP_of hg h1 h2 hE hEq
  refine ⟨hCP, fun p hp => ?_, hCP.1, ?_⟩
  · obtain ⟨a, b, _⟩ := hCP.at hp
    have m1 := Int.mul_le_mul hLs.2 a.1.1.2 (by have := a.1.1.1; omega) (by omega : (0 : Int) ≤ 120)
    have m2 := Int.mul_le_mul hLs.2 b.1.1.2 (by have := b.1.1.1; omega) (by omega : (0 : Int) ≤ 120)
    have := a.2
    have := b.2
    constructor <;> constructor <;> omega
  · have hex : ∀ o : Nat, o < V.length → ∃ p k, At (knE L V) o k p := by
      intro o ho
      have hm : (o : Int) ∈ (knE L V).map Pc.o := h1.mem_iff.2 (List.mem_map.2 ⟨o, List.mem_range.2 ho, rfl⟩)
      obtain ⟨p, hp, hpo⟩ := List.mem_map.1 hm
      obtain ⟨k, q, hq⟩ := At.ex ⟨p, hp, hpo⟩
      exact ⟨q, k, hq⟩
    classical
    refine ⟨fun o => if h : ∃ p k, At (knE L V) o k p then h.choose else ⟨0, (0, 1), (0, 1)⟩, fun o ho => ?_⟩
    have hx := hex o ho
    simp only [dif_pos hx]
    refine ⟨hx.choose_spec, ?_⟩
    obtain ⟨k, hk⟩ := hx.choose_spec
    have := h4 _ hk.o.1
    rw [hk.o.2] at this
    exact this
section
variable {L : List Int} {ws : List (AV × List Int)} {x y : AV} {A : AHeap}
theorem c_none2 {H : AHeap} {v : AV} {qs : List Rat} {a : Nat} (hx : L2 H v (qs.map rp)) (hl : qs.length ≤ 1000000) (hc : ∀ q ∈ qs, ACalls Try.prog 89 [R q, .ptr a 0] H (B false) H) : ACalls Try.prog 88 [v, .fn 89 [.ptr a 0]] H (B false) H := by
  have hi : ACalls Try.prog 115 [v, .fn 89 [.ptr a 0]] H (I (-1)) H := by
    refine acalls hmix Try.func115 (by kernel_rfl) t115 2 rfl (by decide) ?_
    dsimp only [m115]
    simp (maxSteps := 4000000) -implicitDefEqProofs -dsimp (disch := omega) only [↓AW_ops, ↓AW_seq, ↓AW_block, ↓AOps_nil, ↓AOps_pu, on_some, ↓then_normal, pval, rd_S, rd_C, put_S, ↓AW_toLoop, List.replicate_succ, List.replicate_zero, List.set_cons_zero, List.set_cons_succ, List.getElem?_cons_zero, List.getElem?_cons_succ, Option.getD_some, Nat.reduceSub, List.cons_append, List.nil_append, hx.len, List.length_map]
    refine LoopK.by 19 (fun i : Nat => i ≤ qs.length) (fun i => [(0, v), (1, .fn 89 [.ptr a 0]), (7, I qs.length), (8, I i)]) (fun _ => H) (fun i => qs.length - i) 0 (by omega) rfl (by simp [Has, rd_s]) rfl ?_
    intro i hi
    by_cases hlt : i < qs.length
    · obtain ⟨q, hq⟩ : ∃ q, qs[i]? = some q := ⟨_, List.getElem?_eq_getElem hlt⟩
      have hlt' : (i : Int) < qs.length := by omega
      have hz : (qs.map rp)[i]? = some (rp q) := by rw [List.getElem?_map, hq]; rfl
      have hcq := hc q (List.mem_of_getElem? hq)
      unfold R at hcq
      simp (maxSteps := 4000000) -implicitDefEqProofs -dsimp (disch := omega) only [↓AW_skip, ↓AW_ops, ↓AW_seq, ↓AW_cond, ↓AW_block, ↓AOps_nil, ↓AOps_pu, ↓AOps_ld, ↓AOps_callv, on_some, CallF_fn, condB_t, ↓then_normal, pval, lval, rd_S, put_S, partA, eq_self, mk, List.foldl_cons, List.foldl_nil, List.replicate_succ, List.replicate_zero, List.set_cons_zero, List.set_cons_succ, List.getElem?_cons_zero, List.getElem?_cons_succ, List.drop_zero, List.take_succ_cons, List.take_nil, Option.getD_some, map_c, map_n, List.length_cons, List.length_nil, Nat.reduceAdd, Nat.reduceLeDiff, Nat.reduceEqDiff, Nat.zero_add, List.cons_append, List.nil_append, bin_lss, if_true, if_false, decide_true, Go.Eng.e2, hlt', hx.idx (by rw [List.length_map]; exact hlt), hx.ld0 hz 2 true (by decide)]
      refine CallK.of (hcq) ?_
      simp (maxSteps := 4000000) -implicitDefEqProofs -dsimp (disch := omega) only [↓AW_skip, ↓AW_ops, ↓AW_cond, ↓AOps_nil, ↓AOps_pu, on_some, extK_same, condB_f, ↓then_normal, ↓inBlock_normal, pval, rd_S, rd_C, put_S, eq_self, mk, List.foldl_cons, List.foldl_nil, List.replicate_succ, List.replicate_zero, List.set_cons_zero, List.set_cons_succ, List.getElem?_cons_zero, List.getElem?_cons_succ, Option.getD_some, List.length_cons, List.length_nil, Nat.reduceAdd, Nat.zero_add, bin_add, w64, true_and]
      exact ⟨i + 1, hlt, by simp [Has, rd_s], by omega⟩
    · have hlt' : ¬ ((i : Int) < qs.length) := by omega
      simp (maxSteps := 4000000) -implicitDefEqProofs -dsimp (disch := omega) only [↓AW_ops, ↓AW_seq, ↓AW_cond, ↓AW_exit, ↓AW_ret, ↓AOps_nil, ↓AOps_pu, on_some, condB_f, ↓then_normal, ↓then_exit, ↓inBlock_exit, ↓Fin_ret, pval, rd_S, rd_C, put_S, resV, resL, eq_self, mk, List.foldl_cons, List.foldl_nil, List.replicate_succ, List.replicate_zero, List.set_cons_zero, List.set_cons_succ, List.getElem?_cons_zero, List.getElem?_cons_succ, Option.getD_some, bin_lss, if_true, decide_false, Int.reduceNeg, hlt']
      exact gc_same rfl
  refine acalls hmix Try.func88 (by kernel_rfl) t88 2 rfl (by decide) ?_
  dsimp only [m88]
  simp (maxSteps := 4000000) -implicitDefEqProofs -dsimp (disch := omega) only [↓AW_ops, ↓AW_seq, ↓AOps_nil, ↓AOps_pu, ↓AOps_call, on_some, ↓then_normal, pval, rd_S, rd_C, put_S, List.replicate_succ, List.replicate_zero, List.set_cons_zero, List.set_cons_succ, List.getElem?_cons_zero, List.getElem?_cons_succ, Option.getD_some, map_c, map_n, Nat.reduceSub, List.cons_append, List.nil_append]
  refine CallK.of (hi) ?_
  simp (maxSteps := 4000000) -implicitDefEqProofs -dsimp (disch := omega) only [↓AW_ret, ↓AOps_nil, ↓AOps_pu, on_some, extK_same, ↓then_normal, ↓Fin_ret, pval, rd_S, rd_C, put_S, resV, resL, List.replicate_succ, List.replicate_zero, List.set_cons_zero, List.set_cons_succ, List.getElem?_cons_zero, List.getElem?_cons_succ, Option.getD_some, Nat.reduceSub, List.cons_append, List.nil_append, bin_geq, decide_false, Int.reduceLE, Int.reduceNeg]
  exact gc_same rfl
theorem s89 {H : AHeap} {a : Nat} {q s : Rat} (hld : ldA 2 true (.ptr a 0) H = some (.agg [I s.num, I (s.den : Int)])) (hf : Fit q s) (hle : s ≤ q) : ACalls Try.prog 89 [R q, .ptr a 0] H (B false) H := by
  refine acalls hmix Try.func89 (by kernel_rfl) t89 2 rfl (by decide) ?_
  have hn : ¬ (q - s).num < 0 := fun hh => absurd ((sub_neg_iff _ _).1 hh) (Rat.not_lt.2 hle)
  dsimp only [m89]
  simp (maxSteps := 4000000) -implicitDefEqProofs -dsimp (disch := omega) only [↓AW_ops, ↓AW_seq, ↓AOps_nil, ↓AOps_pu, ↓AOps_ld, ↓AOps_call, on_some, ↓then_normal, pval, lval, rd_S, rd_C, put_S, chkd, bgot, AV.cells?, partA, eq_self, List.replicate_succ, List.replicate_zero, List.set_cons_zero, List.set_cons_succ, List.getElem?_cons_zero, List.getElem?_cons_succ, List.drop_zero, List.take_succ_cons, List.take_nil, Option.getD_some, map_c, map_n, List.length_cons, List.length_nil, Nat.reduceAdd, Nat.reduceSub, Nat.reduceLeDiff, Nat.reduceEqDiff, Nat.zero_add, List.cons_append, List.nil_append, if_true, if_false, hld]
  have hRs : AV.agg [I s.num, I (s.den : Int)] = R s := rfl
  rw [hRs]
  refine CallK.of (s65g _ _ _ hf) ?_
  simp (maxSteps := 4000000) -implicitDefEqProofs -dsimp (disch := omega) only [↓AW_ret, ↓AOps_nil, ↓AOps_pu, on_some, extK_same, ↓then_normal, ↓Fin_ret, pval, rd_S, rd_C, put_S, resV, resL, List.replicate_succ, List.replicate_zero, List.set_cons_zero, List.set_cons_succ, List.getElem?_cons_zero, List.getElem?_cons_succ, Option.getD_some, Nat.reduceSub, List.cons_append, List.nil_append, bin_lss, decide_false, hn]
  exact gc_same rfl
set_option maxRecDepth 20000 in
theorem s34 (hL : L1 A x L) (hV : LL A y ws) (hs : Sz L ws) (h : KG L (lists ws)) {pcs : List Pc} {v : AV} (hP : L5 A v pcs) (hl : pcs.length ≤ 1000000) (hW : ∀ p ∈ pcs, W p.r.1 ∧ W p.s.1) (hc : CP L (lists ws) pcs) (P : Nat → Pc)
    (hown : ∀ o : Nat, o < ws.length → (∃ k, At pcs o k (P o)) ∧ ((tot (fOf L (lists ws) o) : Int) : Rat) ≤ pwo (fOf L (lists ws) o) (P o) * ((ws.length : Int) : Rat)) :
    ACalls Try.prog 34 [.agg [x, y], v] A (.tuple [B true, I 0]) A := by
  refine acalls hmix Try.func34 (by kernel_rfl) t34 2 rfl (by decide) ?_
  have hcE : cpE L (lists ws) pcs = 0 := by rw [cpE, if_pos h.e, if_pos hc]
  have hv1 := h.v1
  have hv5 := h.v5
  have hll : (lists ws).length = ws.length := by simp
  rw [hll] at hv1 hv5
  dsimp only [m34]
  simp (maxSteps := 4000000) -implicitDefEqProofs -dsimp (disch := omega) only [↓AW_ops, ↓AW_seq, ↓AOps_nil, ↓AOps_pu, ↓AOps_call, on_some, ↓then_normal, pval, rd_S, rd_C, put_S, chkd, bgot, cells_agg, partA, eq_self, List.replicate_succ, List.replicate_zero, List.set_cons_zero, List.set_cons_succ, List.getElem?_cons_zero, List.getElem?_cons_succ, List.drop_zero, List.take_succ_cons, List.take_nil, Option.getD_some, map_c, map_n, List.length_cons, List.length_nil, Nat.reduceAdd, Nat.reduceSub, Nat.reduceLeDiff, Nat.reduceEqDiff, Nat.zero_add, List.cons_append, List.nil_append, if_true, if_false]
  refine CallK.of (s35 hL hV hs hP hl hW) ?_
  simp (maxSteps := 4000000) -implicitDefEqProofs -dsimp (disch := omega) only [↓AW_skip, ↓AW_ops, ↓AW_seq, ↓AW_cond, ↓AOps_nil, ↓AOps_pu, ↓AOps_call, on_some, extK_same, condB_f, ↓then_normal, pval, rd_S, rd_C, put_S, chkd, isAdr, bgot, cells_agg, partA, eq_self, List.replicate_succ, List.replicate_zero, List.set_cons_zero, List.set_cons_succ, List.getElem?_cons_zero, List.getElem?_cons_succ, List.drop_zero, List.drop_succ_cons, List.take_succ_cons, List.take_nil, Option.getD_some, map_c, map_n, List.length_cons, List.length_nil, Nat.reduceAdd, Nat.reduceSub, Nat.reduceLeDiff, Nat.zero_add, List.cons_append, List.nil_append, bin_neq, if_true, if_false, Bool.false_eq_true, decide_false, not_true_eq_false, hcE, hV.ls.len]
  refine CallK.of (s59R _ ⟨by omega, by omega⟩ (by omega) (by omega)) ?_
  have hrl := ratio_le 1 ws.length (by omega)
  generalize hs1 : ((1 : Int) : Rat) / ((ws.length : Int) : Rat) = s1 at *
  have hst : stA 2 (.ptr A.length 0) (.agg [I s1.num, I (s1.den : Int)]) (A ++ [.cells true [.int .i64 0, .int .i64 0]]) = some (A ++ [.cells true [I s1.num, I (s1.den : Int)]]) := by simp [stA, cells_agg, splice]
  have hp1 := pre_app A [AObj.cells true [I s1.num, I (s1.den : Int)]]
  have hld : ldA 2 true (.ptr A.length 0) (A ++ [AObj.cells true [I s1.num, I (s1.den : Int)]]) = some (.agg [I s1.num, I (s1.den : Int)]) := by simp [ldA, partA]
  simp (maxSteps := 4000000) -implicitDefEqProofs -dsimp (disch := omega) only [↓AW_ops, ↓AW_seq, ↓AOps_nil, ↓AOps_pu, ↓AOps_ha, ↓AOps_call, on_some, extK_false, extK_app, extK_same, ↓then_normal, pval, hval_st, hval_newv, rd_S, rd_C, put_S, putS_none, chkd, bgot, cells_agg, partA, eq_self, List.replicate_succ, List.replicate_zero, List.set_cons_zero, List.set_cons_succ, List.getElem?_cons_zero, List.getElem?_cons_succ, List.drop_zero, List.take_succ_cons, List.take_nil, Option.getD_some, Option.map_some, map_c, map_n, List.length_cons, List.length_nil, Nat.reduceAdd, Nat.reduceSub, Nat.reduceLeDiff, Nat.reduceEqDiff, Nat.zero_add, List.cons_append, List.nil_append, if_true, if_false, R, hst]
  refine CallK.of (c_parts (hL.mono hp1) (hV.mono hp1) h (hP.mono hp1) hl hc P (fun o ho => (hown o ho).1)) ?_
  generalize hA1 : A ++ [AObj.cells true [I s1.num, I (s1.den : Int)]] = A1 at *
  have hls := Ls_out A1 e2_len ((prts L (lists ws) P).map rp)
  have hp2 := pre_out A1 (((prts L (lists ws) P).map rp).flatMap e2) ((prts L (lists ws) P).map rp).length
  generalize outV 2 A1 ((prts L (lists ws) P).map rp).length = lv at *
  generalize outH A1 (((prts L (lists ws) P).map rp).flatMap e2) ((prts L (lists ws) P).map rp).length = A2 at *
  have hld2 : ldA 2 true (.ptr A.length 0) A2 = some (.agg [I s1.num, I (s1.den : Int)]) := by
    unfold ldA at hld ⊢
    simp only at hld ⊢
    have hlt : A.length < A1.length := by rw [← hA1]; simp
    obtain ⟨t, rfl⟩ := hp2
    rw [List.getElem?_append_left hlt]; exact hld
  simp (maxSteps := 4000000) -implicitDefEqProofs -dsimp (disch := omega) only [↓AOps_pu, ↓AOps_call, on_some, extK_false, pval, rd_S, put_S, putS_none, List.replicate_succ, List.replicate_zero, List.set_cons_zero, List.set_cons_succ, List.getElem?_cons_zero, List.getElem?_cons_succ, Option.getD_some, map_c, map_n, Nat.reduceSub, List.cons_append, List.nil_append]
  have hn0 := cast_pos (show 0 < (ws.length : Int) by omega)
  refine CallK.of (c_none2 hls (by simp [prts]; omega) (fun q hq => ?_)) ?_
  · obtain ⟨o, ho, rfl⟩ := List.mem_map.1 hq
    have ho := List.mem_range.1 ho
    rw [hll] at ho
    obtain ⟨⟨k, hk⟩, hfr⟩ := hown o ho
    obtain ⟨r, hr, hf⟩ := fOf_mem (L := L) (V := lists ws) (o := o) (by rw [hll]; omega)
    have hf' : L.zip (rowOf (lists ws) (o : Int)) = L.zip r := hf
    rw [hf'] 
    rw [hf] at hfr
    obtain ⟨f1, f2, _, f4, f5⟩ := pwo_facts h hc hr hk.o.1
    have ht := tot_bound (h.gd hr)
    have htp := h.tot_pos hr
    have ht0 := cast_pos (show 0 < tot (L.zip r) by omega)
    have hdiv : pwo (L.zip r) (P o) / ((tot (L.zip r) : Int) : Rat) * ((tot (L.zip r) : Int) : Rat) = pwo (L.zip r) (P o) := Rat.div_mul_cancel (cast_ne (by omega))
    have q0 : 0 ≤ pwo (L.zip r) (P o) / ((tot (L.zip r) : Int) : Rat) := by
      rw [Rat.div_def]; exact Rat.mul_nonneg f1 (Rat.le_of_lt (Rat.inv_pos.2 ht0))
    have q1 : pwo (L.zip r) (P o) / ((tot (L.zip r) : Int) : Rat) ≤ ((1 : Int) : Rat) := by
      refine Rat.le_of_mul_le_mul_right ?_ ht0
      rw [hdiv, int1, Rat.one_mul]; exact f2
    have hdp := den_pos (pwo (L.zip r) (P o))
    have hDm : 0 < ((pwo (L.zip r) (P o)).den : Int) * tot (L.zip r) := Int.mul_pos hdp (by omega)
    have hDl : ((pwo (L.zip r) (P o)).den : Int) * tot (L.zip r) ≤ 1000000 * 2400 := Int.mul_le_mul f5 ht.2 ht.1 (by omega)
    have hDq := (Dv_self (pwo (L.zip r) (P o))).div (tot (L.zip r)) (by omega)
    have nq := num_le (M := 1) hDm hDq (int_neg_le_zero (by omega) q0) q1
    refine s89 hld2 (Fit_of 2400000000 1 2400000000 5 (by omega) (by omega) (by omega) (by omega) (by decide) (by decide)) ?_
    rw [← hs1]
    refine Rat.le_of_mul_le_mul_right ?_ hn0
    refine Rat.le_of_mul_le_mul_right ?_ ht0
    have e1 : ((1 : Int) : Rat) / ((ws.length : Int) : Rat) * ((ws.length : Int) : Rat) = 1 := by rw [Rat.div_mul_cancel (cast_ne (by omega)), int1]
    rw [e1, Rat.one_mul, Rat.mul_assoc, Rat.mul_comm ((ws.length : Int) : Rat), ← Rat.mul_assoc, hdiv]
    exact hfr
  simp (maxSteps := 4000000) -implicitDefEqProofs -dsimp (disch := omega) only [↓AW_ret, ↓AOps_nil, ↓AOps_pu, on_some, extK_same, ↓then_normal, ↓Fin_ret, pval, rd_S, rd_C, put_S, putS_none, resV, resL, List.replicate_succ, List.replicate_zero, List.set_cons_zero, List.set_cons_succ, List.getElem?_cons_zero, List.getElem?_cons_succ, Option.getD_some, Nat.reduceSub, List.cons_append, List.nil_append, Bool.not_false]
  exact gc_val (hp1.trans hp2) rfl
theorem knife_err (hL : L1 A x L) (hV : LL A y ws) (hs : Sz L ws) (h0 : ¬ kE L (lists ws) = 0) : ACalls Try.prog 32 [.agg [x, y]] A (.tuple [.nilS, I (kE L (lists ws))]) A ∧ ACalls Try.prog 33 [.agg [x, y]] A (.tuple [.nilS, I (kE L (lists ws))]) A := by
  constructor
  · refine acalls hmix Try.func32 (by kernel_rfl) t32 1 rfl (by decide) ?_
    dsimp only [m32]
    simp (maxSteps := 4000000) -implicitDefEqProofs -dsimp (disch := omega) only [↓AW_ops, ↓AW_seq, ↓AOps_nil, ↓AOps_pu, on_some, ↓then_normal, pval, rd_S, rd_C, put_S, cells_agg, List.replicate_succ, List.replicate_zero, List.set_cons_zero, List.set_cons_succ, List.getElem?_cons_zero, Option.getD_some, Nat.reduceSub, List.cons_append, List.nil_append, ↓AW_toScope]
    refine ScopeK.by (α := Unit) 65 (fun _ => False) (fun _ => []) (fun _ => A) (fun _ => 0) 1 ?_ (fun _ h => h.elim)
    simp (maxSteps := 4000000) -implicitDefEqProofs -dsimp (disch := omega) only [↓AW_ops, ↓AW_seq, ↓AOps_pu, ↓AOps_call, on_some, pval, rd_S, put_S, chkd, bgot, partA, eq_self, List.set_cons_zero, List.set_cons_succ, List.getElem?_cons_zero, List.getElem?_cons_succ, List.drop_zero, List.take_succ_cons, List.take_nil, Option.getD_some, map_c, map_n, List.length_cons, List.length_nil, Nat.reduceAdd, Nat.reduceLeDiff, Nat.reduceEqDiff, Nat.zero_add, if_true, if_false]
    refine CallK.of (s26 hL hV hs.l hs.v hs.w) ?_
    simp (maxSteps := 4000000) -implicitDefEqProofs -dsimp (disch := omega) only [↓AW_ops, ↓AW_seq, ↓AW_cond, ↓AW_ret, ↓AOps_nil, ↓AOps_pu, on_some, extK_same, condB_t, ↓then_normal, ↓then_ret, ↓Fin_ret, pval, rd_S, rd_C, put_S, resV, resL, List.set_cons_zero, List.set_cons_succ, List.getElem?_cons_zero, List.getElem?_cons_succ, Option.getD_some, bin_neq, decide_true, not_false_eq_true, ↓inScope_ret, h0]
    exact gc_same rfl
  · refine acalls hmix Try.func33 (by kernel_rfl) t33 1 rfl (by decide) ?_
    dsimp only [m33]
    simp (maxSteps := 4000000) -implicitDefEqProofs -dsimp (disch := omega) only [↓AW_ops, ↓AW_seq, ↓AOps_nil, ↓AOps_pu, ↓AOps_call, on_some, ↓then_normal, pval, rd_S, rd_C, put_S, chkd, bgot, cells_agg, partA, eq_self, List.replicate_succ, List.replicate_zero, List.set_cons_zero, List.set_cons_succ, List.getElem?_cons_zero, List.getElem?_cons_succ, List.drop_zero, List.take_succ_cons, List.take_nil, Option.getD_some, map_c, map_n, List.length_cons, List.length_nil, Nat.reduceAdd, Nat.reduceSub, Nat.reduceLeDiff, Nat.reduceEqDiff, Nat.zero_add, List.cons_append, List.nil_append, if_true, if_false]
    refine CallK.of (s27 hL hV hs.l hs.v hs.w) ?_
    simp (maxSteps := 4000000) -implicitDefEqProofs -dsimp (disch := omega) only [↓AW_ops, ↓AW_seq, ↓AW_cond, ↓AW_ret, ↓AOps_nil, ↓AOps_pu, on_some, extK_same, condB_t, ↓then_normal, ↓then_ret, ↓Fin_ret, pval, rd_S, rd_C, put_S, resV, resL, List.replicate_succ, List.replicate_zero, List.set_cons_zero, List.set_cons_succ, List.getElem?_cons_zero, List.getElem?_cons_succ, Option.getD_some, Nat.reduceSub, List.cons_append, List.nil_append, bin_neq, decide_true, not_false_eq_true, h0]
    exact gc_same rfl
end
end Go.Proofs.Ytmblehbjedpjoaa

namespace Go.Proofs.Ytmblehbjedpjoaa
open Go Go.Eng
end Go.Proofs.Ytmblehbjedpjoaa

namespace Go.Proofs.Ytmblehbjedpjoaa
open Go Go.Eng
theorem ws_get {ws : List (AV × List Int)} {i : Nat} {x : AV × List Int} (hz : ws[i]? = some x) : (lists ws)[i]? = some x.2 := by
  rw [List.getElem?_map, hz]; rfl
theorem c_Clone {xs : List Int} {v : AV} {A : AHeap} (hx : L1 A v xs) (hn : v ≠ .nilS) (hl : xs.length ≤ 1000000) :
    ∃ r H', ACalls Try.prog 116 [v] A r H' ∧ ∃ n full, A <+: H' ∧ A.length ≤ n ∧ r = .sl 1 n 0 xs.length full ∧ H'[n]? = some (.cells true (xs.flatMap e1 ++ [])) := by
  refine acallsR hmix Try.func116 (by kernel_rfl) t116 _ 1 rfl (by decide) ?_
  obtain ⟨v', n, full, H2, happ, hp, hle, rfl, hg⟩ := L1_app_new hx (by simp [lim]; omega)
  rcases hx.inv with ⟨rfl, _⟩ | ⟨n', off, full', rw, l, rfl, _⟩
  · exact absurd rfl hn
  · dsimp only [m116]
    simp (maxSteps := 4000000) -implicitDefEqProofs -dsimp (disch := omega) only [↓AW_skip, ↓AW_ops, ↓AW_seq, ↓AW_cond, ↓AW_ret, ↓AOps_nil, ↓AOps_pu, ↓AOps_ha, on_some, extK_false, extK_app, condB_f, ↓then_normal, ↓FinR_ret, pval, hval_blds, hval_app, rd_S, rd_C, put_S, resV, resL, fillA, repl, List.replicate_succ, List.replicate_zero, List.set_cons_zero, List.set_cons_succ, List.getElem?_cons_zero, List.getElem?_cons_succ, Option.getD_some, map_n, Nat.reduceSub, List.cons_append, List.nil_append, List.append_nil, List.replicate_zero, repl, happ]
    exact ⟨_, _, gc_all, n, full, hp, hle, rfl, by simpa using hg⟩
/-- A field that the call has made. -/
def NF (A H : AHeap) (r : AV) (L : List Int) (V : List (List Int)) : Prop := ∃ A1 x y ws, A <+: A1 ∧ A1 <+: H ∧ L1 A1 x L ∧ NL A1 H y ws ∧ lists ws = V ∧ r = .agg [x, y]
theorem row_l1 {A H : AHeap} {xs : List Int} {n : Nat} {full : Bool} (h : H[n]? = some (.cells true (xs.flatMap e1 ++ []))) : L1 H (.sl 1 n 0 xs.length full) xs := by
  refine ⟨e1_len, ?_⟩
  have hl := flatMap_length e1_len xs
  simp only [slCells, cellsAt, h, if_true, Nat.zero_add]
  rw [if_pos (by rw [List.length_append]; omega)]
  simp only [List.drop_zero, Option.map_some, Option.some.injEq, Prod.mk.injEq, true_and]
  rw [← hl, List.take_left]
theorem s40 {x y : AV} {L : List Int} {ws : List (AV × List Int)} {A : AHeap} (hL : L1 A x L) (hV : LL A y ws) (hl : L.length ≤ 1000000) (hs : ws.length ≤ 1000000) (hw : ∀ w ∈ ws, w.2.length ≤ 1000000) :
    ∃ r H', ACalls Try.prog 40 [.agg [x, y]] A r H' ∧ NF A H' r L (lists ws) := by
  refine acallsR hmix Try.func40 (by kernel_rfl) t40 _ 1 rfl (by decide) ?_
  obtain ⟨v1, n1, full1, H1, happ1, hp1, hle1, rfl, hg1⟩ := L1_app_new hL (by simp [lim]; omega)
  have hx1 := row_l1 (A := A) (full := full1) hg1
  have hV1 := hV.mono hp1
  dsimp only [m40]
  simp (maxSteps := 4000000) -implicitDefEqProofs -dsimp (disch := omega) only [↓AW_ops, ↓AW_seq, ↓AW_block, ↓AOps_nil, ↓AOps_pu, ↓AOps_ha, on_some, extK_false, extK_app, ↓then_normal, pval, hval_blds, hval_app, rd_S, rd_C, put_S, ↓AW_toLoop, chkd, isAdr, bput, bgot, cells_agg, cells_sl, splice, partA, fillA, repl, eq_self, List.replicate_succ, List.replicate_zero, List.set_cons_zero, List.set_cons_succ, List.getElem?_cons_zero, List.getElem?_cons_succ, List.drop_zero, List.drop_succ_cons, List.drop_nil, List.take_zero, List.take_succ_cons, Option.getD_some, Option.map_some, map_c, map_n, List.length_cons, List.length_nil, Nat.reduceAdd, Nat.reduceSub, Nat.reduceLeDiff, Nat.zero_add, List.cons_append, List.nil_append, List.append_nil, if_true, if_false, Bool.false_eq_true, and_true, ne_eq, not_true_eq_false, List.replicate_zero, repl, happ1]
  refine LoopK.by 30 (fun x : Nat × AV × AHeap × List (AV × List Int) => (x.1 ≤ ws.length ∧ x.2.2.2.length = x.1) ∧ NL H1 x.2.2.1 x.2.1 x.2.2.2 ∧ lists x.2.2.2 = (lists ws).take x.1)
    (fun z => [(1, .agg [x, y]), (2, .agg [.nilS, .nilS]), (3, .agg [.sl 1 n1 0 L.length full1, z.2.1]), (4, I z.1)]) (fun x => x.2.2.1) (fun x => ws.length - x.1) (0, .nilS, H1, []) ⟨⟨by simp only; omega, rfl⟩, NL.nil (List.prefix_refl _), by simp⟩ rfl (by simp [Has, rd_s]) rfl ?_
  rintro ⟨i, u, H2, ws1⟩ ⟨⟨hi, hwl⟩, hnl, hli⟩
  simp only at hi hwl hnl hli
  have hw1 := hV1.mono hnl.acc.1
  have hll : (lists ws).length = ws.length := by simp
  by_cases hlt : i < ws.length
  · obtain ⟨z, hz⟩ : ∃ z, ws[i]? = some z := ⟨_, List.getElem?_eq_getElem hlt⟩
    have hlt' : (i : Int) < ws.length := by omega
    have hm := List.mem_of_getElem? hz
    have hx := hw1.inn z hm
    have hx2 := hw z hm
    have hA0 := hV1.pos (by omega)
    have hwm := hw1.mono (pre_app H2 [AObj.cells true []])
    obtain ⟨v2, n, full, H3, happ2, hp2, hn, rfl, hg2⟩ := L1_app_new hx (by simp [lim]; omega)
    obtain ⟨v3, H4, happ, h3⟩ := (hnl.mono hp2).push (.sl 1 n 0 z.2.length full, z.2) (.inr ⟨n, full, [], rfl, Nat.le_trans hnl.acc.1.length_le hn, hg2, nm_ne_nil hnl hn hA0, fun y hy => (hnl.lt.1 y hy).imp id (fun h => by omega)⟩) (by simp [lim]; omega)
    simp only at happ
    have hv3c : v3.cells? = some [v3] := Ls_cells (AccL_ls h3.acc e0_len)
    simp (maxSteps := 4000000) -implicitDefEqProofs -dsimp (disch := omega) only [↓AW_skip, ↓AW_ops, ↓AW_seq, ↓AW_cond, ↓AW_block, ↓AOps_nil, ↓AOps_pu, ↓AOps_ld, ↓AOps_ha, on_some, extK_false, extK_app, condB_t, ↓then_normal, ↓inBlock_normal, pval, lval, hval_blds, hval_app, rd_S, rd_C, put_S, chkd, isAdr, bput, bgot, cells_agg, cells_sl, splice, partA, fillA, repl, eq_self, mk, List.foldl_cons, List.foldl_nil, List.replicate_succ, List.replicate_zero, List.set_cons_zero, List.set_cons_succ, List.getElem?_cons_zero, List.getElem?_cons_succ, List.drop_zero, List.drop_succ_cons, List.drop_nil, List.take_zero, List.take_succ_cons, List.take_nil, Option.getD_some, map_c, map_n, List.length_cons, List.length_nil, Nat.reduceAdd, Nat.reduceLeDiff, Nat.zero_add, List.cons_append, List.nil_append, List.append_nil, bin_add, bin_lss, w64, if_true, if_false, Bool.false_eq_true, decide_true, true_and, and_true, ne_eq, not_true_eq_false, hlt', hw1.ls.len, hwm.ls.idx hlt, hwm.ls.ld0 hz 1 false (by decide), e0, happ2, happ, hv3c, List.replicate_zero, repl]
    refine ⟨(i + 1, v3, H4, ws1 ++ [(.sl 1 n 0 z.2.length full, z.2)]), ⟨⟨hlt, by simp [hwl]⟩, h3, ?_⟩, by simp [Has, rd_s], rfl, by simp only; omega⟩
    simp only [lists, List.map_append, List.map_cons, List.map_nil]
    rw [List.take_add_one, show List.map Prod.snd ws1 = (lists ws).take i from hli, ws_get hz]
    rfl
  · have hlt' : ¬ ((i : Int) < ws.length) := by omega
    rw [List.take_of_length_le (by omega)] at hli
    simp (maxSteps := 4000000) -implicitDefEqProofs -dsimp (disch := omega) only [↓AW_ops, ↓AW_seq, ↓AW_cond, ↓AW_exit, ↓AW_ret, ↓AOps_nil, ↓AOps_pu, on_some, condB_f, ↓then_normal, ↓then_exit, ↓inBlock_exit, ↓FinR_ret, pval, rd_S, put_S, resV, resL, chkd, isAdr, bput, bgot, cells_agg, splice, partA, eq_self, mk, List.foldl_cons, List.foldl_nil, List.replicate_succ, List.replicate_zero, List.set_cons_zero, List.set_cons_succ, List.getElem?_cons_zero, List.getElem?_cons_succ, List.drop_zero, List.drop_succ_cons, List.drop_nil, List.take_zero, List.take_succ_cons, List.take_nil, Option.getD_some, List.length_cons, List.length_nil, Nat.reduceAdd, Nat.reduceLeDiff, Nat.reduceEqDiff, Nat.zero_add, List.nil_append, List.append_nil, bin_lss, if_true, if_false, Bool.false_eq_true, decide_false, ne_eq, not_true_eq_false, hlt', hw1.ls.len]
    exact ⟨_, _, gc_all, H1, _, u, ws1, hp1, hnl.acc.1, hx1, hnl, hli, rfl⟩
end Go.Proofs.Ytmblehbjedpjoaa

namespace Go.Proofs.Ytmblehbjedpjoaa
open Go Go.Eng
/-- slices.Backward[[]selion/api.Piece,selion/api.Piece] [] -/
def m94 : MFun := ⟨4, [], [.mov (.s 2)],
 .seq (.ops [⟨(some 1), some undefA, none, false, .ha (.newv (.s 0))⟩,
   ⟨(some 2), some undefA, none, false, .pu (.mov (.c (.nilF)))⟩])
 (.seq (.ops [⟨(some 3), some undefA, none, false, .pu (.mkf 117 [(.s 1)])⟩,
   ⟨(some 2), some undefA, none, false, .pu (.mov (.s 3))⟩])
 (.ret))⟩
theorem t94 : trF Try.prog [] [] Try.f94 = some m94 := by kernel_rfl
/-- slices.Repeat[[]selion/api.Rat,selion/api.Rat] [loop [7, 8]] -/
def m99 : MFun := ⟨48, [], [.mov (.s 4)],
 .seq (.ops [⟨(some 4), some undefA, none, false, .pu (.mov (.c (.nilS)))⟩])
 (.seq (.seq (.ops [⟨(some 9), some undefA, none, false, .pu (.mov (.s 1))⟩,
   ⟨(some 10), some undefA, none, false, .pu (.bin .lss (.s 9) (.c (.int .i64 0)))⟩])
 (.cond (.s 10) (.ops [⟨(some 11), some undefA, none, false, .pu (.fail)⟩,
    ⟨none, some undefA, none, false, .pu (.fail)⟩])
 (.skip)))
 (.seq (.ops [⟨(some 13), some undefA, none, false, .pu (.mov (.s 0))⟩,
   ⟨(some 14), some undefA, none, false, .pu (.len (.s 13))⟩,
   ⟨(some 15), some undefA, none, false, .pu (.conv .u64 (.s 14))⟩,
   ⟨(some 16), some undefA, none, false, .pu (.mov (.s 1))⟩,
   ⟨(some 17), some undefA, none, false, .pu (.conv .u64 (.s 16))⟩,
   ⟨(some 18), some undefA, none, false, .call 119 [(.s 15), (.s 17)]⟩,
   ⟨(some 12), some undefA, none, false, .pu (.mov (.s 18))⟩,
   ⟨(some 19), some undefA, none, false, .pu (.extr 0 (.s 12))⟩,
   ⟨(some 20), some undefA, none, false, .pu (.extr 1 (.s 12))⟩,
   ⟨(some 5), some undefA, none, false, .pu (.mov (.s 19))⟩,
   ⟨(some 6), some undefA, none, false, .pu (.mov (.s 20))⟩])
 (.seq (.seq (.ops [⟨(some 21), some undefA, none, false, .pu (.mov (.s 5))⟩,
   ⟨(some 22), some undefA, none, false, .pu (.bin .gtr (.s 21) (.c (.int .u64 0)))⟩,
   ⟨(some 23), some undefA, none, false, .pu (.mov (.s 22))⟩,
   ⟨(some 24), some undefA, (some (23, false)), false, .pu (.mov (.s 6))⟩,
   ⟨(some 25), some undefA, (some (23, false)), false, .pu (.bin .gtr (.s 24) (.c (.int .u64 9223372036854775807)))⟩,
   ⟨(some 26), some undefA, none, false, .pu (.pick (.s 23) (.c (.bool true)) (.s 25))⟩])
 (.cond (.s 26) (.ops [⟨(some 27), some undefA, none, false, .pu (.fail)⟩,
    ⟨none, some undefA, none, false, .pu (.fail)⟩])
 (.skip)))
 (.seq (.ops [⟨(some 28), some undefA, none, false, .pu (.mov (.s 6))⟩,
   ⟨(some 29), some undefA, none, false, .pu (.conv .i64 (.s 28))⟩,
   ⟨(some 30), some undefA, none, false, .ha (.mks 2 [.int .i64 0, .int .i64 0] (.s 29) (.s 29))⟩,
   ⟨(some 7), some undefA, none, false, .pu (.mov (.s 30))⟩])
 (.seq (.ops [⟨(some 31), some undefA, none, false, .pu (.mov (.s 7))⟩,
   ⟨(some 32), some undefA, none, false, .pu (.mov (.s 0))⟩,
   ⟨(some 33), some undefA, none, false, .ha (.cpy 2 (.s 31) (.s 32))⟩,
   ⟨(some 8), some undefA, none, false, .pu (.mov (.s 33))⟩])
 (.seq (.block 0 (.loop (.seq (.seq (.ops [⟨(some 34), some undefA, none, false, .pu (.mov (.s 8))⟩,
     ⟨(some 35), some undefA, none, false, .pu (.mov (.s 7))⟩,
     ⟨(some 36), some undefA, none, false, .pu (.len (.s 35))⟩,
     ⟨(some 37), some undefA, none, false, .pu (.bin .lss (.s 34) (.s 36))⟩])
   (.cond (.s 37) (.skip)
   (.exit 0)))
   (.block 1 (.ops [⟨(some 38), some undefA, none, false, .pu (.mov (.s 8))⟩,
      ⟨(some 39), some undefA, none, false, .pu (.mov (.s 7))⟩,
      ⟨(some 40), some undefA, none, false, .pu (.mov (.s 8))⟩,
      ⟨(some 41), some undefA, none, false, .pu (.slc 2 (.s 39) (some (.s 40)) none none)⟩,
      ⟨(some 42), some undefA, none, false, .pu (.mov (.s 7))⟩,
      ⟨(some 43), some undefA, none, false, .pu (.mov (.s 8))⟩,
      ⟨(some 44), some undefA, none, false, .pu (.slc 2 (.s 42) none (some (.s 43)) none)⟩,
      ⟨(some 45), some undefA, none, false, .ha (.cpy 2 (.s 41) (.s 44))⟩,
      ⟨(some 46), some undefA, none, false, .pu (.bin .add (.s 38) (.s 45))⟩,
      ⟨(some 8), some undefA, none, false, .pu (.mov (.s 46))⟩])))))
 (.seq (.ops [⟨(some 47), some undefA, none, false, .pu (.mov (.s 7))⟩,
   ⟨(some 4), some undefA, none, false, .pu (.mov (.s 47))⟩])
 (.ret))))))))⟩
theorem t99 : trF Try.prog [] [] Try.f99 = some m99 := by kernel_rfl
/-- math/bits.Mul [] -/
def m119 : MFun := ⟨30, [], [.mov (.s 4), .mov (.s 5)],
 .seq (.ops [⟨(some 4), some undefA, none, false, .pu (.mov (.c (.int .u64 0)))⟩,
   ⟨(some 5), some undefA, none, false, .pu (.mov (.c (.int .u64 0)))⟩])
 (.seq (.cond (.c (.bool false)) (.seq (.ops [⟨(some 11), some undefA, none, false, .pu (.mov (.s 0))⟩,
    ⟨(some 12), some undefA, none, false, .pu (.conv .u32 (.s 11))⟩,
    ⟨(some 13), some undefA, none, false, .pu (.mov (.s 1))⟩,
    ⟨(some 14), some undefA, none, false, .pu (.conv .u32 (.s 13))⟩,
    ⟨(some 15), some undefA, none, false, .call 127 [(.s 12), (.s 14)]⟩,
    ⟨(some 10), some undefA, none, false, .pu (.mov (.s 15))⟩,
    ⟨(some 16), some undefA, none, false, .pu (.extr 0 (.s 10))⟩,
    ⟨(some 17), some undefA, none, false, .pu (.extr 1 (.s 10))⟩,
    ⟨(some 6), some undefA, none, false, .pu (.mov (.s 16))⟩,
    ⟨(some 7), some undefA, none, false, .pu (.mov (.s 17))⟩])
  (.seq (.ops [⟨(some 18), some undefA, none, false, .pu (.mov (.s 6))⟩,
    ⟨(some 19), some undefA, none, false, .pu (.conv .u64 (.s 18))⟩,
    ⟨(some 20), some undefA, none, false, .pu (.mov (.s 7))⟩,
    ⟨(some 21), some undefA, none, false, .pu (.conv .u64 (.s 20))⟩,
    ⟨(some 4), some undefA, none, false, .pu (.mov (.s 19))⟩,
    ⟨(some 5), some undefA, none, false, .pu (.mov (.s 21))⟩])
  (.ret)))
 (.skip))
 (.seq (.ops [⟨(some 23), some undefA, none, false, .pu (.mov (.s 0))⟩,
   ⟨(some 24), some undefA, none, false, .pu (.mov (.s 1))⟩,
   ⟨(some 25), some undefA, none, false, .call 128 [(.s 23), (.s 24)]⟩,
   ⟨(some 22), some undefA, none, false, .pu (.mov (.s 25))⟩,
   ⟨(some 26), some undefA, none, false, .pu (.extr 0 (.s 22))⟩,
   ⟨(some 27), some undefA, none, false, .pu (.extr 1 (.s 22))⟩,
   ⟨(some 8), some undefA, none, false, .pu (.mov (.s 26))⟩,
   ⟨(some 9), some undefA, none, false, .pu (.mov (.s 27))⟩])
 (.seq (.ops [⟨(some 28), some undefA, none, false, .pu (.mov (.s 8))⟩,
   ⟨(some 29), some undefA, none, false, .pu (.mov (.s 9))⟩,
   ⟨(some 4), some undefA, none, false, .pu (.mov (.s 28))⟩,
   ⟨(some 5), some undefA, none, false, .pu (.mov (.s 29))⟩])
 (.ret))))⟩
theorem t119 : trF Try.prog [] [] Try.f119 = some m119 := by kernel_rfl
/-- math/bits.Mul32 [] -/
def m127 : MFun := ⟨17, [], [.mov (.s 4), .mov (.s 5)],
 .seq (.ops [⟨(some 4), some undefA, none, false, .pu (.mov (.c (.int .u32 0)))⟩,
   ⟨(some 5), some undefA, none, false, .pu (.mov (.c (.int .u32 0)))⟩])
 (.seq (.ops [⟨(some 7), some undefA, none, false, .pu (.mov (.s 0))⟩,
   ⟨(some 8), some undefA, none, false, .pu (.conv .u64 (.s 7))⟩,
   ⟨(some 9), some undefA, none, false, .pu (.mov (.s 1))⟩,
   ⟨(some 10), some undefA, none, false, .pu (.conv .u64 (.s 9))⟩,
   ⟨(some 11), some undefA, none, false, .pu (.bin .mul (.s 8) (.s 10))⟩,
   ⟨(some 6), some undefA, none, false, .pu (.mov (.s 11))⟩])
 (.seq (.ops [⟨(some 12), some undefA, none, false, .pu (.mov (.s 6))⟩,
   ⟨(some 13), some undefA, none, false, .pu (.bin .shr (.s 12) (.c (.int .u64 32)))⟩,
   ⟨(some 14), some undefA, none, false, .pu (.conv .u32 (.s 13))⟩,
   ⟨(some 15), some undefA, none, false, .pu (.mov (.s 6))⟩,
   ⟨(some 16), some undefA, none, false, .pu (.conv .u32 (.s 15))⟩,
   ⟨(some 4), some undefA, none, false, .pu (.mov (.s 14))⟩,
   ⟨(some 5), some undefA, none, false, .pu (.mov (.s 16))⟩])
 (.ret)))⟩
theorem t127 : trF Try.prog [] [] Try.f127 = some m127 := by kernel_rfl
/-- math/bits.Mul64 [] -/
def m128 : MFun := ⟨51, [], [.mov (.s 4), .mov (.s 5)],
 .seq (.ops [⟨(some 4), some undefA, none, false, .pu (.mov (.c (.int .u64 0)))⟩,
   ⟨(some 5), some undefA, none, false, .pu (.mov (.c (.int .u64 0)))⟩])
 (.seq (.ops [⟨(some 14), some undefA, none, false, .pu (.mov (.s 0))⟩,
   ⟨(some 15), some undefA, none, false, .pu (.bin .and (.s 14) (.c (.int .u64 4294967295)))⟩,
   ⟨(some 6), some undefA, none, false, .pu (.mov (.s 15))⟩])
 (.seq (.ops [⟨(some 16), some undefA, none, false, .pu (.mov (.s 0))⟩,
   ⟨(some 17), some undefA, none, false, .pu (.bin .shr (.s 16) (.c (.int .u64 32)))⟩,
   ⟨(some 7), some undefA, none, false, .pu (.mov (.s 17))⟩])
 (.seq (.ops [⟨(some 18), some undefA, none, false, .pu (.mov (.s 1))⟩,
   ⟨(some 19), some undefA, none, false, .pu (.bin .and (.s 18) (.c (.int .u64 4294967295)))⟩,
   ⟨(some 8), some undefA, none, false, .pu (.mov (.s 19))⟩])
 (.seq (.ops [⟨(some 20), some undefA, none, false, .pu (.mov (.s 1))⟩,
   ⟨(some 21), some undefA, none, false, .pu (.bin .shr (.s 20) (.c (.int .u64 32)))⟩,
   ⟨(some 9), some undefA, none, false, .pu (.mov (.s 21))⟩])
 (.seq (.ops [⟨(some 22), some undefA, none, false, .pu (.mov (.s 6))⟩,
   ⟨(some 23), some undefA, none, false, .pu (.mov (.s 8))⟩,
   ⟨(some 24), some undefA, none, false, .pu (.bin .mul (.s 22) (.s 23))⟩,
   ⟨(some 10), some undefA, none, false, .pu (.mov (.s 24))⟩])
 (.seq (.ops [⟨(some 25), some undefA, none, false, .pu (.mov (.s 7))⟩,
   ⟨(some 26), some undefA, none, false, .pu (.mov (.s 8))⟩,
   ⟨(some 27), some undefA, none, false, .pu (.bin .mul (.s 25) (.s 26))⟩,
   ⟨(some 28), some undefA, none, false, .pu (.mov (.s 10))⟩,
   ⟨(some 29), some undefA, none, false, .pu (.bin .shr (.s 28) (.c (.int .u64 32)))⟩,
   ⟨(some 30), some undefA, none, false, .pu (.bin .add (.s 27) (.s 29))⟩,
   ⟨(some 11), some undefA, none, false, .pu (.mov (.s 30))⟩])
 (.seq (.ops [⟨(some 31), some undefA, none, false, .pu (.mov (.s 11))⟩,
   ⟨(some 32), some undefA, none, false, .pu (.bin .and (.s 31) (.c (.int .u64 4294967295)))⟩,
   ⟨(some 12), some undefA, none, false, .pu (.mov (.s 32))⟩])
 (.seq (.ops [⟨(some 33), some undefA, none, false, .pu (.mov (.s 11))⟩,
   ⟨(some 34), some undefA, none, false, .pu (.bin .shr (.s 33) (.c (.int .u64 32)))⟩,
   ⟨(some 13), some undefA, none, false, .pu (.mov (.s 34))⟩])
 (.seq (.ops [⟨(some 35), some undefA, none, false, .pu (.mov (.s 12))⟩,
   ⟨(some 36), some undefA, none, false, .pu (.mov (.s 6))⟩,
   ⟨(some 37), some undefA, none, false, .pu (.mov (.s 9))⟩,
   ⟨(some 38), some undefA, none, false, .pu (.bin .mul (.s 36) (.s 37))⟩,
   ⟨(some 39), some undefA, none, false, .pu (.bin .add (.s 35) (.s 38))⟩,
   ⟨(some 12), some undefA, none, false, .pu (.mov (.s 39))⟩])
 (.seq (.ops [⟨(some 40), some undefA, none, false, .pu (.mov (.s 7))⟩,
   ⟨(some 41), some undefA, none, false, .pu (.mov (.s 9))⟩,
   ⟨(some 42), some undefA, none, false, .pu (.bin .mul (.s 40) (.s 41))⟩,
   ⟨(some 43), some undefA, none, false, .pu (.mov (.s 13))⟩,
   ⟨(some 44), some undefA, none, false, .pu (.bin .add (.s 42) (.s 43))⟩,
   ⟨(some 45), some undefA, none, false, .pu (.mov (.s 12))⟩,
   ⟨(some 46), some undefA, none, false, .pu (.bin .shr (.s 45) (.c (.int .u64 32)))⟩,
   ⟨(some 47), some undefA, none, false, .pu (.bin .add (.s 44) (.s 46))⟩,
   ⟨(some 4), some undefA, none, false, .pu (.mov (.s 47))⟩])
 (.seq (.ops [⟨(some 48), some undefA, none, false, .pu (.mov (.s 0))⟩,
   ⟨(some 49), some undefA, none, false, .pu (.mov (.s 1))⟩,
   ⟨(some 50), some undefA, none, false, .pu (.bin .mul (.s 48) (.s 49))⟩,
   ⟨(some 5), some undefA, none, false, .pu (.mov (.s 50))⟩])
 (.ret))))))))))))⟩
theorem t128 : trF Try.prog [] [] Try.f128 = some m128 := by kernel_rfl
end Go.Proofs.Ytmblehbjedpjoaa

namespace Go.Proofs.Ytmblehbjedpjoaa
open Go Go.Eng
def tab2 : List (Nat × MFun) := [(119, m119), (127, m127), (128, m128)]
theorem tabOK2 : TabOK Try.prog tab2 :=
  .cons Try.func119 (by kernel_rfl) t119 <| .cons Try.func127 (by kernel_rfl) t127 <| .cons Try.func128 (by kernel_rfl) t128 <| .nil
end Go.Proofs.Ytmblehbjedpjoaa

namespace Go.Proofs.Ytmblehbjedpjoaa
open Go Go.Eng
theorem s97 (n lo hi : Int) (A : AHeap) : ACalls Try.prog 97 [I n, I lo, I hi] A (B (decide (lo ≤ n ∧ n ≤ hi))) A := by
  refine acalls hmix Try.func97 (by kernel_rfl) t97 3 rfl (by decide) ?_
  by_cases h : lo ≤ n
  · dsimp only [m97]
    simp (maxSteps := 4000000) -implicitDefEqProofs -dsimp (disch := omega) only [↓AW_ops, ↓AW_seq, ↓AW_ret, ↓AOps_nil, ↓AOps_pu, ↓AOps_guard, on_some, guardB_tt, ↓then_normal, ↓Fin_ret, pval, rd_S, rd_C, put_S, resV, resL, eq_self, List.replicate_succ, List.replicate_zero, List.set_cons_zero, List.set_cons_succ, List.getElem?_cons_zero, List.getElem?_cons_succ, Option.getD_some, Nat.reduceSub, List.cons_append, List.nil_append, bin_leq, bin_geq, if_true, decide_true, true_and, h]
    exact gc_same rfl
  · dsimp only [m97]
    simp (maxSteps := 4000000) -implicitDefEqProofs -dsimp (disch := omega) only [↓AW_ops, ↓AW_seq, ↓AW_ret, ↓AOps_nil, ↓AOps_pu, ↓AOps_guard, on_some, guardB_ft, skipS_some, ↓then_normal, ↓Fin_ret, pval, rd_S, rd_C, put_S, resV, resL, List.replicate_succ, List.replicate_zero, List.set_cons_zero, List.set_cons_succ, List.getElem?_cons_zero, List.getElem?_cons_succ, Option.getD_some, Nat.reduceSub, List.cons_append, List.nil_append, bin_geq, if_false, Bool.false_eq_true, decide_false, h]
    exact gc_same rfl
def vE (f : List (Int × Int)) : Int := if ¬ (1 ≤ f.length ∧ f.length ≤ 6) then 3 else if f.all vz then 0 else 1
theorem vE_small {f : List (Int × Int)} (h : ¬ ((1 : Int) ≤ f.length ∧ (f.length : Int) ≤ 6)) : vE f = 3 := by
  unfold vE; rw [if_pos]; omega
theorem vE_bad {f : List (Int × Int)} (h : (1 : Int) ≤ f.length ∧ (f.length : Int) ≤ 6) {i : Nat} {z : Int × Int} (hz : f[i]? = some z) (hb : vz z = false) : vE f = 1 := by
  unfold vE
  rw [if_neg (by omega), if_neg]
  intro ha
  rw [all_get ha hz] at hb; cases hb
theorem vE_good {f : List (Int × Int)} (h : (1 : Int) ≤ f.length ∧ (f.length : Int) ≤ 6) (ha : f.all vz = true) : vE f = 0 := by
  unfold vE
  rw [if_neg (by omega), if_pos ha]
theorem s96 {f : List (Int × Int)} {v : AV} {A : AHeap} (hf : L2 A v f) : ACalls Try.prog 96 [v] A (I (vE f)) A := by
  refine acalls hmix Try.func96 (by kernel_rfl) t96 1 rfl (by decide) ?_
  dsimp only [m96]
  simp (maxSteps := 4000000) -implicitDefEqProofs -dsimp (disch := omega) only [↓AW_ops, ↓AW_seq, ↓AOps_nil, ↓AOps_pu, ↓AOps_call, on_some, ↓then_normal, pval, rd_S, rd_C, put_S, List.replicate_succ, List.replicate_zero, List.set_cons_zero, List.set_cons_succ, List.getElem?_cons_zero, List.getElem?_cons_succ, Option.getD_some, map_c, map_n, Nat.reduceSub, List.cons_append, List.nil_append, hf.len]
  refine CallK.of (s97 _ _ _ _) ?_
  by_cases h : (1 : Int) ≤ f.length ∧ (f.length : Int) ≤ 6
  · simp (maxSteps := 4000000) -implicitDefEqProofs -dsimp (disch := omega) only [↓AW_skip, ↓AW_ops, ↓AW_seq, ↓AW_cond, ↓AW_block, ↓AOps_nil, ↓AOps_pu, on_some, extK_same, condB_f, ↓then_normal, pval, rd_S, rd_C, put_S, ↓AW_toLoop, List.replicate_succ, List.replicate_zero, List.set_cons_zero, List.set_cons_succ, List.getElem?_cons_zero, List.getElem?_cons_succ, Option.getD_some, Nat.reduceSub, List.cons_append, List.nil_append, Bool.not_true, decide_true, and_true, h, hf.len]
    refine LoopK.by 26 (fun i : Nat => i ≤ f.length ∧ (f.take i).all vz = true) (fun i => [(9, v), (10, I f.length), (11, I i)]) (fun _ => A) (fun i => f.length - i) 0 ⟨by omega, rfl⟩ rfl (by simp [Has, rd_s]) rfl ?_
    rintro i ⟨hi, hall⟩
    by_cases hlt : i < f.length
    · obtain ⟨z, hz⟩ : ∃ z, f[i]? = some z := ⟨_, List.getElem?_eq_getElem hlt⟩
      have hlt' : (i : Int) < f.length := by omega
      simp (maxSteps := 4000000) -implicitDefEqProofs -dsimp (disch := omega) only [↓AW_skip, ↓AW_ops, ↓AW_seq, ↓AW_cond, ↓AW_block, ↓AOps_nil, ↓AOps_pu, ↓AOps_ld, ↓AOps_call, on_some, condB_t, ↓then_normal, pval, lval, rd_S, rd_C, put_S, chkd, isAdr, bput, bgot, AV.cells?, splice, partA, eq_self, mk, List.foldl_cons, List.foldl_nil, List.replicate_succ, List.replicate_zero, List.set_cons_zero, List.set_cons_succ, List.getElem?_cons_zero, List.getElem?_cons_succ, List.drop_zero, List.drop_succ_cons, List.drop_nil, List.take_zero, List.take_succ_cons, List.take_nil, Option.getD_some, map_c, map_n, List.length_cons, List.length_nil, Nat.reduceAdd, Nat.reduceLeDiff, Nat.reduceEqDiff, Nat.zero_add, List.nil_append, List.append_nil, bin_lss, if_true, if_false, Bool.false_eq_true, decide_true, Go.Eng.e2, ne_eq, not_true_eq_false, hlt', hf.idx hlt, hf.ld0 hz 2 true (by decide)]
      refine CallK.of (s97 _ _ _ _) ?_
      by_cases h1 : (1 : Int) ≤ z.1 ∧ z.1 ≤ 20
      · simp (maxSteps := 4000000) -implicitDefEqProofs -dsimp (disch := omega) only [↓AOps_pu, ↓AOps_call, ↓AOps_guard, on_some, extK_same, guardB_ff, pval, rd_S, rd_C, put_S, chkd, isAdr, bgot, AV.cells?, partA, eq_self, mk, List.foldl_cons, List.foldl_nil, List.replicate_succ, List.replicate_zero, List.set_cons_zero, List.set_cons_succ, List.getElem?_cons_zero, List.getElem?_cons_succ, List.drop_zero, List.drop_succ_cons, List.take_succ_cons, List.take_nil, Option.getD_some, map_c, map_n, List.length_cons, List.length_nil, Nat.reduceAdd, Nat.reduceLeDiff, Nat.zero_add, if_true, if_false, Bool.false_eq_true, Bool.not_true, decide_true, and_true, h1]
        refine CallK.of (s97 _ _ _ _) ?_
        by_cases h2 : (0 : Int) ≤ z.2 ∧ z.2 ≤ 20
        · simp (maxSteps := 4000000) -implicitDefEqProofs -dsimp (disch := omega) only [↓AW_skip, ↓AW_ops, ↓AW_cond, ↓AOps_nil, ↓AOps_pu, ↓AOps_guard, on_some, extK_same, guardB_ff, condB_f, ↓then_normal, ↓inBlock_normal, pval, rd_S, rd_C, put_S, eq_self, mk, List.foldl_cons, List.foldl_nil, List.replicate_succ, List.replicate_zero, List.set_cons_zero, List.set_cons_succ, List.getElem?_cons_zero, List.getElem?_cons_succ, Option.getD_some, List.length_cons, List.length_nil, Nat.reduceAdd, Nat.zero_add, bin_add, w64, if_false, Bool.false_eq_true, Bool.not_true, decide_true, true_and, and_true, h2]
          refine ⟨i + 1, ⟨hlt, ?_⟩, by simp [Has, rd_s], by omega⟩
          rw [take_all hz, hall]
          simp [vz, h1, h2]
        · simp (maxSteps := 4000000) -implicitDefEqProofs -dsimp (disch := omega) only [↓AW_ops, ↓AW_seq, ↓AW_cond, ↓AW_ret, ↓AOps_nil, ↓AOps_pu, ↓AOps_guard, on_some, extK_same, guardB_ff, condB_t, ↓then_normal, ↓then_ret, ↓inBlock_ret, ↓Fin_ret, pval, rd_S, rd_C, put_S, resV, resL, mk, List.foldl_cons, List.foldl_nil, List.replicate_succ, List.replicate_zero, List.set_cons_zero, List.set_cons_succ, List.getElem?_cons_zero, List.getElem?_cons_succ, Option.getD_some, if_false, Bool.false_eq_true, Bool.not_false, decide_false, h2]
          exact gc_same (by rw [vE_bad h hz (by simp [vz]; omega)])
      · simp (maxSteps := 4000000) -implicitDefEqProofs -dsimp (disch := omega) only [↓AW_ops, ↓AW_seq, ↓AW_cond, ↓AW_ret, ↓AOps_nil, ↓AOps_pu, ↓AOps_guard, on_some, extK_same, guardB_tf, skipS_some, condB_t, ↓then_normal, ↓then_ret, ↓inBlock_ret, ↓Fin_ret, pval, rd_S, rd_C, put_S, resV, resL, eq_self, mk, List.foldl_cons, List.foldl_nil, List.replicate_succ, List.replicate_zero, List.set_cons_zero, List.set_cons_succ, List.getElem?_cons_zero, List.getElem?_cons_succ, Option.getD_some, if_true, Bool.not_false, decide_false, h1]
        exact gc_same (by rw [vE_bad h hz (by simp [vz]; omega)])
    · have hlt' : ¬ ((i : Int) < f.length) := by omega
      simp (maxSteps := 4000000) -implicitDefEqProofs -dsimp (disch := omega) only [↓AW_ops, ↓AW_seq, ↓AW_cond, ↓AW_exit, ↓AW_ret, ↓AOps_nil, ↓AOps_pu, on_some, condB_f, ↓then_normal, ↓then_exit, ↓inBlock_exit, ↓Fin_ret, pval, rd_S, rd_C, put_S, resV, resL, eq_self, mk, List.foldl_cons, List.foldl_nil, List.replicate_succ, List.replicate_zero, List.set_cons_zero, List.set_cons_succ, List.getElem?_cons_zero, List.getElem?_cons_succ, Option.getD_some, bin_lss, if_true, decide_false, hlt']
      have ha : f.all vz = true := by rw [← hall, List.take_of_length_le (by omega)]
      exact gc_same (by rw [vE_good h ha])
  · simp (maxSteps := 4000000) -implicitDefEqProofs -dsimp (disch := omega) only [↓AW_ops, ↓AW_seq, ↓AW_cond, ↓AW_ret, ↓AOps_nil, ↓AOps_pu, on_some, extK_same, condB_t, ↓then_normal, ↓then_ret, ↓Fin_ret, pval, rd_S, rd_C, put_S, resV, resL, List.replicate_succ, List.replicate_zero, List.set_cons_zero, List.set_cons_succ, List.getElem?_cons_zero, List.getElem?_cons_succ, Option.getD_some, Nat.reduceSub, List.cons_append, List.nil_append, Bool.not_false, decide_false, h]
    exact gc_same (by rw [vE_small h])
theorem good_of {f : List (Int × Int)} (h : vE f = 0) : good f ∧ 1 ≤ f.length := by
  unfold vE at h
  split at h
  · cases h
  · rename_i h1
    split at h
    · rename_i h2; exact ⟨⟨by omega, h2⟩, by omega⟩
    · cases h
theorem s121 (z : Int × Int) (A : AHeap) (h : vz z = true) : ACalls Try.prog 121 [.agg [I z.1, I z.2]] A (I (z.1 * z.2)) A := by
  refine acalls hmix Try.func121 (by kernel_rfl) t121 1 rfl (by decide) ?_
  rw [vz_iff] at h
  have h1 : 0 ≤ z.1 * z.2 := Int.mul_nonneg (by omega) (by omega)
  have h2 : z.1 * z.2 ≤ 20 * 20 := Int.mul_le_mul (by omega) (by omega) (by omega) (by omega)
  dsimp only [m121]
  simp (maxSteps := 4000000) -implicitDefEqProofs -dsimp (disch := omega) only [↓AW_ops, ↓AW_seq, ↓AW_ret, ↓AOps_nil, ↓AOps_pu, on_some, ↓then_normal, ↓Fin_ret, pval, rd_S, rd_C, put_S, resV, resL, chkd, isAdr, bgot, AV.cells?, partA, eq_self, List.replicate_succ, List.replicate_zero, List.set_cons_zero, List.set_cons_succ, List.getElem?_cons_zero, List.getElem?_cons_succ, List.drop_zero, List.drop_succ_cons, List.take_zero, List.take_succ_cons, List.take_nil, Option.getD_some, List.length_cons, List.length_nil, Nat.reduceAdd, Nat.reduceSub, Nat.reduceLeDiff, Nat.zero_add, List.cons_append, List.nil_append, bin_mul, w64, if_true, if_false, Bool.false_eq_true]
  exact gc_same rfl
theorem s120 {f : List (Int × Int)} {v : AV} {A : AHeap} (hf : L2 A v f) (k : Nat) (g : Int × Int → Int) (hg : ∀ z ∈ f, ACalls Try.prog k [.agg [I z.1, I z.2]] A (I (g z)) A) (hb : ∀ z ∈ f, 0 ≤ g z ∧ g z ≤ 400) (hl : f.length ≤ 6) :
    ACalls Try.prog 120 [v, .fn k []] A (I (sumZ g f)) A := by
  refine acalls hmix Try.func120 (by kernel_rfl) t120 2 rfl (by decide) ?_
  dsimp only [m120]
  simp (maxSteps := 4000000) -implicitDefEqProofs -dsimp (disch := omega) only [↓AW_ops, ↓AW_seq, ↓AW_block, ↓AOps_nil, ↓AOps_pu, on_some, ↓then_normal, pval, rd_S, rd_C, put_S, ↓AW_toLoop, List.replicate_succ, List.replicate_zero, List.set_cons_zero, List.set_cons_succ, List.getElem?_cons_zero, List.getElem?_cons_succ, Option.getD_some, Nat.reduceSub, List.cons_append, List.nil_append, hf.len]
  refine LoopK.by 21 (fun i : Nat => i ≤ f.length) (fun i => [(1, .fn k []), (5, I (sumZ g (f.take i))), (8, v), (9, I f.length), (10, I i)]) (fun _ => A) (fun i => f.length - i) 0 (by omega) rfl (by simp [Has, rd_s, sumZ]) rfl ?_
  intro i hi
  by_cases hlt : i < f.length
  · obtain ⟨z, hz⟩ : ∃ z, f[i]? = some z := ⟨_, List.getElem?_eq_getElem hlt⟩
    have hlt' : (i : Int) < f.length := by omega
    simp (maxSteps := 4000000) -implicitDefEqProofs -dsimp (disch := omega) only [↓AW_skip, ↓AW_ops, ↓AW_seq, ↓AW_cond, ↓AW_block, ↓AOps_nil, ↓AOps_pu, ↓AOps_ld, ↓AOps_callv, on_some, CallF_fn, condB_t, ↓then_normal, pval, lval, rd_S, rd_C, put_S, chkd, bput, bgot, AV.cells?, splice, partA, eq_self, mk, List.foldl_cons, List.foldl_nil, List.replicate_succ, List.replicate_zero, List.set_cons_zero, List.set_cons_succ, List.getElem?_cons_zero, List.getElem?_cons_succ, List.drop_zero, List.drop_succ_cons, List.drop_nil, List.take_zero, List.take_succ_cons, List.take_nil, Option.getD_some, map_c, map_n, List.length_cons, List.length_nil, Nat.reduceAdd, Nat.reduceLeDiff, Nat.reduceEqDiff, Nat.zero_add, List.nil_append, List.append_nil, bin_lss, if_true, if_false, decide_true, Go.Eng.e2, ne_eq, not_true_eq_false, hlt', hf.idx hlt, hf.ld0 hz 2 true (by decide)]
    refine CallK.of (hg z (List.mem_of_getElem? hz)) ?_
    have b1 := sumZ_bound (by omega) (f := f.take i) (fun y hy => hb y (List.mem_of_mem_take hy))
    have b2 := hb z (List.mem_of_getElem? hz)
    have b3 : ((f.take i).length : Int) ≤ 6 := by rw [List.length_take]; omega
    simp (maxSteps := 4000000) -implicitDefEqProofs -dsimp (disch := omega) only [↓AW_ops, ↓AOps_nil, ↓AOps_pu, on_some, extK_same, ↓then_normal, ↓inBlock_normal, pval, rd_S, rd_C, put_S, eq_self, mk, List.foldl_cons, List.foldl_nil, List.replicate_succ, List.replicate_zero, List.set_cons_zero, List.set_cons_succ, List.getElem?_cons_zero, List.getElem?_cons_succ, Option.getD_some, List.length_cons, List.length_nil, Nat.reduceAdd, Nat.zero_add, bin_add, w64, true_and]
    exact ⟨i + 1, hlt, by simp [Has, rd_s, sumZ_take hz], by omega⟩
  · have hlt' : ¬ ((i : Int) < f.length) := by omega
    simp (maxSteps := 4000000) -implicitDefEqProofs -dsimp (disch := omega) only [↓AW_ops, ↓AW_seq, ↓AW_cond, ↓AW_exit, ↓AW_ret, ↓AOps_nil, ↓AOps_pu, on_some, condB_f, ↓then_normal, ↓then_exit, ↓inBlock_exit, ↓Fin_ret, pval, rd_S, put_S, resV, resL, eq_self, mk, List.foldl_cons, List.foldl_nil, List.replicate_succ, List.replicate_zero, List.set_cons_zero, List.set_cons_succ, List.getElem?_cons_zero, List.getElem?_cons_succ, Option.getD_some, bin_lss, if_true, decide_false, hlt']
    exact gc_same (by rw [List.take_of_length_le (by omega)])
theorem s100 {f : List (Int × Int)} {v : AV} {A : AHeap} (hf : L2 A v f) (h : good f) : ACalls Try.prog 100 [v] A (I (tot f)) A := by
  refine acalls hmix Try.func100 (by kernel_rfl) t100 1 rfl (by decide) ?_
  dsimp only [m100]
  simp (maxSteps := 4000000) -implicitDefEqProofs -dsimp (disch := omega) only [↓AW_ops, ↓AW_seq, ↓AOps_nil, ↓AOps_pu, ↓AOps_call, on_some, ↓then_normal, pval, rd_S, rd_C, put_S, List.replicate_succ, List.replicate_zero, List.set_cons_zero, List.set_cons_succ, List.getElem?_cons_zero, List.getElem?_cons_succ, Option.getD_some, map_c, map_n, Nat.reduceSub, List.cons_append, List.nil_append]
  refine CallK.of (s120 hf 121 (fun z => z.1 * z.2) (fun z hz => s121 z A (List.all_eq_true.1 h.2 z hz)) (fun z hz => ?_) h.1) ?_
  · have := (vz_iff z).1 (List.all_eq_true.1 h.2 z hz)
    have h1 : 0 ≤ z.1 * z.2 := Int.mul_nonneg (by omega) (by omega)
    have h2 : z.1 * z.2 ≤ 20 * 20 := Int.mul_le_mul (by omega) (by omega) (by omega) (by omega)
    omega
  · simp (maxSteps := 4000000) -implicitDefEqProofs -dsimp (disch := omega) only [↓AW_ret, ↓AOps_nil, ↓AOps_pu, on_some, extK_same, ↓then_normal, ↓Fin_ret, pval, rd_S, put_S, resV, resL, List.replicate_succ, List.replicate_zero, List.set_cons_zero, List.set_cons_succ, List.getElem?_cons_zero, List.getElem?_cons_succ, Option.getD_some, Nat.reduceSub, List.cons_append, List.nil_append]
    exact gc_same rfl
theorem qr_le {s : Int × Int} {n : Int} (hs : 0 < s.2) : qr s ≤ (n : Rat) ↔ s.1 ≤ n * s.2 := by
  have h1 : qr s * (s.2 : Rat) = (s.1 : Rat) := Rat.div_mul_cancel (cast_ne (by omega))
  constructor
  · intro h
    exact rat_le_int hs h1 h
  · intro h
    rcases Rat.le_total (a := qr s) (b := (n : Rat)) with h2 | h2
    · exact h2
    · have h3 := int_le_rat hs h1 h2
      have h4 : s.1 = n * s.2 := by omega
      have : qr s = (n : Rat) := by
        have hne := cast_ne (show s.2 ≠ 0 by omega)
        rw [h4, Rat.intCast_mul] at h1
        generalize (s.2 : Rat) = d at *
        generalize qr s = q at *
        grind
      rw [this]; exact Rat.le_refl
theorem L2_one (A : AHeap) (r : Int × Int) : L2 (A ++ [.cells true [I r.1, I r.2]]) (.sl 2 A.length 0 1 true) [r] := ⟨e2_len, by simp [slCells, cellsAt, e2]⟩
theorem s118 {f : List (Int × Int)} {v : AV} {A : AHeap} (hf : L2 A v f) (hg : good f) (p w : Rat) (hp : Pl f p) (D : Int) (hD : 0 < D ∧ D ≤ 1048576) (hDp : Dv D (upTo 0 f p)) (hDw : Dv D w) (hw0 : 0 ≤ w) (hw1 : w ≤ ((10000 : Int) : Rat)) :
    ACalls Try.prog 118 [v, R p, R w] A (.tuple [oR (plc f p w), B (plc f p w).isSome]) A := by
  refine acalls hmix Try.func118 (by kernel_rfl) t118 3 rfl (by decide) ?_
  have hlb := len_bound hg
  have hn0 := Rat.num_nonneg.2 hw0
  by_cases hz : w.num = 0
  · dsimp only [m118]
    simp (maxSteps := 4000000) -implicitDefEqProofs -dsimp (disch := omega) only [↓AW_ops, ↓AW_seq, ↓AW_cond, ↓AW_ret, ↓AOps_nil, ↓AOps_pu, on_some, condB_t, ↓then_normal, ↓then_ret, ↓Fin_ret, pval, rd_S, rd_C, put_S, resV, resL, chkd, isAdr, bput, bgot, AV.cells?, splice, partA, eq_self, List.replicate_succ, List.replicate_zero, List.set_cons_zero, List.set_cons_succ, List.getElem?_cons_zero, List.getElem?_cons_succ, List.drop_zero, List.drop_succ_cons, List.drop_nil, List.take_zero, List.take_succ_cons, List.take_nil, Option.getD_some, List.length_cons, List.length_nil, Nat.reduceAdd, Nat.reduceSub, Nat.reduceLeDiff, Nat.reduceEqDiff, Nat.zero_add, List.cons_append, List.nil_append, List.append_nil, bin_eql, if_true, if_false, Bool.false_eq_true, decide_true, ne_eq, not_true_eq_false, hz]
    exact gc_same (by simp [plc, hz, oR])
  · have hwp : 0 < w := num_pos_iff w |>.1 (by omega)
    dsimp only [m118]
    simp (maxSteps := 4000000) -implicitDefEqProofs -dsimp (disch := omega) only [↓AW_skip, ↓AW_ops, ↓AW_seq, ↓AW_cond, ↓AW_block, ↓AOps_nil, ↓AOps_pu, on_some, condB_f, ↓then_normal, pval, rd_S, rd_C, put_S, ↓AW_toLoop, chkd, isAdr, bgot, AV.cells?, partA, eq_self, List.replicate_succ, List.replicate_zero, List.set_cons_zero, List.set_cons_succ, List.getElem?_cons_zero, List.getElem?_cons_succ, List.drop_zero, List.take_zero, List.take_succ_cons, Option.getD_some, List.length_cons, List.length_nil, Nat.reduceAdd, Nat.reduceSub, Nat.reduceLeDiff, Nat.zero_add, List.cons_append, List.nil_append, bin_eql, if_true, if_false, Bool.false_eq_true, decide_false, hz, hf.len]
    have hbp := upTo_bounds hg 0 p
    have hpl0 := hp.le
    have hSp := hp.sm hg
    have hpl : plc f p w = rz 0 0 f (upTo 0 f p + w) := by
      unfold plc
      rw [if_neg hz, rch_units _ f 0 0 hg.2 (by have : ((0 : Int) : Rat) = 0 := rfl; grind)]
    rw [hpl]
    have hDx := hDp.add hDw
    have hxp : upTo 0 f p < upTo 0 f p + w := by grind
    have hx1 : upTo 0 f p + w ≤ ((12400 : Int) : Rat) := by
      have : ((12400 : Int) : Rat) = ((2400 : Int) : Rat) + ((10000 : Int) : Rat) := by rw [← Rat.intCast_add]; rfl
      grind
    have hwx : w = upTo 0 f p + w - upTo 0 f p := by grind
    generalize upTo 0 f p + w = x at *
    have hx0 : 0 < x := by grind
    refine LoopK.by 62 (fun y : Nat × Rat => y.1 ≤ f.length ∧ y.2 = x - upTo 0 f (if ((len (f.take y.1) : Int) : Rat) < p then p else ((len (f.take y.1) : Int) : Rat)) ∧ ((tot (f.take y.1) : Int) : Rat) < x ∧ rz 0 0 f x = rz (len (f.take y.1)) (tot (f.take y.1)) (f.drop y.1) x)
      (fun y => [(4, R p), (5, R y.2), (6, .agg [I 0, I 0]), (8, I (len (f.take y.1))), (18, v), (19, I f.length), (20, I y.1)]) (fun _ => A) (fun y => f.length - y.1) (0, w) ⟨by simp, ?_, by simpa [tot, sumZ] using hx0, by simp [len, tot, sumZ]⟩ rfl (by simp [Has, rd_s, len, sumZ]) rfl ?_
    · have h0 : ∀ b : Rat, b = 0 → w = x - upTo 0 f (if b < p then p else b) := by
        rintro b rfl
        by_cases h : 0 < p
        · rw [if_pos h]; exact hwx
        · rw [if_neg h]
          have : p = 0 := by grind
          rw [this] at hwx; exact hwx
      exact h0 _ (by simp [len, sumZ])
    rintro ⟨i, left⟩ ⟨hi, hlf, hax, hrz⟩
    simp only at hi hlf hax hrz
    by_cases hlt : i < f.length
    · obtain ⟨z, hz⟩ : ∃ z, f[i]? = some z := ⟨_, List.getElem?_eq_getElem hlt⟩
      have hlt' : (i : Int) < f.length := by omega
      have hl6 := hg.1
      have hgt := good_take hg i
      have hgt' := good_take hg (i + 1)
      have hvz := all_get hg.2 hz
      have hz' := (vz_iff z).1 hvz
      have hlbt := len_bound hgt
      have hlbt' := len_bound hgt'
      have hlt2 := len_take hz
      have htt := tot_take hz
      have hdr : f.drop i = z :: f.drop (i + 1) := by
        have := (List.getElem?_eq_some_iff.1 hz).2
        rw [← this]; exact List.drop_eq_getElem_cons hlt
      rw [hdr, rz] at hrz
      rw [hlt2] at hlbt'
      have hbe : ((len (f.take i) : Int) : Rat) < ((len (f.take i) + z.1 : Int) : Rat) := Rat.intCast_lt_intCast.2 (by omega)
      have hce := cum_in hg hz (Rat.le_of_lt hbe) Rat.le_refl
      have hcev : upTo 0 f ((len (f.take i) + z.1 : Int) : Rat) = ((tot (f.take i) + z.1 * z.2 : Int) : Rat) := by
        rw [hce]
        simp only [Rat.intCast_add, Rat.intCast_mul]
        grind
      have hSb : Sm ((len (f.take i) : Int) : Rat) := Sm_int (by omega)
      have hSe : Sm ((len (f.take i) + z.1 : Int) : Rat) := Sm_int (by omega)
      have hend : ((len (f.take i) + z.1 : Int) : Rat) ≤ ((120 : Int) : Rat) := Rat.intCast_le_intCast.2 (by omega)
      have hb0 := cast_nonneg hlbt.1
      simp (maxSteps := 4000000) -implicitDefEqProofs -dsimp (disch := omega) only [↓AW_skip, ↓AW_ops, ↓AW_seq, ↓AW_cond, ↓AW_block, ↓AOps_nil, ↓AOps_pu, ↓AOps_ld, ↓AOps_call, on_some, condB_t, ↓then_normal, pval, lval, rd_S, rd_C, put_S, chkd, bput, bgot, AV.cells?, splice, partA, eq_self, mk, List.foldl_cons, List.foldl_nil, List.replicate_succ, List.replicate_zero, List.set_cons_zero, List.set_cons_succ, List.getElem?_cons_zero, List.getElem?_cons_succ, List.drop_zero, List.drop_succ_cons, List.drop_nil, List.take_zero, List.take_succ_cons, List.take_nil, Option.getD_some, map_c, map_n, List.length_cons, List.length_nil, Nat.reduceAdd, Nat.reduceLeDiff, Nat.reduceEqDiff, Nat.zero_add, List.nil_append, List.append_nil, bin_lss, if_true, if_false, decide_true, Go.Eng.e2, ne_eq, not_true_eq_false, hlt', hf.idx hlt, hf.ld0 hz 2 true (by decide)]
      refine CallK.of (s76 _ _) ?_
      simp (maxSteps := 4000000) -implicitDefEqProofs -dsimp (disch := omega) only [↓AOps_call, extK_same, rd_S, put_S, mk, List.foldl_cons, List.foldl_nil, List.replicate_succ, List.replicate_zero, List.set_cons_zero, List.set_cons_succ, List.getElem?_cons_zero, List.getElem?_cons_succ, Option.getD_some, map_c, map_n]
      refine CallK.of (s108 _ _ _ hSp hSb) ?_
      simp (maxSteps := 4000000) -implicitDefEqProofs -dsimp (disch := omega) only [↓AOps_pu, ↓AOps_call, on_some, extK_same, pval, rd_S, put_S, chkd, isAdr, bgot, AV.cells?, partA, eq_self, mk, List.foldl_cons, List.foldl_nil, List.replicate_succ, List.replicate_zero, List.set_cons_zero, List.set_cons_succ, List.getElem?_cons_zero, List.getElem?_cons_succ, List.drop_zero, List.take_zero, List.take_succ_cons, Option.getD_some, map_c, map_n, List.length_cons, List.length_nil, Nat.reduceAdd, Nat.reduceLeDiff, Nat.zero_add, bin_add, w64, if_true, if_false, Bool.false_eq_true]
      refine CallK.of (s76 _ _) ?_
      simp (maxSteps := 4000000) -implicitDefEqProofs -dsimp (disch := omega) only [↓AW_ops, ↓AW_seq, ↓AOps_nil, ↓AOps_pu, ↓AOps_call, on_some, extK_same, ↓then_normal, pval, rd_S, rd_C, put_S, chkd, isAdr, bput, bgot, AV.cells?, splice, partA, eq_self, mk, List.foldl_cons, List.foldl_nil, List.replicate_succ, List.replicate_zero, List.set_cons_zero, List.set_cons_succ, List.getElem?_cons_zero, List.getElem?_cons_succ, List.drop_zero, List.drop_succ_cons, List.drop_nil, List.take_zero, List.take_succ_cons, List.take_nil, Option.getD_some, map_c, map_n, List.length_cons, List.length_nil, Nat.reduceAdd, Nat.reduceLeDiff, Nat.reduceEqDiff, Nat.zero_add, List.nil_append, List.append_nil, bin_add, w64, if_true, if_false, Bool.false_eq_true, ne_eq, not_true_eq_false]
      have hlo : ((len (f.take i) : Int) : Rat) ≤ (if ((len (f.take i) : Int) : Rat) < p then p else ((len (f.take i) : Int) : Rat)) := by split <;> grind
      have hSlo : Sm (if ((len (f.take i) : Int) : Rat) < p then p else ((len (f.take i) : Int) : Rat)) := by split <;> assumption
      have hDlo : Dv p.den (if ((len (f.take i) : Int) : Rat) < p then p else ((len (f.take i) : Int) : Rat)) := by
        split
        · exact Dv_self p
        · exact Dv_int _ _
      have hplo : p ≤ (if ((len (f.take i) : Int) : Rat) < p then p else ((len (f.take i) : Int) : Rat)) := by split <;> grind
      have hor : (if ((len (f.take i) : Int) : Rat) < p then p else ((len (f.take i) : Int) : Rat)) = p ∨ (if ((len (f.take i) : Int) : Rat) < p then p else ((len (f.take i) : Int) : Rat)) = ((len (f.take i) : Int) : Rat) := by split <;> simp
      generalize hlod : (if ((len (f.take i) : Int) : Rat) < p then p else ((len (f.take i) : Int) : Rat)) = lo at *
      refine CallK.of (s65 lo _ _ hSlo hSe) ?_
      by_cases h1 : lo < ((len (f.take i) + z.1 : Int) : Rat)
      · have hn1 : ¬ 0 ≤ (lo - ((len (f.take i) + z.1 : Int) : Rat)).num := by have := (sub_neg_iff lo _).2 h1; omega
        have hclo := cum_in hg hz hlo (Rat.le_of_lt h1)
        have hDclo : Dv D (upTo 0 f lo) := by
          rcases hor with h | h
          · rw [h]; exact hDp
          · rw [hclo, h]
            have : ((len (f.take i) : Int) : Rat) - ((len (f.take i) : Int) : Rat) = 0 := by grind
            rw [this, Rat.zero_mul, Rat.add_zero]
            exact Dv_int _ _
        have hbc := upTo_bounds hg 0 lo
        have hmono := upTo_mono (Rat.le_of_lt h1) f 0 hg.2
        have hbce := upTo_bounds hg 0 ((len (f.take i) + z.1 : Int) : Rat)
        have hall : (((len (f.take i) + z.1 : Int) : Rat) - lo) * (z.2 : Rat) = upTo 0 f ((len (f.take i) + z.1 : Int) : Rat) - upTo 0 f lo := by
          rw [hce, hclo]; grind
        have hDd := (Dv_int p.den (len (f.take i) + z.1)).sub hDlo
        have hd0 : 0 ≤ ((len (f.take i) + z.1 : Int) : Rat) - lo := by grind
        have hd1 : ((len (f.take i) + z.1 : Int) : Rat) - lo ≤ ((120 : Int) : Rat) := by grind
        have hSd : Sm (((len (f.take i) + z.1 : Int) : Rat) - lo) := Sm_of (M := 120) (den_pos p) hp.2 (by omega) hDd (int_neg_le_zero (by omega) hd0) hd1
        have hDall : Dv D ((((len (f.take i) + z.1 : Int) : Rat) - lo) * (z.2 : Rat)) := by
          rw [hall, hcev]; exact (Dv_int _ _).sub hDclo
        have hall0 : 0 ≤ (((len (f.take i) + z.1 : Int) : Rat) - lo) * (z.2 : Rat) := by rw [hall]; grind
        have hall1 : (((len (f.take i) + z.1 : Int) : Rat) - lo) * (z.2 : Rat) ≤ ((2400 : Int) : Rat) := by rw [hall]; grind
        have hSall : Sm ((((len (f.take i) + z.1 : Int) : Rat) - lo) * (z.2 : Rat)) := Sm_of (M := 2400) hD.1 hD.2 (by omega) hDall (int_neg_le_zero (by omega) hall0) hall1
        have hDl : Dv D left := by rw [hlf]; exact hDx.sub hDclo
        have hl0 : 0 < left := by
          rw [hlf]
          rcases hor with h | h
          · rw [h]; grind
          · rw [hclo, h]
            have : ((len (f.take i) : Int) : Rat) - ((len (f.take i) : Int) : Rat) = 0 := by grind
            rw [this, Rat.zero_mul, Rat.add_zero]
            grind
        have hl1 : left ≤ ((12400 : Int) : Rat) := by rw [hlf]; grind
        have hSl : Sm left := Sm_of (M := 12400) hD.1 hD.2 (by omega) hDl (int_neg_le_zero (by omega) (Rat.le_of_lt hl0)) hl1
        simp (maxSteps := 4000000) -implicitDefEqProofs -dsimp (disch := omega) only [↓AW_skip, ↓AW_ops, ↓AW_seq, ↓AW_cond, ↓AOps_nil, ↓AOps_pu, ↓AOps_call, on_some, extK_same, condB_f, ↓then_normal, pval, rd_S, rd_C, put_S, chkd, bgot, partA, eq_self, mk, List.foldl_cons, List.foldl_nil, List.replicate_succ, List.replicate_zero, List.set_cons_zero, List.set_cons_succ, List.getElem?_cons_zero, List.getElem?_cons_succ, List.drop_zero, List.take_succ_cons, List.take_nil, Option.getD_some, map_c, map_n, List.length_cons, List.length_nil, Nat.reduceAdd, Nat.reduceLeDiff, Nat.reduceEqDiff, Nat.zero_add, bin_geq, if_true, if_false, decide_false, hn1]
        refine CallK.of (s95g _ _ _ (hSe.fit hSlo)) ?_
        simp (maxSteps := 4000000) -implicitDefEqProofs -dsimp (disch := omega) only [↓AOps_pu, ↓AOps_call, on_some, extK_same, pval, rd_S, put_S, chkd, isAdr, bgot, AV.cells?, partA, eq_self, mk, List.foldl_cons, List.foldl_nil, List.replicate_succ, List.replicate_zero, List.set_cons_zero, List.set_cons_succ, List.getElem?_cons_zero, List.getElem?_cons_succ, List.drop_zero, List.drop_succ_cons, List.take_succ_cons, List.take_nil, Option.getD_some, map_c, map_n, List.length_cons, List.length_nil, Nat.reduceAdd, Nat.reduceLeDiff, Nat.zero_add, if_true, if_false, Bool.false_eq_true]
        refine CallK.of (s109 _ _ _ hSd (by omega)) ?_
        simp (maxSteps := 4000000) -implicitDefEqProofs -dsimp (disch := omega) only [↓AW_ops, ↓AW_seq, ↓AOps_nil, ↓AOps_pu, ↓AOps_call, on_some, extK_same, ↓then_normal, pval, rd_S, rd_C, put_S, chkd, bput, bgot, AV.cells?, splice, partA, eq_self, mk, List.foldl_cons, List.foldl_nil, List.replicate_succ, List.replicate_zero, List.set_cons_zero, List.set_cons_succ, List.getElem?_cons_zero, List.getElem?_cons_succ, List.drop_zero, List.drop_succ_cons, List.drop_nil, List.take_zero, List.take_succ_cons, List.take_nil, Option.getD_some, map_c, map_n, List.length_cons, List.length_nil, Nat.reduceAdd, Nat.reduceLeDiff, Nat.reduceEqDiff, Nat.zero_add, List.nil_append, List.append_nil, if_true, if_false, ne_eq, not_true_eq_false]
        refine CallK.of (s65 _ _ _ hSall hSl) ?_
        by_cases h2 : (((len (f.take i) + z.1 : Int) : Rat) - lo) * (z.2 : Rat) < left
        · have hn2 : ¬ 0 ≤ ((((len (f.take i) + z.1 : Int) : Rat) - lo) * (z.2 : Rat) - left).num := by have := (sub_neg_iff _ _).2 h2; omega
          simp (maxSteps := 4000000) -implicitDefEqProofs -dsimp (disch := omega) only [↓AW_skip, ↓AW_ops, ↓AW_cond, ↓AOps_nil, ↓AOps_pu, ↓AOps_call, on_some, extK_same, condB_f, ↓then_normal, pval, rd_S, rd_C, put_S, chkd, bgot, partA, eq_self, mk, List.foldl_cons, List.foldl_nil, List.replicate_succ, List.replicate_zero, List.set_cons_zero, List.set_cons_succ, List.getElem?_cons_zero, List.getElem?_cons_succ, List.drop_zero, List.take_succ_cons, List.take_nil, Option.getD_some, map_c, map_n, List.length_cons, List.length_nil, Nat.reduceAdd, Nat.reduceLeDiff, Nat.reduceEqDiff, Nat.zero_add, bin_geq, if_true, if_false, decide_false, hn2]
          refine CallK.of (s95g _ _ _ (hSl.fit hSall)) ?_
          simp (maxSteps := 4000000) -implicitDefEqProofs -dsimp (disch := omega) only [↓AW_ops, ↓AOps_nil, ↓AOps_pu, on_some, extK_same, ↓then_normal, ↓inBlock_normal, pval, rd_S, rd_C, put_S, chkd, bput, AV.cells?, splice, eq_self, mk, List.foldl_cons, List.foldl_nil, List.replicate_succ, List.replicate_zero, List.set_cons_zero, List.set_cons_succ, List.getElem?_cons_zero, List.getElem?_cons_succ, List.drop_succ_cons, List.drop_nil, List.take_zero, Option.getD_some, List.length_cons, List.length_nil, Nat.reduceAdd, Nat.reduceLeDiff, Nat.zero_add, List.nil_append, List.append_nil, bin_add, w64, if_true, if_false, true_and, ne_eq, not_true_eq_false]
          have hnx : ¬ x ≤ ((tot (f.take i) + z.1 * z.2 : Int) : Rat) := by
            rw [← hcev]
            exact Rat.not_le.2 (by rw [hall, hlf] at h2; grind)
          rw [if_neg hnx] at hrz
          refine ⟨(i + 1, left - (((len (f.take i) + z.1 : Int) : Rat) - lo) * (z.2 : Rat)), ⟨hlt, ?_, by rw [htt]; exact Rat.not_le.1 hnx, by rw [hrz, hlt2, htt]⟩, by simp [Has, rd_s, hlt2], by simp only; omega⟩
          simp only
          rw [hlt2, if_neg (Rat.not_lt.2 (by grind)), hall, hlf]
          grind
        · have hn2 : 0 ≤ ((((len (f.take i) + z.1 : Int) : Rat) - lo) * (z.2 : Rat) - left).num := by
            have : ¬ ((((len (f.take i) + z.1 : Int) : Rat) - lo) * (z.2 : Rat) - left).num < 0 := fun h => h2 ((sub_neg_iff _ _).1 h)
            omega
          have hxle : x ≤ ((tot (f.take i) + z.1 * z.2 : Int) : Rat) := by
            rw [← hcev]
            have h3 := Rat.not_lt.1 h2
            rw [hall, hlf] at h3; grind
          rw [if_pos hxle] at hrz
          have hvp : 1 ≤ z.2 := by
            by_cases h0 : z.2 = 0
            · rw [h0] at h2
              exact absurd (show (((len (f.take i) + z.1 : Int) : Rat) - lo) * ((0 : Int) : Rat) < left by rw [int0, Rat.mul_zero]; exact hl0) h2
            · omega
          have hle20 : left ≤ ((20 * z.2 : Int) : Rat) := by
            have h3 := Rat.not_lt.1 h2
            have h4 : ((len (f.take i) + z.1 : Int) : Rat) - lo ≤ ((20 : Int) : Rat) := by
              have : ((z.1 : Int) : Rat) ≤ ((20 : Int) : Rat) := Rat.intCast_le_intCast.2 hz'.1.2
              rw [Rat.intCast_add]; grind
            have h5 := Rat.mul_le_mul_of_nonneg_right h4 (cast_nonneg hz'.2.1)
            rw [Rat.intCast_mul]
            exact Rat.le_trans h3 h5
          have hdn := div_num hD.1 hD.2 ⟨hvp, hz'.2.2⟩ hDl (Rat.le_of_lt hl0) hle20
          simp (maxSteps := 4000000) -implicitDefEqProofs -dsimp (disch := omega) only [↓AW_ops, ↓AW_seq, ↓AW_cond, ↓AOps_nil, ↓AOps_pu, ↓AOps_call, on_some, extK_same, condB_t, ↓then_normal, pval, rd_S, rd_C, put_S, chkd, isAdr, bgot, AV.cells?, partA, eq_self, mk, List.foldl_cons, List.foldl_nil, List.replicate_succ, List.replicate_zero, List.set_cons_zero, List.set_cons_succ, List.getElem?_cons_zero, List.getElem?_cons_succ, List.drop_zero, List.drop_succ_cons, List.take_succ_cons, List.take_nil, Option.getD_some, map_c, map_n, List.length_cons, List.length_nil, Nat.reduceAdd, Nat.reduceLeDiff, Nat.reduceEqDiff, Nat.zero_add, bin_geq, if_true, if_false, Bool.false_eq_true, decide_true, hn2]
          refine CallK.of (s110 _ z.2 _ hSl ⟨by omega, by omega⟩) ?_
          simp (maxSteps := 4000000) -implicitDefEqProofs -dsimp (disch := omega) only [↓AOps_call, extK_same, rd_S, put_S, mk, List.foldl_cons, List.foldl_nil, List.replicate_succ, List.replicate_zero, List.set_cons_zero, List.set_cons_succ, List.getElem?_cons_zero, List.getElem?_cons_succ, Option.getD_some, map_c, map_n]
          have hlon : lo.num.natAbs ≤ 120 * 1048576 ∧ lo.den ≤ 1048576 := by
            have := num_le (M := 120) (den_pos p) hDlo (int_neg_le_zero (by omega) (by grind)) (by grind)
            have := hp.2
            omega
          refine CallK.of (s75g _ _ _ (Fit_of (120 * 1048576) (20 * 1048576 * 20) 1048576 (1048576 * 20) hlon.1 hlon.2 hdn.1 hdn.2 (by decide) (by decide))) ?_
          simp (maxSteps := 4000000) -implicitDefEqProofs -dsimp (disch := omega) only [↓AW_ret, ↓AOps_nil, ↓AOps_pu, on_some, extK_same, ↓then_normal, ↓then_ret, ↓inBlock_ret, ↓Fin_ret, pval, rd_S, rd_C, put_S, resV, resL, chkd, bput, bgot, AV.cells?, splice, partA, eq_self, mk, List.foldl_cons, List.foldl_nil, List.replicate_succ, List.replicate_zero, List.set_cons_zero, List.set_cons_succ, List.getElem?_cons_zero, List.getElem?_cons_succ, List.drop_zero, List.drop_succ_cons, List.drop_nil, List.take_zero, List.take_succ_cons, List.take_nil, Option.getD_some, List.length_cons, List.length_nil, Nat.reduceAdd, Nat.reduceLeDiff, Nat.reduceEqDiff, Nat.zero_add, List.nil_append, List.append_nil, if_true, if_false, ne_eq, not_true_eq_false]
          refine gc_same ?_
          have heq : ((len (f.take i) : Int) : Rat) + (x - ((tot (f.take i) : Int) : Rat)) / (z.2 : Rat) = lo + left / (z.2 : Rat) := by
            have hne := cast_ne (show z.2 ≠ 0 by omega)
            rw [hlf, hclo]
            generalize (z.2 : Rat) = vv at *
            generalize ((len (f.take i) : Int) : Rat) = bb at *
            generalize ((tot (f.take i) : Int) : Rat) = aa at *
            grind
          rw [hrz, heq]
          rfl
      · have hn1 : 0 ≤ (lo - ((len (f.take i) + z.1 : Int) : Rat)).num := by
          have : ¬ (lo - ((len (f.take i) + z.1 : Int) : Rat)).num < 0 := fun h => h1 ((sub_neg_iff _ _).1 h)
          omega
        have h1' := Rat.not_lt.1 h1
        have hlop : lo = p := by
          rcases hor with h | h
          · exact h
          · rw [h] at h1'; exact absurd hbe (Rat.not_lt.2 h1')
        subst hlop
        simp (maxSteps := 4000000) -implicitDefEqProofs -dsimp (disch := omega) only [↓AW_ops, ↓AW_seq, ↓AW_cond, ↓AW_exit, ↓AW_ret, ↓AOps_nil, ↓AOps_pu, on_some, extK_same, condB_t, ↓then_normal, ↓then_exit, ↓inBlock_exit, ↓Fin_ret, pval, rd_S, rd_C, put_S, resV, resL, chkd, bput, bgot, AV.cells?, splice, partA, fillA, eq_self, mk, List.foldl_cons, List.foldl_nil, List.replicate_succ, List.replicate_zero, List.set_cons_zero, List.set_cons_succ, List.getElem?_cons_zero, List.getElem?_cons_succ, List.drop_zero, List.drop_succ_cons, List.drop_nil, List.take_zero, List.take_succ_cons, List.take_nil, Option.getD_some, Option.map_some, map_n, List.length_cons, List.length_nil, Nat.reduceAdd, Nat.reduceLeDiff, Nat.reduceEqDiff, Nat.zero_add, List.nil_append, List.append_nil, bin_add, bin_geq, w64, if_true, if_false, decide_true, true_and, reduceCtorEq, ne_eq, not_true_eq_false, hn1]
        have hnx : ¬ x ≤ ((tot (f.take i) + z.1 * z.2 : Int) : Rat) := by
          rw [← hcev]
          have := upTo_mono h1' f 0 hg.2
          exact Rat.not_le.2 (by grind)
        rw [if_neg hnx] at hrz
        refine ⟨(i + 1, left), ⟨hlt, ?_, by rw [htt]; exact Rat.not_le.1 hnx, by rw [hrz, hlt2, htt]⟩, by simp [Has, rd_s, hlt2], by simp only; omega⟩
        simp only
        rw [hlt2, hlf]
        congr 2
        split <;> grind
    · have hlt' : ¬ ((i : Int) < f.length) := by omega
      rw [List.drop_of_length_le (by omega)] at hrz
      simp (maxSteps := 4000000) -implicitDefEqProofs -dsimp (disch := omega) only [↓AW_ops, ↓AW_seq, ↓AW_cond, ↓AW_exit, ↓AW_ret, ↓AOps_nil, ↓AOps_pu, on_some, condB_f, ↓then_normal, ↓then_exit, ↓inBlock_exit, ↓Fin_ret, pval, rd_S, rd_C, put_S, resV, resL, chkd, bput, bgot, AV.cells?, splice, partA, fillA, eq_self, mk, List.foldl_cons, List.foldl_nil, List.replicate_succ, List.replicate_zero, List.set_cons_zero, List.set_cons_succ, List.getElem?_cons_zero, List.getElem?_cons_succ, List.drop_zero, List.drop_succ_cons, List.drop_nil, List.take_zero, List.take_succ_cons, List.take_nil, Option.getD_some, Option.map_some, map_n, List.length_cons, List.length_nil, Nat.reduceAdd, Nat.reduceLeDiff, Nat.reduceEqDiff, Nat.zero_add, List.nil_append, List.append_nil, bin_lss, if_true, if_false, decide_false, ne_eq, not_true_eq_false, hlt']
      exact gc_same (by rw [hrz]; rfl)
/-- A call that looks at nothing in the heap, with two results. -/
theorem ACalls_lift2 {P : Program} {f : FuncId} {args : List AV} {a b : AV} {H' : AHeap} (h : ACalls P f args [] (.tuple [a, b]) H') (ha : ∀ x ∈ args, flat x = true) (h1 : flat a = true) (h2 : flat b = true) (H : AHeap) : ACalls P f args H (.tuple [a, b]) H := by
  refine ⟨h.1, fun ρ w cargs hs hargs => ?_⟩
  have s0 : Sim (fun _ => none) [] w := ⟨fun _ _ e => (by cases e), fun _ _ _ e => (by cases e), fun _ _ _ _ e => (by cases e)⟩
  have fl : ∀ {ρ ρ' : Ren} {x : AV} {u : Value}, flat x = true → VR ρ x u → VR ρ' x u := by
    intro ρ ρ' x u hx hr
    cases hr <;> simp [flat] at hx <;> constructor
  have a0 : LR (fun _ => none) args cargs.toList := ⟨hargs.1, fun i x u hx hu => fl (ha x (List.mem_of_getElem? hx)) (hargs.2 i x u hx hu)⟩
  refine (h.2 _ w cargs s0 a0).mono ?_
  rintro e w' ⟨ρ', cv, rfl, hv, _, h3⟩
  have hk : ∀ b, b < w.heap.size → w'.heap[b]? = w.heap[b]? := fun b hb => h3.keep b hb (fun ⟨n, L, e, _⟩ => (by cases e))
  have hv' : VR ρ (.tuple [a, b]) cv := by
    cases hv with
    | tuple _ vs hl hh =>
      refine .tuple _ _ hl (fun i x u hx hu => ?_)
      match i with
      | 0 => simp at hx; subst hx; exact fl h1 (hh 0 _ u rfl hu)
      | 1 => simp at hx; subst hx; exact fl h2 (hh 1 _ u rfl hu)
      | i + 2 => simp at hx
  refine ⟨ρ, cv, rfl, hv', hs.world h3.size (fun n L e => hk _ (hs.dom n L e).2), ⟨fun _ _ => rfl, Nat.le_refl _, h3.os, h3.tape, h3.out, h3.size, fun b hb _ => hk b hb, fun _ h => .inr h, fun n L e => .inl (hs.dom n L e).1⟩⟩
def mulOk (n : Nat) : Bool := match runF tab2 300 6 119 [.int .u64 1, .int .u64 (n : Int)] [] with
  | some (.tuple [.int .u64 a, .int .u64 b], _) => decide (a = 0) && decide (b = (n : Int))
  | _ => false
set_option maxRecDepth 100000 in
theorem mul_run : ((List.range 65).all mulOk) = true := by kernel_rfl
theorem s119 (n : Nat) (hn : n ≤ 64) (A : AHeap) : ACalls Try.prog 119 [.int .u64 1, .int .u64 (n : Int)] A (.tuple [.int .u64 0, .int .u64 (n : Int)]) A := by
  have h := List.all_eq_true.1 mul_run n (List.mem_range.2 (by omega))
  unfold mulOk at h
  split at h
  · rename_i a b H hr
    simp only [Bool.and_eq_true, decide_eq_true_eq] at h
    obtain ⟨rfl, rfl⟩ := h
    exact ACalls_lift2 (runF_ok hmix tabOK2 300 6 119 _ [] _ _ hr) (by simp [flat]) rfl rfl A
  · cases h
theorem u64w (n : Int) (h0 : 0 ≤ n) (h1 : n < 9223372036854775808) : IntKind.u64.wrap n = n := by
  have e : IntKind.u64.wrap n = n % 18446744073709551616 := by simp [IntKind.wrap, IntKind.bits, IntKind.signed]
  rw [e]; omega
theorem OL_gcS {α : Type} {es : Nat} {e : α → List AV} {A H : AHeap} {n : Nat} {v : AV} {xs : List α} (h : OL es e A H n v xs) (hf : ∀ x, ∀ y ∈ e x, flat y = true) : GC A v H (.sl es A.length 0 xs.length false) (A ++ [.cells true (xs.flatMap e)]) := by
  obtain ⟨he, h1, h2, h3, full, rfl⟩ := h
  have hfl : ∀ y ∈ xs.flatMap e, flat y = true := fun y hy => by
    obtain ⟨x, _, hx⟩ := List.mem_flatMap.1 hy
    exact hf x y hx
  refine gc_weak (fun ρ c => VR.unfull) ?_
  have hk := Keep.add (keep_old h1) (n := n) (o := .cells true (xs.flatMap e)) h2 (by simp; omega) h3
  simp only [renO, ren_flats _ 3 _ hfl] at hk
  exact gc_keep hk (by simp [ren])
theorem rep_step {α : Type} (r z : α) {n m : Nat} (hm : m ≤ n) :
    (List.replicate m r ++ List.replicate (n - m) z).take m ++ ((List.replicate m r ++ List.replicate (n - m) z).take m).take (min m (n - m)) ++ (List.replicate m r ++ List.replicate (n - m) z).drop (m + min m (n - m)) = List.replicate (m + min m (n - m)) r ++ List.replicate (n - (m + min m (n - m))) z := by
  have h1 : (List.replicate m r ++ List.replicate (n - m) z).take m = List.replicate m r := by
    rw [List.take_append_of_le_length (by simp), List.take_of_length_le (by simp)]
  rw [h1, List.take_replicate, List.drop_append]
  simp only [List.length_replicate, List.drop_replicate]
  rw [show min (min m (n - m)) m = min m (n - m) by omega, show m - (m + min m (n - m)) = 0 by omega, show m + min m (n - m) - m = min m (n - m) by omega, show n - m - min m (n - m) = n - (m + min m (n - m)) by omega]
  rw [List.replicate_zero, List.nil_append, List.replicate_append_replicate]
theorem repl_pair (n : Nat) : repl [AV.int .i64 0, AV.int .i64 0] n = (List.replicate n ((0 : Int), (0 : Int))).flatMap Go.Eng.e2 := by
  induction n with
  | zero => rfl
  | succ n ih => rw [repl, ih, List.replicate_succ, List.flatMap_cons]; rfl
theorem s99 {r : Int × Int} {y : AV} {A : AHeap} (hy : L2 A y [r]) (n : Nat) (hn : n ≤ 64) : ACalls Try.prog 99 [y, I n] A (.sl 2 A.length 0 n false) (A ++ [.cells true ((List.replicate n r).flatMap e2)]) := by
  refine acalls hmix Try.func99 (by kernel_rfl) t99 2 rfl (by decide) ?_
  have h0 : ¬ (n : Int) < 0 := by omega
  have hu1 : IntKind.u64.wrap ((1 : Nat) : Int) = 1 := by decide
  have hun := u64w (n : Int) (by omega) (by omega)
  have hbig : ¬ (9223372036854775807 : Int) < n := by omega
  have hn0 : (0 : Int) ≤ n := by omega
  have hnl : (n : Int) ≤ (lim : Int) := by simp [lim]; omega
  dsimp only [m99]
  simp (maxSteps := 4000000) -implicitDefEqProofs -dsimp (disch := omega) only [↓AW_skip, ↓AW_ops, ↓AW_seq, ↓AW_cond, ↓AOps_nil, ↓AOps_pu, ↓AOps_call, on_some, condB_f, ↓then_normal, pval, rd_S, rd_C, put_S, List.replicate_succ, List.replicate_zero, List.set_cons_zero, List.set_cons_succ, List.getElem?_cons_zero, List.getElem?_cons_succ, Option.getD_some, map_c, map_n, List.length_cons, List.length_nil, Nat.reduceSub, Nat.zero_add, List.cons_append, List.nil_append, bin_lss, decide_false, h0, hy.len, hu1, hun]
  refine CallK.of (s119 n hn A) ?_
  simp (maxSteps := 4000000) -implicitDefEqProofs -dsimp (disch := omega) only [↓AW_skip, ↓AW_ops, ↓AW_seq, ↓AW_cond, ↓AOps_nil, ↓AOps_pu, ↓AOps_ha, ↓AOps_guard, on_some, extK_app, extK_same, guardB_ff, condB_f, ↓then_normal, pval, hval_mks, hval_cpy, rd_S, rd_C, put_S, beq_self_eq_true, List.replicate_succ, List.replicate_zero, List.set_cons_zero, List.set_cons_succ, List.getElem?_cons_zero, List.getElem?_cons_succ, Option.getD_some, Nat.reduceSub, List.cons_append, List.nil_append, bin_gtr, w64, if_true, if_false, Bool.false_eq_true, decide_false, and_true, Int.reduceLT, hbig, hn0, hnl, Int.le_refl, Int.toNat_natCast]
  rw [repl_pair]
  have hmk := OL.new_mk e2_len A (List.replicate n ((0 : Int), (0 : Int))) true
  rw [List.length_replicate] at hmk
  have hc := OL_cpy hmk (hy.mono (pre_app A [.cells true ((List.replicate n ((0 : Int), (0 : Int))).flatMap Go.Eng.e2)])) 0 (by omega) true
  rw [Nat.zero_mul, Nat.sub_zero, List.length_replicate] at hc
  have hx0 : (List.replicate n ((0 : Int), (0 : Int))).take 0 ++ [r].take (min 1 n) ++ (List.replicate n ((0 : Int), (0 : Int))).drop (0 + min 1 n) = List.replicate (min 1 n) r ++ List.replicate (n - min 1 n) ((0 : Int), (0 : Int)) := by
    cases n with
    | zero => rfl
    | succ n => simp [List.replicate_succ]
  have hOL := OL_setAll hmk (List.replicate (min 1 n) r ++ List.replicate (n - min 1 n) ((0 : Int), (0 : Int))) (by simp; omega)
  rw [show [r].length = 1 from rfl, hx0] at hc
  generalize hvv : AV.sl 2 A.length 0 n true = vv at *
  simp (maxSteps := 4000000) -implicitDefEqProofs -dsimp (disch := omega) only [↓AW_seq, ↓AW_block, ↓AOps_nil, ↓AOps_pu, on_some, extK_false, ↓then_normal, pval, rd_S, put_S, ↓AW_toLoop, List.replicate_succ, List.replicate_zero, List.set_cons_zero, List.set_cons_succ, List.getElem?_cons_zero, List.getElem?_cons_succ, Option.getD_some, Nat.reduceSub, List.cons_append, List.nil_append, hc]
  refine LoopK.by 48 (fun x : Nat × AHeap => x.1 ≤ n ∧ (1 ≤ x.1 ∨ n = 0) ∧ OL 2 e2 A x.2 A.length vv (List.replicate x.1 r ++ List.replicate (n - x.1) ((0 : Int), (0 : Int)))) (fun x => [(7, vv), (8, I x.1)]) (fun x => x.2) (fun x => n - x.1) (min 1 n, _) ⟨by simp only; omega, by simp only; omega, hOL⟩ rfl (by simp [Has, rd_s]) rfl ?_
  rintro ⟨m, A1⟩ ⟨hm, hm1, ho⟩
  simp only at hm hm1 ho
  have hlen : lenA vv = some (I n) := by rw [← hvv]; rfl
  by_cases hlt : m < n
  · have hlt' : (m : Int) < n := by omega
    have hs1 : slcA 2 vv (some (I m)) none none = some (.sl 2 A.length (m * 2) (n - m) true) := by
      rw [← hvv]
      simp [slcA, bnd] <;> omega
    obtain ⟨v', hv', hL⟩ := Ls_takeS ho.ls m (by simp <;> omega)
    have hc2 := OL_cpy ho hL m (by simp <;> omega) true
    have hll : (List.replicate m r ++ List.replicate (n - m) ((0 : Int), (0 : Int))).length = n := by simp; omega
    have hlt2 : ((List.replicate m r ++ List.replicate (n - m) ((0 : Int), (0 : Int))).take m).length = m := by rw [List.length_take, hll]; omega
    rw [hll, hlt2, rep_step r _ hm] at hc2
    have hOL2 := OL_setAll ho (List.replicate (m + min m (n - m)) r ++ List.replicate (n - (m + min m (n - m))) ((0 : Int), (0 : Int))) (by simp; omega)
    simp (maxSteps := 4000000) -implicitDefEqProofs -dsimp (disch := omega) only [↓AW_skip, ↓AW_ops, ↓AW_seq, ↓AW_cond, ↓AW_block, ↓AOps_nil, ↓AOps_pu, ↓AOps_ha, on_some, extK_false, condB_t, ↓then_normal, ↓inBlock_normal, pval, hval_cpy, rd_S, put_S, eq_self, mk, List.foldl_cons, List.foldl_nil, List.replicate_succ, List.replicate_zero, List.set_cons_zero, List.set_cons_succ, List.getElem?_cons_zero, List.getElem?_cons_succ, Option.getD_some, Option.map_some, Option.map_none, List.length_cons, List.length_nil, Nat.reduceAdd, Nat.zero_add, bin_add, bin_lss, w64, decide_true, true_and, hlt', hlen, hs1, hv', hc2]
    refine ⟨(m + min m (n - m), _), ⟨by simp only; omega, by simp only; omega, hOL2⟩, by simp [Has, rd_s], rfl, by simp only; omega⟩
  · have hmn : m = n := by omega
    subst hmn
    rw [Nat.sub_self, List.replicate_zero, List.append_nil] at ho
    simp (maxSteps := 4000000) -implicitDefEqProofs -dsimp (disch := omega) only [↓AW_ops, ↓AW_seq, ↓AW_cond, ↓AW_exit, ↓AW_ret, ↓AOps_nil, ↓AOps_pu, on_some, condB_f, ↓then_normal, ↓then_exit, ↓inBlock_exit, ↓Fin_ret, pval, rd_S, put_S, resV, resL, eq_self, mk, List.foldl_cons, List.foldl_nil, List.replicate_succ, List.replicate_zero, List.set_cons_zero, List.set_cons_succ, List.getElem?_cons_zero, List.getElem?_cons_succ, Option.getD_some, bin_lss, if_true, decide_false, hlen, Int.lt_irrefl]
    have := OL_gcS ho flat_e2
    rwa [List.length_replicate] at this
abbrev pR (q : Rat) : Int × Int := (q.num, (q.den : Int))
theorem upTo_0 {f : List (Int × Int)} (hg : good f) : upTo 0 f 0 = 0 := upTo_none 0 f 0 (all_pos hg.2) Rat.le_refl
theorem rch_ok (x : Rat) : ∀ (us : List Int) (b a : Int), (a : Rat) < x → x ≤ ((a + us.sum : Int) : Rat) → ∃ y, rch b a us x = some y
  | [], b, a, h1, h2 => by
    simp at h2
    exact absurd h1 (Rat.not_lt.2 h2)
  | u :: us, b, a, h1, h2 => by
    rw [rch]
    by_cases h : x ≤ ((a + u : Int) : Rat)
    · exact ⟨_, if_pos h⟩
    · rw [if_neg h]
      exact rch_ok x us _ _ (Rat.not_le.1 h) (by rw [show a + u + us.sum = a + (u :: us).sum by simp only [List.sum_cons]; omega]; exact h2)
theorem plc_ok {f : List (Int × Int)} (hg : good f) {p w : Rat} (hw0 : 0 ≤ w) (h : upTo 0 f p + w ≤ ((tot f : Int) : Rat)) : ∃ y, plc f p w = some y := by
  unfold plc
  split
  · exact ⟨_, rfl⟩
  · rename_i h0
    have hwp : 0 < w := by
      have := Rat.num_nonneg.2 hw0
      exact num_pos_iff w |>.1 (by omega)
    have hbp := upTo_bounds hg 0 p
    refine rch_ok _ _ 0 0 (by have : ((0 : Int) : Rat) = 0 := rfl; grind) ?_
    rw [sum_units hg.2, Int.zero_add]
    exact h
theorem plc_denS {f : List (Int × Int)} (hg : good f) {p w x : Rat} (D : Int) (hD : 0 < D) (hp : 0 ≤ p ∧ p ≤ ((len f : Int) : Rat)) (hpd : (p.den : Int) ≤ D * 20) (hDx : Dv D (upTo 0 f p + w)) (hw0 : 0 ≤ w) (h : plc f p w = some x) : (x.den : Int) ≤ D * 20 := by
  obtain ⟨g1, g2, g3⟩ := plc_worth hg hp.1 hp.2 hw0 h
  unfold plc at h
  split at h
  · have : p = x := Option.some.inj h
    subst this; exact hpd
  · rename_i h0
    have hwp : 0 < w := by
      have := Rat.num_nonneg.2 hw0
      exact num_pos_iff w |>.1 (by omega)
    have hbp := upTo_bounds hg 0 p
    have hlb := len_bound hg
    obtain ⟨⟨v, hv, b', a', hx⟩, _, _⟩ := rch_some _ (units f) 0 0 x (units_le hg.2) (by have : ((0 : Int) : Rat) = 0 := rfl; grind) h
    have h1 : Dv (D * v) x := by
      rw [hx]
      exact (Dv_int _ _).add ((hDx.sub (Dv_int D a')).div v (by omega))
    have h2 := num_le (M := 120) (Int.mul_pos hD (by omega)) h1 (int_neg_le_zero (by omega) (Rat.le_trans hp.1 g1)) (Rat.le_trans g2 (Rat.intCast_le_intCast.2 hlb.2))
    have h3 : D * v ≤ D * 20 := Int.mul_le_mul_of_nonneg_left hv.2 (by omega)
    omega
theorem s98 {f : List (Int × Int)} {v y : AV} {ws : List Rat} {A : AHeap} (hf : L2 A v f) (hg : good f) (hy : L2 A y (ws.map pR)) (hl : ws.length ≤ 100) (D : Int) (hD : 0 < D ∧ D ≤ 1048576) (ats : Nat → Rat) (h0 : ats 0 = 0)
    (hs : ∀ k w, ws[k]? = some w → Pl f (ats k) ∧ Dv D (upTo 0 f (ats k)) ∧ Dv D w ∧ 0 ≤ w ∧ w ≤ ((10000 : Int) : Rat) ∧ plc f (ats k) w = some (ats (k + 1))) :
    ACalls Try.prog 98 [v, y] A (outV 2 A ws.length) (outH A (((List.range ws.length).map (fun k => pR (ats (k + 1)))).flatMap e2) ws.length) := by
  refine acalls hmix Try.func98 (by kernel_rfl) t98 2 rfl (by decide) ?_
  dsimp only [m98]
  simp (maxSteps := 4000000) -implicitDefEqProofs -dsimp (disch := omega) only [↓AW_ops, ↓AW_seq, ↓AOps_nil, ↓AOps_pu, ↓AOps_call, on_some, ↓then_normal, pval, rd_C, put_S, List.replicate_succ, List.replicate_zero, List.set_cons_zero, List.set_cons_succ, map_c, map_n, Nat.reduceSub, List.cons_append, List.nil_append]
  refine CallK.of (s76 0 _) ?_
  simp (maxSteps := 4000000) -implicitDefEqProofs -dsimp (disch := omega) only [↓AW_ops, ↓AW_seq, ↓AW_block, ↓AOps_nil, ↓AOps_pu, on_some, extK_same, ↓then_normal, pval, rd_S, rd_C, put_S, ↓AW_toLoop, chkd, bput, AV.cells?, splice, eq_self, List.replicate_succ, List.replicate_zero, List.set_cons_zero, List.set_cons_succ, List.getElem?_cons_zero, List.getElem?_cons_succ, List.drop_succ_cons, List.drop_nil, List.take_zero, Option.getD_some, List.length_cons, List.length_nil, Nat.reduceAdd, Nat.reduceSub, Nat.reduceLeDiff, Nat.zero_add, List.cons_append, List.nil_append, List.append_nil, if_true, if_false, ne_eq, not_true_eq_false, hy.len, List.length_map]
  refine LoopK.by 29 (fun x : Nat × AV × AHeap => x.1 ≤ ws.length ∧ AccL 2 e2 A x.2.2 x.2.1 ((List.range x.1).map (fun k => pR (ats (k + 1))))) (fun x => [(0, v), (5, x.2.1), (6, R (ats x.1)), (10, y), (11, I ws.length), (12, I x.1)]) (fun x => x.2.2) (fun x => ws.length - x.1) (0, .nilS, A) ⟨by simp only; omega, AccL.nil (List.prefix_refl _)⟩ rfl (by simp only [h0]; simp [Has, rd_s]) rfl ?_
  rintro ⟨i, u, A1⟩ ⟨hi, hu⟩
  simp only at hi hu
  by_cases hlt : i < ws.length
  · obtain ⟨w, hz⟩ : ∃ z, ws[i]? = some z := ⟨_, List.getElem?_eq_getElem hlt⟩
    have hlt' : (i : Int) < ws.length := by omega
    have hlm : i < (ws.map pR).length := by simpa using hlt
    have hzm : (ws.map pR)[i]? = some (pR w) := by rw [List.getElem?_map, hz]; rfl
    obtain ⟨g1, g2, g3, g4, g5, g6⟩ := hs i w hz
    have hy1 := hy.mono hu.pre
    simp (maxSteps := 4000000) -implicitDefEqProofs -dsimp (disch := omega) only [↓AW_skip, ↓AW_ops, ↓AW_seq, ↓AW_cond, ↓AW_block, ↓AOps_nil, ↓AOps_pu, ↓AOps_ld, ↓AOps_call, on_some, condB_t, ↓then_normal, pval, lval, rd_S, rd_C, put_S, chkd, bput, bgot, AV.cells?, splice, partA, eq_self, mk, List.foldl_cons, List.foldl_nil, List.replicate_succ, List.replicate_zero, List.set_cons_zero, List.set_cons_succ, List.getElem?_cons_zero, List.getElem?_cons_succ, List.drop_zero, List.drop_succ_cons, List.drop_nil, List.take_zero, List.take_succ_cons, List.take_nil, Option.getD_some, map_c, map_n, List.length_cons, List.length_nil, Nat.reduceAdd, Nat.reduceLeDiff, Nat.reduceEqDiff, Nat.zero_add, List.nil_append, List.append_nil, bin_lss, if_true, if_false, decide_true, Go.Eng.e2, ne_eq, not_true_eq_false, hlt', hy1.idx hlm, hy1.ld0 hzm 2 true (by decide)]
    refine CallK.of (s118 (hf.mono hu.pre) hg (ats i) w g1 D hD g2 g3 g4 g5) ?_
    rw [g6]
    obtain ⟨v3, A3, happ, h3⟩ := hu.push e2_len (pR (ats (i + 1))) (by simp [lim]; omega)
    simp only [Go.Eng.e2] at happ
    simp (maxSteps := 4000000) -implicitDefEqProofs -dsimp (disch := omega) only [↓AW_ops, ↓AOps_nil, ↓AOps_pu, ↓AOps_ha, on_some, extK_false, extK_app, extK_same, ↓then_normal, ↓inBlock_normal, pval, hval, rd_S, rd_C, put_S, chkd, bput, bgot, AV.cells?, splice, partA, fillA, repl, eq_self, mk, List.foldl_cons, List.foldl_nil, List.replicate_succ, List.replicate_zero, List.set_cons_zero, List.set_cons_succ, List.getElem?_cons_zero, List.getElem?_cons_succ, List.drop_zero, List.drop_succ_cons, List.drop_nil, List.take_zero, List.take_succ_cons, List.take_nil, Option.getD_some, map_c, map_n, List.length_cons, List.length_nil, Nat.reduceAdd, Nat.reduceLeDiff, Nat.reduceEqDiff, Nat.zero_add, List.nil_append, List.append_nil, bin_add, w64, if_true, if_false, true_and, and_true, ne_eq, not_true_eq_false, oR, Option.isSome_some, happ]
    refine ⟨(i + 1, v3, A3), ⟨hlt, ?_⟩, by simp [Has, rd_s], rfl, by simp only; omega⟩
    simp only
    rw [List.range_succ, List.map_append]
    exact h3
  · have hlt' : ¬ ((i : Int) < ws.length) := by omega
    have hii : i = ws.length := by omega
    subst hii
    simp (maxSteps := 4000000) -implicitDefEqProofs -dsimp (disch := omega) only [↓AW_ops, ↓AW_seq, ↓AW_cond, ↓AW_exit, ↓AW_ret, ↓AOps_nil, ↓AOps_pu, on_some, condB_f, ↓then_normal, ↓then_exit, ↓inBlock_exit, ↓Fin_ret, pval, rd_S, put_S, resV, resL, eq_self, mk, List.foldl_cons, List.foldl_nil, List.replicate_succ, List.replicate_zero, List.set_cons_zero, List.set_cons_succ, List.getElem?_cons_zero, List.getElem?_cons_succ, Option.getD_some, bin_lss, if_true, decide_false, hlt']
    have := hu.gc flat_e2
    simpa using this
theorem AccL_out {α : Type} {es : Nat} {e : α → List AV} {A H : AHeap} (hp : A <+: H) (he : ∀ x, (e x).length = es) (xs : List α) : AccL es e A (outH H (xs.flatMap e) xs.length) (outV es H xs.length) xs := by
  refine ⟨hp.trans (pre_out _ _ _), flatMap_length he xs, ?_⟩
  unfold outV outH
  by_cases h : xs.length = 0
  · rw [if_pos h, if_pos h]; exact .inl ⟨h, rfl⟩
  · rw [if_neg h, if_neg h]
    exact .inr ⟨by omega, H.length, rfl, hp.length_le, by simp⟩
def eqW (f : List (Int × Int)) (n : Nat) (k : Nat) : Rat := (((k : Int) * tot f : Int) : Rat) / ((n : Int) : Rat)
def eqA (f : List (Int × Int)) (n : Nat) (k : Nat) : Rat := (plc f 0 (eqW f n k)).getD 0
theorem eqW_le {f : List (Int × Int)} (hg : good f) {n k : Nat} (hn : 0 < n) (hk : k ≤ n) : 0 ≤ eqW f n k ∧ eqW f n k ≤ ((tot f : Int) : Rat) := by
  have ht := tot_bound hg
  have hn' := cast_pos (show (0 : Int) < n by omega)
  have h1 : eqW f n k * ((n : Int) : Rat) = (((k : Int) * tot f : Int) : Rat) := Rat.div_mul_cancel (cast_ne (by omega))
  have h2 : 0 ≤ (k : Int) * tot f := Int.mul_nonneg (by omega) ht.1
  have h3 : (k : Int) * tot f ≤ n * tot f := Int.mul_le_mul_of_nonneg_right (by omega) ht.1
  refine ⟨?_, ?_⟩
  · unfold eqW; rw [Rat.div_def]; exact Rat.mul_nonneg (cast_nonneg h2) (Rat.le_of_lt (Rat.inv_pos.2 hn'))
  · have := qr_le (s := ((k : Int) * tot f, (n : Int))) (n := tot f) (by simp only; omega)
    exact this.2 (by simp only; rw [Int.mul_comm (tot f)]; exact h3)
theorem eqA_facts {f : List (Int × Int)} (hg : good f) {n k : Nat} (hn : 0 < n ∧ n ≤ 8) (hk : k ≤ n) :
    plc f 0 (eqW f n k) = some (eqA f n k) ∧ (0 ≤ eqA f n k ∧ eqA f n k ≤ ((len f : Int) : Rat)) ∧ upTo 0 f (eqA f n k) = eqW f n k ∧ (eqA f n k).den ≤ 160 := by
  have hw := eqW_le hg hn.1 hk
  have hlb := len_bound hg
  have h0 := upTo_0 hg
  obtain ⟨y, hy⟩ := plc_ok (p := 0) hg hw.1 (by rw [h0, Rat.zero_add]; exact hw.2)
  have e : eqA f n k = y := by unfold eqA; rw [hy]; rfl
  rw [e]
  have hl := cast_nonneg hlb.1
  obtain ⟨g1, g2, g3⟩ := plc_worth hg Rat.le_refl hl hw.1 hy
  have hd := plc_denS hg (n : Int) (by omega) ⟨Rat.le_refl, hl⟩ (by show (1 : Int) ≤ _; omega) (by rw [h0, Rat.zero_add]; exact ⟨(k : Int) * tot f, Rat.div_mul_cancel (cast_ne (by omega))⟩) hw.1 hy
  exact ⟨hy, ⟨g1, g2⟩, by rw [g3, h0, Rat.zero_add], by omega⟩
theorem eqA_step {f : List (Int × Int)} (hg : good f) {n k : Nat} (hn : 0 < n ∧ n ≤ 8) (hk : k + 1 ≤ n) : plc f (eqA f n k) (eqW f n 1) = some (eqA f n (k + 1)) := by
  obtain ⟨a1, a2, a3, _⟩ := eqA_facts hg hn (show k ≤ n by omega)
  obtain ⟨b1, _, _, _⟩ := eqA_facts hg hn hk
  have h0 := upTo_0 hg
  have hn' := cast_ne (show (n : Int) ≠ 0 by omega)
  have hw : eqW f n k + eqW f n 1 = eqW f n (k + 1) := by
    unfold eqW
    have : (((k + 1 : Nat) : Int) * tot f : Int) = (k : Int) * tot f + ((1 : Nat) : Int) * tot f := by rw [Int.natCast_add, Int.add_mul]
    rw [this, Rat.intCast_add]
    generalize (((k : Int) * tot f : Int) : Rat) = p at *
    generalize ((((1 : Nat) : Int) * tot f : Int) : Rat) = q at *
    generalize ((n : Int) : Rat) = d at *
    grind
  by_cases ht : tot f = 0
  · have z : ∀ j, eqW f n j = 0 := fun j => by unfold eqW; rw [ht, Int.mul_zero, int0, Rat.div_def, Rat.zero_mul]
    rw [z] at a1 b1 ⊢
    rw [a1] at b1
    rw [← Option.some.inj b1]
    unfold plc
    rfl
  · have hpos : ∀ j, 0 < j → (eqW f n j).num ≠ 0 := fun j hj e => by
      have := zero_lt_agg e
      unfold eqW at this
      have h1 : (((j : Int) * tot f : Int) : Rat) / ((n : Int) : Rat) * ((n : Int) : Rat) = (((j : Int) * tot f : Int) : Rat) := Rat.div_mul_cancel hn'
      rw [this, Rat.zero_mul, ← int0] at h1
      have h2 := Rat.intCast_inj.1 h1
      have h3 := Int.mul_eq_zero.1 h2.symm
      rcases h3 with h3 | h3
      · omega
      · exact ht h3
    have e1' : plc f (eqA f n k) (eqW f n 1) = rch 0 0 (units f) (upTo 0 f (eqA f n k) + eqW f n 1) := by unfold plc; rw [if_neg (hpos 1 (by omega))]
    have e2' : plc f 0 (eqW f n (k + 1)) = rch 0 0 (units f) (upTo 0 f 0 + eqW f n (k + 1)) := by unfold plc; rw [if_neg (hpos (k + 1) (by omega))]
    rw [e1', a3, hw, ← b1, e2', h0, Rat.zero_add]
def eqE (f : List (Int × Int)) (n : Int) : Int := if vE f = 0 then (if 1 ≤ n ∧ n ≤ 8 then 0 else 3) else vE f
def eqL (f : List (Int × Int)) (n : Int) : List (Int × Int) := if eqE f n = 0 then (List.range (n.toNat - 1)).map (fun k => pR (eqA f n.toNat (k + 1))) else []
theorem s41 {f : List (Int × Int)} {v : AV} {A : AHeap} (hf : L2 A v f) (n : Int) (hn : W n) : ACalls Try.prog 41 [v, I n] A (.tuple [outV 2 A (eqL f n).length, I (eqE f n)]) (outH A ((eqL f n).flatMap e2) (eqL f n).length) := by
  refine acalls hmix Try.func41 (by kernel_rfl) t41 2 rfl (by decide) ?_
  dsimp only [m41]
  simp (maxSteps := 4000000) -implicitDefEqProofs -dsimp (disch := omega) only [↓AW_ops, ↓AW_seq, ↓AOps_nil, ↓AOps_pu, ↓AOps_call, on_some, ↓then_normal, pval, rd_S, rd_C, put_S, List.replicate_succ, List.replicate_zero, List.set_cons_zero, List.set_cons_succ, List.getElem?_cons_zero, List.getElem?_cons_succ, Option.getD_some, map_c, map_n, Nat.reduceSub, List.cons_append, List.nil_append]
  refine CallK.of (s96 hf) ?_
  by_cases h0 : vE f = 0
  · have hg := (good_of h0).1
    have ht := tot_bound hg
    simp (maxSteps := 4000000) -implicitDefEqProofs -dsimp (disch := omega) only [↓AW_skip, ↓AW_ops, ↓AW_seq, ↓AW_cond, ↓AOps_nil, ↓AOps_pu, ↓AOps_call, on_some, extK_same, condB_f, ↓then_normal, pval, rd_S, rd_C, put_S, eq_self, List.replicate_succ, List.replicate_zero, List.set_cons_zero, List.set_cons_succ, List.getElem?_cons_zero, List.getElem?_cons_succ, Option.getD_some, map_c, map_n, Nat.reduceSub, List.cons_append, List.nil_append, bin_neq, decide_false, not_true_eq_false, h0]
    refine CallK.of (s97 _ _ _ _) ?_
    by_cases h1 : 1 ≤ n ∧ n ≤ 8
    · have hE : eqE f n = 0 := by simp [eqE, h0, h1]
      obtain ⟨m, rfl⟩ : ∃ m : Nat, n = ((m + 1 : Nat) : Int) := ⟨(n - 1).toNat, by omega⟩
      have hm : 0 < m + 1 ∧ m + 1 ≤ 8 := by omega
      have hL : eqL f ((m + 1 : Nat) : Int) = (List.range m).map (fun k => pR (eqA f (m + 1) (k + 1))) := by rw [eqL, if_pos hE]; rfl
      rw [hL, hE]
      simp (maxSteps := 4000000) -implicitDefEqProofs -dsimp (disch := omega) only [↓AW_skip, ↓AW_ops, ↓AW_seq, ↓AW_cond, ↓AOps_nil, ↓AOps_pu, ↓AOps_call, on_some, extK_same, condB_f, ↓then_normal, pval, rd_S, put_S, List.replicate_succ, List.replicate_zero, List.set_cons_zero, List.set_cons_succ, List.getElem?_cons_zero, List.getElem?_cons_succ, Option.getD_some, map_c, map_n, Nat.reduceSub, List.cons_append, List.nil_append, Bool.not_true, decide_true, and_true, h1]
      refine CallK.of (s100 hf hg) ?_
      simp (maxSteps := 4000000) -implicitDefEqProofs -dsimp (disch := omega) only [↓AOps_pu, ↓AOps_call, on_some, extK_same, pval, rd_S, put_S, List.replicate_succ, List.replicate_zero, List.set_cons_zero, List.set_cons_succ, List.getElem?_cons_zero, List.getElem?_cons_succ, Option.getD_some, map_c, map_n, Nat.reduceSub, List.cons_append, List.nil_append]
      refine CallK.of (s59R _ ⟨by omega, by omega⟩ (by omega) (by omega)) ?_
      have hw1 : ((tot f : Int) : Rat) / (((m + 1 : Nat) : Int) : Rat) = eqW f (m + 1) 1 := by unfold eqW; simp
      rw [hw1]
      have hone := L2_one A (pR (eqW f (m + 1) 1))
      simp (maxSteps := 4000000) -implicitDefEqProofs -dsimp (disch := omega) only [↓AOps_pu, ↓AOps_ha, ↓AOps_call, on_some, extK_app, extK_same, pval, hval, rd_S, rd_C, put_S, AV.cells?, splice, fillA, repl, eq_self, List.replicate_succ, List.replicate_zero, List.set_cons_zero, List.set_cons_succ, List.getElem?_cons_zero, List.getElem?_cons_succ, List.drop_succ_cons, List.drop_nil, List.take_zero, Option.getD_some, map_c, map_n, List.length_cons, List.length_nil, Nat.reduceAdd, Nat.reduceSub, Nat.reduceLeDiff, Nat.zero_add, List.cons_append, List.nil_append, List.append_nil, bin_sub, w64, if_true, and_true]
      have h63 := s99 hone m (by omega)
      have hm1 : ((m + 1 : Nat) : Int) - 1 = m := by omega
      rw [← hm1] at h63
      refine CallK.of h63 ?_
      have hrep : (List.replicate m (pR (eqW f (m + 1) 1))) = (List.replicate m (eqW f (m + 1) 1)).map pR := by simp
      generalize hA1 : A ++ [.cells true [I (pR (eqW f (m + 1) 1)).1, I (pR (eqW f (m + 1) 1)).2]] = A1 at *
      have hpA : A <+: A1 := by rw [← hA1]; exact pre_app _ _
      have hy : L2 (A1 ++ [.cells true ((List.replicate m (pR (eqW f (m + 1) 1))).flatMap Go.Eng.e2)]) (.sl 2 A1.length 0 m false) ((List.replicate m (eqW f (m + 1) 1)).map pR) := by
        rw [← hrep]
        have := (OL.new_mk e2_len A1 (List.replicate m (pR (eqW f (m + 1) 1))) false).ls
        rwa [List.length_replicate] at this
      have hpA2 := hpA.trans (pre_app A1 [.cells true ((List.replicate m (pR (eqW f (m + 1) 1))).flatMap Go.Eng.e2)])
      simp (maxSteps := 4000000) -implicitDefEqProofs -dsimp (disch := omega) only [↓AOps_call, extK_app, rd_S, put_S, List.replicate_succ, List.replicate_zero, List.set_cons_zero, List.set_cons_succ, List.getElem?_cons_zero, List.getElem?_cons_succ, Option.getD_some, map_c, map_n, Nat.reduceSub, List.cons_append, List.nil_append]
      have hw := eqW_le hg hm.1 (show 1 ≤ m + 1 by omega)
      have h62 := s98 (hf.mono hpA2) hg hy (by simp; omega) ((m + 1 : Nat) : Int) (by omega) (eqA f (m + 1)) (by
        have := (eqA_facts hg hm (show 0 ≤ m + 1 by omega)).1
        have z : eqW f (m + 1) 0 = 0 := by unfold eqW; rw [show (((0 : Nat) : Int) * tot f : Int) = 0 from Int.zero_mul _, int0, Rat.div_def, Rat.zero_mul]
        rw [z] at this
        unfold plc at this
        exact (Option.some.inj this).symm) (fun k w hk => by
        have hkl : k < m := by
          have := (List.getElem?_eq_some_iff.1 hk).1
          simpa using this
        have hwe : w = eqW f (m + 1) 1 := by
          have := (List.mem_replicate.1 (List.mem_of_getElem? hk)).2
          exact this
        subst hwe
        obtain ⟨a1, a2, a3, a4⟩ := eqA_facts hg hm (show k ≤ m + 1 by omega)
        have hDv : ∀ j, Dv ((m + 1 : Nat) : Int) (eqW f (m + 1) j) := fun j => ⟨(j : Int) * tot f, Rat.div_mul_cancel (cast_ne (by omega))⟩
        exact ⟨Pl.of a2.1 a2.2 (by omega), by rw [a3]; exact hDv k, hDv 1, hw.1, Rat.le_trans hw.2 (Rat.intCast_le_intCast.2 (by omega)), eqA_step hg hm (by omega)⟩)
      rw [List.length_replicate] at h62
      refine CallK.of h62 ?_
      simp (maxSteps := 4000000) -implicitDefEqProofs -dsimp (disch := omega) only [↓AW_ret, ↓AOps_nil, ↓AOps_pu, on_some, extK_false, ↓then_normal, ↓Fin_ret, pval, rd_S, rd_C, put_S, resV, resL, List.replicate_succ, List.replicate_zero, List.set_cons_zero, List.set_cons_succ, List.getElem?_cons_zero, List.getElem?_cons_succ, Option.getD_some, Nat.reduceSub, List.cons_append, List.nil_append]
      have hacc : AccL 2 Go.Eng.e2 A (outH (A1 ++ [.cells true ((List.replicate m (pR (eqW f (m + 1) 1))).flatMap Go.Eng.e2)]) (((List.range m).map (fun k => pR (eqA f (m + 1) (k + 1)))).flatMap Go.Eng.e2) m) (outV 2 (A1 ++ [.cells true ((List.replicate m (pR (eqW f (m + 1) 1))).flatMap Go.Eng.e2)]) m) ((List.range m).map (fun k => pR (eqA f (m + 1) (k + 1)))) := by
        have := AccL_out hpA2 e2_len ((List.range m).map (fun k => pR (eqA f (m + 1) (k + 1))))
        simpa using this
      exact hacc.gc2 flat_e2 (I 0) rfl
    · have hE : eqE f n = 3 := by simp [eqE, h0, h1]
      have hL : eqL f n = [] := by simp [eqL, hE]
      rw [hL, hE]
      simp (maxSteps := 4000000) -implicitDefEqProofs -dsimp (disch := omega) only [↓AW_ops, ↓AW_seq, ↓AW_cond, ↓AW_ret, ↓AOps_nil, ↓AOps_pu, on_some, extK_same, condB_t, ↓then_normal, ↓then_ret, ↓Fin_ret, pval, rd_S, rd_C, put_S, resV, resL, List.replicate_succ, List.replicate_zero, List.set_cons_zero, List.set_cons_succ, List.getElem?_cons_zero, List.getElem?_cons_succ, Option.getD_some, List.length_nil, Nat.reduceSub, List.cons_append, List.nil_append, Bool.not_false, decide_false, h1]
      exact gc_same_all rfl rfl
  · have hE : eqE f n = vE f := by simp [eqE, h0]
    have hL : eqL f n = [] := by simp [eqL, hE, h0]
    rw [hL, hE]
    simp (maxSteps := 4000000) -implicitDefEqProofs -dsimp (disch := omega) only [↓AW_ops, ↓AW_seq, ↓AW_cond, ↓AW_ret, ↓AOps_nil, ↓AOps_pu, on_some, extK_same, condB_t, ↓then_normal, ↓then_ret, ↓Fin_ret, pval, rd_S, rd_C, put_S, resV, resL, List.replicate_succ, List.replicate_zero, List.set_cons_zero, List.set_cons_succ, List.getElem?_cons_zero, List.getElem?_cons_succ, Option.getD_some, List.length_nil, Nat.reduceSub, List.cons_append, List.nil_append, bin_neq, decide_true, not_false_eq_true, h0]
    exact gc_same_all rfl rfl
end Go.Proofs.Ytmblehbjedpjoaa

namespace Go.Proofs.Ytmblehbjedpjoaa
open Go Go.Eng
def m39p0 : MCode :=
 .ops [⟨(some 2), some undefA, none, false, .ha (.newv (.s 0))⟩,
   ⟨(some 4), some undefA, none, false, .pu (.mov (.c (.nilS)))⟩,
   ⟨(some 5), some undefA, none, false, .pu (.mov (.c (.int .i64 0)))⟩]
def m39p1 : MCode :=
 .ops [⟨(some 11), some undefA, none, false, .ld (.ld 2 true (.s 2))⟩,
   ⟨(some 12), some undefA, none, false, .pu (.mov (.s 1))⟩,
   ⟨(some 13), some undefA, none, false, .call 35 [(.s 11), (.s 12)]⟩,
   ⟨(some 6), some undefA, none, false, .pu (.mov (.s 13))⟩]
def m39p2 : MCode :=
 .ops [⟨(some 14), some undefA, none, false, .pu (.mov (.s 6))⟩,
   ⟨(some 15), some undefA, none, false, .pu (.bin .neq (.s 14) (.c (.int .i64 0)))⟩]
def m39p3 : MCode :=
 .cond (.s 15) (.seq (.ops [⟨(some 16), some undefA, none, false, .pu (.mov (.s 6))⟩,
    ⟨(some 4), some undefA, none, false, .pu (.mov (.c (.nilS)))⟩,
    ⟨(some 5), some undefA, none, false, .pu (.mov (.s 16))⟩])
  (.ret))
 (.skip)
def m39p4 : MCode :=
 .ops [⟨(some 17), some undefA, none, false, .ld (.ld 2 true (.s 2))⟩,
   ⟨(some 18), some undefA, none, false, .call 77 [(.s 17)]⟩,
   ⟨(some 19), some undefA, none, false, .call 76 [(.s 18)]⟩,
   ⟨(some 7), some undefA, none, false, .ha (.newv (.c (.agg [.int .i64 0, .int .i64 0])))⟩,
   ⟨none, some undefA, none, false, .ha (.st 2 (.s 7) (.s 19))⟩]
def m39p5 : MCode :=
 .ops [⟨(some 8), some undefA, none, false, .ha (.newv (.c (.nilS)))⟩]
def m39p6 : MCode :=
 .ops [⟨(some 20), some undefA, none, false, .pu (.mov (.s 1))⟩,
   ⟨(some 21), some undefA, none, false, .call 94 [(.s 20)]⟩]
def m39p7 : MCode :=
 .ops [⟨(some 10), some undefA, none, false, .ha (.newv (.c (.agg [.int .i64 0, .int .i64 0, .int .i64 0, .int .i64 0, .int .i64 0])))⟩,
   ⟨none, some undefA, none, false, .ha (.st 5 (.s 10) (.s 23))⟩]
def m39p8 : MCode :=
 .block 1 (.ops [⟨(some 24), some undefA, none, true, .ld (.ld 1 false (.s 8))⟩,
    ⟨(some 25), some undefA, none, true, .pu (.fad 0 (.s 10))⟩,
    ⟨(some 26), some undefA, none, true, .ld (.ld 1 false (.s 25))⟩,
    ⟨(some 27), some undefA, none, true, .ld (.ld 2 true (.s 7))⟩,
    ⟨(some 28), some undefA, none, true, .pu (.fad 3 (.s 10))⟩,
    ⟨(some 29), some undefA, none, true, .ld (.ld 2 true (.s 28))⟩,
    ⟨(some 30), some undefA, none, true, .call 95 [(.s 27), (.s 29)]⟩,
    ⟨(some 31), some undefA, none, true, .ld (.ld 2 true (.s 7))⟩,
    ⟨(some 32), some undefA, none, true, .pu (.fad 1 (.s 10))⟩,
    ⟨(some 33), some undefA, none, true, .ld (.ld 2 true (.s 32))⟩,
    ⟨(some 34), some undefA, none, true, .call 95 [(.s 31), (.s 33)]⟩,
    ⟨(some 35), some undefA, none, true, .pu (.build [.int .i64 0, .int .i64 0, .int .i64 0, .int .i64 0, .int .i64 0] [(0, 1, (.s 26)), (1, 2, (.s 30)), (3, 2, (.s 34))])⟩,
    ⟨(some 36), some undefA, none, true, .ha (.blds 5 1 [.int .i64 0, .int .i64 0, .int .i64 0, .int .i64 0, .int .i64 0] [(0, 5, (.s 35))])⟩,
    ⟨(some 37), some undefA, none, false, .ha (.app 5 (.s 24) (.s 36))⟩,
    ⟨none, some undefA, none, false, .ha (.st 1 (.s 8) (.s 37))⟩])
def m117p0 : MCode :=
 .ops [⟨(some 4), some undefA, none, false, .ld (.ld 1 false (.s 1))⟩,
   ⟨(some 5), some undefA, none, false, .pu (.len (.s 4))⟩,
   ⟨(some 6), some undefA, none, false, .pu (.bin .sub (.s 5) (.c (.int .i64 1)))⟩,
   ⟨(some 3), some undefA, none, false, .pu (.mov (.s 6))⟩]
def m117p2 : MCode :=
 .ops [⟨(some 7), some undefA, none, false, .pu (.mov (.s 3))⟩,
   ⟨(some 8), some undefA, none, false, .pu (.bin .geq (.s 7) (.c (.int .i64 0)))⟩]
def m117p3 : MCode :=
 .cond (.s 8) (.skip)
 (.exit 0)
def m117p5 : MCode :=
 .cond (.s 18) (.ret)
 (.skip)
def m117p6 : MCode :=
 .ops [⟨(some 9), some undefA, none, false, .pu (.mov (.s 3))⟩,
   ⟨(some 10), some undefA, none, false, .pu (.bin .sub (.s 9) (.c (.int .i64 1)))⟩,
   ⟨(some 3), some undefA, none, false, .pu (.mov (.s 10))⟩]
def m117y : List MOp :=
 [⟨(some 11), some undefA, none, false, .pu (.mov (.s 0))⟩,
   ⟨(some 12), some undefA, none, false, .pu (.mov (.s 3))⟩,
   ⟨(some 13), some undefA, none, false, .ld (.ld 1 false (.s 1))⟩,
   ⟨(some 14), some undefA, none, false, .pu (.mov (.s 3))⟩,
   ⟨(some 15), some undefA, none, false, .pu (.idx 5 (.s 13) (.s 14))⟩,
   ⟨(some 16), some undefA, none, false, .ld (.ld 5 true (.s 15))⟩]
theorem chain {α : Type} {inv : Nat → α → Prop} {R : Nat → α → α → Prop} {x0 : α} (h0 : inv 0 x0) : ∀ n : Nat, (∀ k x, k < n → inv k x → ∃ y, R k x y ∧ inv (k + 1) y) → ∃ f : Nat → α, f 0 = x0 ∧ (∀ k, k ≤ n → inv k (f k)) ∧ ∀ k, k < n → R k (f k) (f (k + 1))
  | 0, _ => ⟨fun _ => x0, rfl, fun k hk => by rw [show k = 0 by omega]; exact h0, fun k hk => by omega⟩
  | n + 1, h => by
    obtain ⟨f, f0, f1, f2⟩ := chain h0 n (fun k x hk hi => h k x (by omega) hi)
    obtain ⟨y, hy1, hy2⟩ := h n (f n) (by omega) (f1 n (Nat.le_refl _))
    refine ⟨fun k => if k = n + 1 then y else f k, by simp [f0], fun k hk => ?_, fun k hk => ?_⟩
    · by_cases e : k = n + 1
      · subst e; simp only [if_true]; exact hy2
      · simp only [e, if_false]; exact f1 k (by omega)
    · by_cases e : k = n
      · subst e
        have : ¬ k = k + 1 := by omega
        simp only [this, if_false, if_true]
        exact hy1
      · have h1 : ¬ k = n + 1 := by omega
        have h2 : ¬ k + 1 = n + 1 := by omega
        simp only [h1, h2, if_false]
        exact f2 k (by omega)
theorem c_Backward (v : AV) (hc : v.cells? = some [v]) (A : AHeap) : ACalls Try.prog 94 [v] A (.fn 117 [.ptr A.length 0]) (A ++ [.cells true [v]]) := by
  refine acalls hmix Try.func94 (by kernel_rfl) t94 1 rfl (by decide) ?_
  dsimp only [m94]
  simp (maxSteps := 4000000) -implicitDefEqProofs -dsimp (disch := omega) only [↓AW_ops, ↓AW_seq, ↓AW_ret, ↓AOps_nil, ↓AOps_pu, ↓AOps_ha, on_some, extK_app, ↓then_normal, ↓Fin_ret, pval, hval_newv, rd_S, rd_C, put_S, resV, resL, List.replicate_succ, List.replicate_zero, List.set_cons_zero, List.set_cons_succ, List.getElem?_cons_zero, List.getElem?_cons_succ, Option.getD_some, map_c, map_n, Nat.reduceSub, List.cons_append, List.nil_append, hc]
  exact gc_all
theorem it_Backward {pcs : List Pc} {v : AV} {A : AHeap} {b : Nat} {Yd : AV → AV → AHeap → AHeap → Prop} {Hs : Nat → AHeap} (hx : L5 A v pcs) (hl : pcs.length ≤ 1000000) (hp : ∀ k, k ≤ pcs.length → A <+: Hs k) (hb : ∀ k, k ≤ pcs.length → ldA 1 false (.ptr b 0) (Hs k) = some v)
    (hstep : ∀ (k j : Nat) (z : Pc), j + k + 1 = pcs.length → pcs[j]? = some z → Yd (I j) (.agg (e5 z)) (Hs k) (Hs (k + 1))) : AIter2 Try.prog 117 [.ptr b 0] (Hs 0) (Hs pcs.length) Yd := by
  refine aiter_of2 Try.func117 (by kernel_rfl) rfl rfl (fun n l ρ w hs hy => ?_)
  refine WC_seq (WC_pure hmix (m := m117p0) (by kernel_rfl) ?_)
  have hxk : ∀ k, k ≤ pcs.length → L5 (Hs k) v pcs := fun k hk => hx.mono (hp k hk)
  show AW Try.prog m117p0 _ ([.yld l, .ptr b 0] ++ List.replicate 17 .junk) _
  simp (maxSteps := 4000000) -implicitDefEqProofs -dsimp (disch := omega) only [↓AW_ops, ↓AOps_nil, ↓AOps_pu, ↓AOps_ld, on_some, ↓then_normal, pval, lval, rd_S, rd_C, put_S, List.replicate_succ, List.replicate_zero, List.set_cons_zero, List.set_cons_succ, List.getElem?_cons_zero, List.getElem?_cons_succ, Option.getD_some, List.cons_append, List.nil_append, bin_sub, w64, m117p0, hb 0 (Nat.zero_le _), hx.len]
  refine WC_block (by decide) ?_
  refine WC_loopA 19 (fun i : Nat => i ≤ pcs.length) (fun i => [(0, .yld l), (1, .ptr b 0), (3, I ((pcs.length : Int) - 1 - i))]) (fun i => Hs i) (fun i => pcs.length - i) 0 (by omega) rfl (by simp [Has, rd_s]) rfl ?_
  intro k hk
  refine WC_seq (WC_seq (WC_pure hmix (m := m117p2) (by kernel_rfl) ?_))
  by_cases hlt : k < pcs.length
  · obtain ⟨j, hj⟩ : ∃ j : Nat, j + k + 1 = pcs.length := ⟨pcs.length - 1 - k, by omega⟩
    have hjj : (pcs.length : Int) - 1 - k = (j : Int) := by omega
    have hjl : j < pcs.length := by omega
    obtain ⟨z, hz⟩ : ∃ z, pcs[j]? = some z := ⟨_, List.getElem?_eq_getElem hjl⟩
    have hj0 : (0 : Int) ≤ (j : Int) := by omega
    have hj1 : (j : Int) ≥ 0 := by omega
    rw [hjj]
    simp (maxSteps := 4000000) -implicitDefEqProofs -dsimp (disch := omega) only [↓AW_ops, ↓AOps_nil, ↓AOps_pu, on_some, ↓then_normal, pval, rd_S, rd_C, put_S, mk, List.foldl_cons, List.foldl_nil, List.replicate_succ, List.replicate_zero, List.set_cons_zero, List.set_cons_succ, List.getElem?_cons_zero, List.getElem?_cons_succ, Option.getD_some, bin_geq, decide_true, m117p2, hj0]
    refine WC_pure hmix (m := m117p3) (by kernel_rfl) ?_
    simp (maxSteps := 4000000) -implicitDefEqProofs -dsimp (disch := omega) only [↓AW_skip, ↓AW_cond, condB_t, ↓then_normal, rd_S, List.getElem?_cons_zero, List.getElem?_cons_succ, Option.getD_some, m117p3]
    have hxi := hxk k hk
    have hbk := hb k hk
    refine WC_seq (WC_block (by decide) (WC_seq (WC_yield2 (kk := 6) (m := m117y) hy (by kernel_rfl) rfl rfl rfl ?_)))
    simp (maxSteps := 4000000) -implicitDefEqProofs -dsimp (disch := omega) only [↓AW_ops, ↓AOps_nil, ↓AOps_pu, ↓AOps_ld, on_some, ↓then_normal, pval, lval, rd_S, put_S, partA, eq_self, List.set_cons_zero, List.set_cons_succ, List.getElem?_cons_zero, List.getElem?_cons_succ, List.drop_zero, List.take_succ_cons, List.take_nil, Option.getD_some, List.length_cons, List.length_nil, Nat.reduceAdd, Nat.reduceLeDiff, Nat.reduceEqDiff, Nat.zero_add, if_true, if_false, true_and, m117y, hbk, hxi.idx hjl, hxi.ld0 hz 5 true (by decide), e5]
    refine ⟨by decide, Hs (k + 1), hstep k j z hj hz, ?_⟩
    refine WC_pure hmix (m := m117p5) (by kernel_rfl) ?_
    simp (maxSteps := 4000000) -implicitDefEqProofs -dsimp (disch := omega) only [↓AW_skip, ↓AW_cond, condB_f, ↓then_normal, ↓inBlock_normal, rd_S, List.getElem?_cons_zero, List.getElem?_cons_succ, Option.getD_some, m117p5]
    refine WC_pure hmix (m := m117p6) (by kernel_rfl) ?_
    simp (maxSteps := 4000000) -implicitDefEqProofs -dsimp (disch := omega) only [↓AW_ops, ↓AOps_nil, ↓AOps_pu, on_some, ↓then_normal, pval, rd_S, rd_C, put_S, eq_self, List.set_cons_zero, List.set_cons_succ, List.getElem?_cons_zero, List.getElem?_cons_succ, Option.getD_some, List.length_cons, List.length_nil, Nat.reduceAdd, Nat.zero_add, bin_sub, w64, true_and, m117p6]
    refine ⟨k + 1, hlt, ?_, rfl, by omega⟩
    have e : (pcs.length : Int) - 1 - ((k + 1 : Nat) : Int) = (j : Int) - 1 := by omega
    rw [e]
    simp [Has, rd_s]
  · have hkk : k = pcs.length := by omega
    subst hkk
    have hn0 : ¬ ((pcs.length : Int) - 1 - pcs.length ≥ 0) := by omega
    have hn1 : ¬ (0 ≤ (pcs.length : Int) - 1 - pcs.length) := by omega
    simp (maxSteps := 4000000) -implicitDefEqProofs -dsimp (disch := omega) only [↓AW_ops, ↓AOps_nil, ↓AOps_pu, on_some, ↓then_normal, pval, rd_S, rd_C, put_S, mk, List.foldl_cons, List.foldl_nil, List.replicate_succ, List.replicate_zero, List.set_cons_zero, List.set_cons_succ, List.getElem?_cons_zero, List.getElem?_cons_succ, Option.getD_some, bin_geq, decide_false, m117p2, hn0]
    refine WC_pure hmix (m := m117p3) (by kernel_rfl) ?_
    simp (maxSteps := 4000000) -implicitDefEqProofs -dsimp (disch := omega) only [↓AW_cond, ↓AW_exit, condB_f, ↓then_exit, ↓inBlock_exit, rd_S, eq_self, List.getElem?_cons_zero, List.getElem?_cons_succ, Option.getD_some, if_true, reduceCtorEq, m117p3]
    exact ⟨.inl trivial, gc_all⟩
/-- A piece, seen from the other end. -/
def tp (E : Int) (p : Pc) : Pc := ⟨p.o, rp ((E : Rat) - qr p.s), rp ((E : Rat) - qr p.r)⟩
def trnP (E : Int) (pcs : List Pc) : List Pc := pcs.reverse.map (tp E)
/-- What has been laid together so far, in a box; another box behind it. -/
def Aq (B : AHeap) (c4 : AObj) (H : AHeap) (xs : List Pc) : Prop := B <+: H ∧ H[B.length + 1]? = some c4 ∧ ∃ v, H[B.length]? = some (.cells true [v]) ∧ ((xs = [] ∧ v = .nilS) ∨ (xs ≠ [] ∧ ∃ m, v = .sl 5 m 0 xs.length false ∧ B.length + 1 < m ∧ H[m]? = some (.cells true (xs.flatMap e5))))
theorem Aq.acc {B H : AHeap} {c4 : AObj} {xs : List Pc} (h : Aq B c4 H xs) : ∃ v, ldA 1 false (.ptr B.length 0) H = some v ∧ AccL 5 e5 B H v xs := by
  obtain ⟨hp, _, v, hv, h⟩ := h
  refine ⟨v, by simp [ldA, partA, hv], hp, flatMap_length e5_len xs, ?_⟩
  rcases h with ⟨rfl, rfl⟩ | ⟨h0, m, rfl, hm, ho⟩
  · exact .inl ⟨rfl, rfl⟩
  · exact .inr ⟨List.length_pos_iff.2 h0, m, rfl, by omega, ho⟩
theorem stA_box {H : AHeap} {n : Nat} {u v : AV} (h : H[n]? = some (.cells true [u])) (hc : v.cells? = some [v]) : stA 1 (.ptr n 0) v H = some (H.set n (.cells true [v])) := by simp [stA, hc, h, splice]
/-- One more in the box. -/
theorem Aq.push {B H : AHeap} {c4 : AObj} {xs : List Pc} (h : Aq B c4 H xs) (z : Pc) (hl : xs.length + 1 ≤ lim) : ∃ v v' H2, ldA 1 false (.ptr B.length 0) H = some v ∧ v'.cells? = some [v'] ∧
    appA 5 (H ++ [AObj.cells true (e5 z)]) v (.sl 5 H.length 0 1 true) = some (v', H2) ∧ stA 1 (.ptr B.length 0) v' H2 = some (H2.set B.length (AObj.cells true [v'])) ∧ Aq B c4 (H2.set B.length (AObj.cells true [v'])) (xs ++ [z]) := by
  obtain ⟨hp, h4, v, hv, h⟩ := h
  have l0 : ldA 1 false (.ptr B.length 0) H = some v := by simp [ldA, partA, hv]
  have hBl : B.length + 1 < H.length := (List.getElem?_eq_some_iff.1 h4).1
  have hsl : slCells 5 (H ++ [AObj.cells true (e5 z)]) (.sl 5 H.length 0 1 true) = some (1, e5 z) := by simp [slCells, cellsAt, e5]
  rcases h with ⟨rfl, rfl⟩ | ⟨h0, m, rfl, hm, ho⟩
  · have hb2 : (H ++ [AObj.cells true (e5 z)] ++ [AObj.cells true (e5 z)])[B.length]? = some (.cells true [AV.nilS]) := pre_get ((pre_app _ _).trans (pre_app _ _)) hv
    refine ⟨_, .sl 5 (H ++ [AObj.cells true (e5 z)]).length 0 1 false, H ++ [AObj.cells true (e5 z)] ++ [AObj.cells true (e5 z)], l0, rfl, by simp [appA, hsl, lim], stA_box hb2 rfl,
      pre_set (hp.trans ((pre_app _ _).trans (pre_app _ _))) (Nat.le_refl _) _, ?_, _, List.getElem?_set_self (by simp; omega), .inr ⟨by simp, (H ++ [AObj.cells true (e5 z)]).length, rfl, by simp; omega, ?_⟩⟩
    · rw [List.getElem?_set_ne (by omega)]; exact pre_get ((pre_app _ _).trans (pre_app _ _)) h4
    · rw [List.getElem?_set_ne (by simp; omega), get_new]
      simp
  · have hml := (List.getElem?_eq_some_iff.1 ho).1
    have hfl := flatMap_length e5_len xs
    have h1 : (H ++ [AObj.cells true (e5 z)])[m]? = some (.cells true (xs.flatMap e5)) := pre_get (pre_app _ _) ho
    have happ : appA 5 (H ++ [AObj.cells true (e5 z)]) (.sl 5 m 0 xs.length false) (.sl 5 H.length 0 1 true) = some (.sl 5 (H ++ [AObj.cells true (e5 z)]).length 0 (xs.length + 1) false, (H ++ [AObj.cells true (e5 z)]).set m AObj.dead ++ [AObj.cells true (xs.flatMap e5 ++ e5 z)]) := by
      have h2 : xs.length * 5 ≤ (xs.flatMap e5).length := by omega
      have h3 : (xs.flatMap e5).take (xs.length * 5) = xs.flatMap e5 := List.take_of_length_le (by omega)
      simp [appA, hsl, h1, hl, hfl, h3]
    have hb2 : ((H ++ [AObj.cells true (e5 z)]).set m AObj.dead ++ [AObj.cells true (xs.flatMap e5 ++ e5 z)])[B.length]? = some (.cells true [.sl 5 m 0 xs.length false]) := by
      rw [List.getElem?_append_left (by simp; omega), List.getElem?_set_ne (by omega)]
      exact pre_get (pre_app _ _) hv
    have hB2 : B <+: (H ++ [AObj.cells true (e5 z)]).set m AObj.dead := pre_set (hp.trans (pre_app _ _)) (by omega) _
    refine ⟨_, _, _, l0, rfl, happ, stA_box hb2 rfl, pre_set (hB2.trans (pre_app _ _)) (Nat.le_refl _) _, ?_, _, by rw [List.getElem?_set_self (by simp; omega)], .inr ⟨by simp, (H ++ [AObj.cells true (e5 z)]).length, by simp, by simp; omega, ?_⟩⟩
    · rw [List.getElem?_set_ne (by omega), List.getElem?_append_left (by simp; omega), List.getElem?_set_ne (by omega)]
      exact pre_get (pre_app _ _) h4
    · rw [List.getElem?_set_ne (by simp; omega), List.getElem?_append_right (by simp)]
      simp
end Go.Proofs.Ytmblehbjedpjoaa

namespace Go.Proofs.Ytmblehbjedpjoaa
open Go Go.Eng
theorem Aq.mono {B H H1 : AHeap} {c4 : AObj} {xs : List Pc} (h : Aq B c4 H xs) (hp : H <+: H1) : Aq B c4 H1 xs := by
  obtain ⟨h1, h2, v, h3, h⟩ := h
  refine ⟨h1.trans hp, pre_get hp h2, v, pre_get hp h3, ?_⟩
  rcases h with h | ⟨h0, m, h4, hm, ho⟩
  · exact .inl h
  · exact .inr ⟨h0, m, h4, hm, pre_get hp ho⟩
theorem tp_step {A B H : AHeap} {c4 : AObj} {xs : List Pc} {E : Int} {z : Pc} {n7 : Nat} (hA : A <+: B) (h : Aq B c4 H xs) (h7 : ldA 2 true (.ptr n7 0) B = some (R (E : Rat))) (hr : AV.agg [I z.r.1, I z.r.2] = R (qr z.r)) (hs : AV.agg [I z.s.1, I z.s.2] = R (qr z.s))
    (f1 : Sm (qr z.r)) (f2 : Sm (qr z.s)) (fE : Sm (E : Rat)) (hl : xs.length + 1 ≤ lim) (g : AV) :
    ∃ H', (∀ i : AV, AW Try.prog m39p7 (MX.then (AW Try.prog m39p8 (fun e _ H1 => e = .normal ∧ H1 = H')) (fun _ _ _ => False)) (((mk 39 [(7, .ptr n7 0), (8, .ptr B.length 0), (21, g)]).set 22 i).set 23 (.agg (e5 z))) H) ∧ Aq B c4 H' (xs ++ [tp E z]) := by
  have hp1 : H <+: H ++ [AObj.cells true [I z.o, I z.r.1, I z.r.2, I z.s.1, I z.s.2]] := pre_app _ _
  obtain ⟨v, v', H2, l0, hc, happ, hst, hq⟩ := (h.mono hp1).push (tp E z) hl
  have hB7 := ld_mono (h.1.trans hp1) h7
  have hst0 : stA 5 (.ptr H.length 0) (.agg [I z.o, I z.r.1, I z.r.2, I z.s.1, I z.s.2]) (H ++ [AObj.cells true [AV.int .i64 0, AV.int .i64 0, AV.int .i64 0, AV.int .i64 0, AV.int .i64 0]]) = some (H ++ [AObj.cells true [I z.o, I z.r.1, I z.r.2, I z.s.1, I z.s.2]]) := by
    simp [stA, AV.cells?, splice]
  have g0 : ldA 1 false (.ptr H.length 0) (H ++ [AObj.cells true [I z.o, I z.r.1, I z.r.2, I z.s.1, I z.s.2]]) = some (I z.o) := by simp [ldA, partA]
  have g1 : ldA 2 true (.ptr H.length 1) (H ++ [AObj.cells true [I z.o, I z.r.1, I z.r.2, I z.s.1, I z.s.2]]) = some (R (qr z.r)) := by rw [← hr]; simp [ldA, partA]
  have g3 : ldA 2 true (.ptr H.length 3) (H ++ [AObj.cells true [I z.o, I z.r.1, I z.r.2, I z.s.1, I z.s.2]]) = some (R (qr z.s)) := by rw [← hs]; simp [ldA, partA]
  simp only [tp, rp, e5] at happ
  refine ⟨_, fun i => ?_, hq⟩
  simp only [e5]
  simp (maxSteps := 4000000) -implicitDefEqProofs -dsimp (disch := omega) only [↓AW_ops, ↓AW_block, ↓AOps_nil, ↓AOps_pu, ↓AOps_ld, ↓AOps_ha, ↓AOps_call, on_some, extK_false, extK_app, ↓then_normal, pval, lval, hval_st, hval_newv, rd_S, rd_C, put_S, putS_none, cells_agg, mk, List.foldl_cons, List.foldl_nil, List.replicate_succ, List.replicate_zero, List.set_cons_zero, List.set_cons_succ, List.getElem?_cons_zero, List.getElem?_cons_succ, Option.getD_some, Option.map_some, map_c, map_n, Nat.zero_add, Nat.add_zero, m39p7, m39p8, hst0, l0, g0, g3, hB7]
  refine CallK.of (s95 _ _ _ fE f2) ?_
  simp (maxSteps := 4000000) -implicitDefEqProofs -dsimp (disch := omega) only [↓AOps_pu, ↓AOps_ld, ↓AOps_call, on_some, extK_same, pval, lval, rd_S, put_S, putS_none, List.set_cons_zero, List.set_cons_succ, List.getElem?_cons_zero, List.getElem?_cons_succ, Option.getD_some, map_c, map_n, Nat.zero_add, hB7, g1]
  refine CallK.of (s95 _ _ _ fE f1) ?_
  simp (maxSteps := 4000000) -implicitDefEqProofs -dsimp (disch := omega) only [↓AOps_nil, ↓AOps_pu, ↓AOps_ha, on_some, extK_false, extK_app, extK_same, ↓inBlock_normal, pval, hval_st, hval_blds, hval_app, rd_S, put_S, putS_none, cells_agg, cells_int, splice, fillA, repl, eq_self, List.set_cons_zero, List.set_cons_succ, List.getElem?_cons_zero, List.getElem?_cons_succ, List.drop_zero, List.drop_succ_cons, List.drop_nil, List.take_zero, List.take_succ_cons, Option.getD_some, Option.map_some, map_c, map_n, List.length_cons, List.length_nil, Nat.reduceAdd, Nat.reduceLeDiff, Nat.zero_add, List.cons_append, List.nil_append, List.append_nil, if_true, and_true, happ, hst]
variable {L : List Int} {ws : List (AV × List Int)} {x y : AV} {A : AHeap}
theorem s39 (hL : L1 A x L) (hV : LL A y ws) (hs : Sz L ws) (hg : KG L (lists ws)) {pcs : List Pc} {v : AV} (hP : L5 A v pcs) (hl : pcs.length ≤ 1000) (hW : ∀ p ∈ pcs, W p.r.1 ∧ W p.s.1) (hc : CP L (lists ws) pcs) :
    ACalls Try.prog 39 [.agg [x, y], v] A (.tuple [outV 5 A (trnP L.sum pcs).length, I 0]) (outH A ((trnP L.sum pcs).flatMap e5) (trnP L.sum pcs).length) := by
  refine acalls_ws Try.func39 (by kernel_rfl) rfl (fun n ρ w hsim => ?_)
  refine WS_pure hmix (m := m39p0) (by kernel_rfl) rfl hsim ?_
  show AW Try.prog m39p0 _ ([.agg [x, y], v] ++ List.replicate 37 .junk) _
  have hp1 : A <+: A ++ [AObj.cells true [x, y]] := pre_app _ _
  have hcx : x.cells? = some [x] := Ls_cells hL
  have hcy : y.cells? = some [y] := Ls_cells hV.ls
  have hcv : v.cells? = some [v] := Ls_cells hP
  have hcf : (AV.agg [x, y]).cells? = some [x, y] := rfl
  have hcp : cpE L (lists ws) pcs = 0 := by unfold cpE; rw [if_pos hg.e, if_pos hc]
  have l0 : ldA 2 true (.ptr A.length 0) (A ++ [AObj.cells true [x, y]]) = some (.agg [x, y]) := by simp [ldA, partA]
  simp (maxSteps := 4000000) -implicitDefEqProofs -dsimp (disch := omega) only [↓AW_ops, ↓AOps_nil, ↓AOps_pu, ↓AOps_ha, on_some, extK_app, pval, hval_newv, rd_S, rd_C, put_S, cells_agg, eq_self, List.replicate_succ, List.replicate_zero, List.set_cons_zero, List.set_cons_succ, List.getElem?_cons_zero, List.getElem?_cons_succ, Option.getD_some, List.cons_append, List.nil_append, true_and, reduceCtorEq, m39p0]
  refine .inl ?_
  refine WS_seq ?_
  refine WS_seq ?_
  refine WS_pure hmix (m := m39p1) (by kernel_rfl) rfl hsim ?_
  simp (maxSteps := 4000000) -implicitDefEqProofs -dsimp (disch := omega) only [↓AW_ops, ↓AOps_pu, ↓AOps_ld, ↓AOps_call, on_some, pval, lval, rd_S, put_S, List.set_cons_zero, List.set_cons_succ, List.getElem?_cons_zero, List.getElem?_cons_succ, Option.getD_some, map_c, map_n, m39p1, l0]
  refine CallK.of (s35 (hL.mono hp1) (hV.mono hp1) hs (hP.mono hp1) (by omega) hW) ?_
  simp (maxSteps := 4000000) -implicitDefEqProofs -dsimp (disch := omega) only [↓AOps_nil, ↓AOps_pu, on_some, extK_same, pval, rd_S, put_S, eq_self, List.set_cons_zero, List.set_cons_succ, List.getElem?_cons_zero, List.getElem?_cons_succ, Option.getD_some, true_and, reduceCtorEq, hcp]
  refine .inl ?_
  refine WS_pure hmix (m := .seq m39p2 m39p3) (by kernel_rfl) rfl hsim ?_
  simp (maxSteps := 4000000) -implicitDefEqProofs -dsimp (disch := omega) only [↓AW_skip, ↓AW_ops, ↓AW_seq, ↓AW_cond, ↓AOps_nil, ↓AOps_pu, on_some, condB_f, ↓then_normal, pval, rd_S, rd_C, put_S, eq_self, List.set_cons_zero, List.set_cons_succ, List.getElem?_cons_zero, List.getElem?_cons_succ, Option.getD_some, bin_neq, decide_false, true_and, reduceCtorEq, not_true_eq_false, m39p2, m39p3]
  refine .inl ?_
  refine WS_seq ?_
  refine WS_pure hmix (m := m39p4) (by kernel_rfl) rfl hsim ?_
  simp (maxSteps := 4000000) -implicitDefEqProofs -dsimp (disch := omega) only [↓AW_ops, ↓AOps_ld, ↓AOps_call, on_some, lval, rd_S, put_S, List.set_cons_zero, List.set_cons_succ, List.getElem?_cons_zero, List.getElem?_cons_succ, Option.getD_some, map_c, map_n, m39p4, l0]
  refine CallK.of (c_end (hL.mono hp1) hg) ?_
  simp (maxSteps := 4000000) -implicitDefEqProofs -dsimp (disch := omega) only [↓AOps_call, extK_same, rd_S, put_S, List.set_cons_zero, List.set_cons_succ, List.getElem?_cons_zero, List.getElem?_cons_succ, Option.getD_some, map_c, map_n]
  have hst4 : stA 2 (.ptr (A ++ [AObj.cells true [x, y]]).length 0) (R ((L.sum : Int) : Rat)) (A ++ [AObj.cells true [x, y]] ++ [AObj.cells true [AV.int .i64 0, AV.int .i64 0]]) = some (A ++ [AObj.cells true [x, y]] ++ [AObj.cells true [I ((L.sum : Int) : Rat).num, I (((L.sum : Int) : Rat).den : Int)]]) := by
    simp [stA, AV.cells?, splice]
  refine CallK.of (s76 _ _) ?_
  simp (maxSteps := 4000000) -implicitDefEqProofs -dsimp (disch := omega) only [↓AOps_nil, ↓AOps_ha, on_some, extK_false, extK_app, extK_same, hval_st, hval_newv, rd_S, rd_C, put_S, putS_none, cells_agg, eq_self, List.set_cons_zero, List.set_cons_succ, List.getElem?_cons_zero, List.getElem?_cons_succ, Option.getD_some, Option.map_some, true_and, reduceCtorEq, hst4]
  refine .inl ?_
  obtain ⟨B, hB⟩ : ∃ B, A ++ [AObj.cells true [x, y]] ++ [AObj.cells true [I ((L.sum : Int) : Rat).num, I (((L.sum : Int) : Rat).den : Int)]] = B := ⟨_, rfl⟩
  have hpB : A <+: B := by rw [← hB]; exact hp1.trans (pre_app _ _)
  have h7 : ldA 2 true (.ptr (A ++ [AObj.cells true [x, y]]).length 0) B = some (R ((L.sum : Int) : Rat)) := by rw [← hB]; simp [ldA, partA]
  rw [hB]
  refine WS_seq ?_
  refine WS_pure hmix (m := m39p5) (by kernel_rfl) rfl hsim ?_
  simp (maxSteps := 4000000) -implicitDefEqProofs -dsimp (disch := omega) only [↓AW_ops, ↓AOps_nil, ↓AOps_ha, on_some, extK_app, hval_newv, rd_S, rd_C, put_S, cells_nilS, eq_self, List.set_cons_zero, List.set_cons_succ, List.getElem?_cons_zero, List.getElem?_cons_succ, Option.getD_some, true_and, reduceCtorEq, m39p5]
  refine .inl ?_
  refine WS_seq ?_
  refine WS_seq ?_
  refine WS_pure hmix (m := m39p6) (by kernel_rfl) rfl hsim ?_
  simp (maxSteps := 4000000) -implicitDefEqProofs -dsimp (disch := omega) only [↓AW_ops, ↓AOps_pu, ↓AOps_call, on_some, pval, rd_S, put_S, List.set_cons_zero, List.set_cons_succ, List.getElem?_cons_zero, List.getElem?_cons_succ, Option.getD_some, map_c, map_n, m39p6]
  refine CallK.of (c_Backward v hcv _) ?_
  simp (maxSteps := 4000000) -implicitDefEqProofs -dsimp (disch := omega) only [↓AOps_nil, extK_app, put_S, eq_self, List.set_cons_zero, List.set_cons_succ, List.getElem?_cons_zero, List.getElem?_cons_succ, Option.getD_some, true_and, reduceCtorEq]
  refine .inl ?_
  have hlen : (B ++ [AObj.cells true [AV.nilS]]).length = B.length + 1 := by simp
  have h0 : Aq B (.cells true [v]) (B ++ [AObj.cells true [AV.nilS]] ++ [AObj.cells true [v]]) [] := ⟨(pre_app _ _).trans (pre_app _ _), by rw [← hlen]; exact get_new _ _, .nilS, pre_get (pre_app _ _) (get_new _ _), .inl ⟨rfl, rfl⟩⟩
  have hSm : ∀ z ∈ pcs, (AV.agg [I z.r.1, I z.r.2] = R (qr z.r) ∧ AV.agg [I z.s.1, I z.s.2] = R (qr z.s)) ∧ Sm (qr z.r) ∧ Sm (qr z.s) := fun z hz => by
    obtain ⟨i1, i2, _⟩ := hc.at hz
    obtain ⟨k1, _, _, p1⟩ := isK_R hg i1
    obtain ⟨k2, _, _, p2⟩ := isK_R hg i2
    obtain ⟨r, hr⟩ : ∃ r, r ∈ lists ws := List.exists_mem_of_length_pos (by have := hg.v1; omega)
    exact ⟨⟨k1, k2⟩, (p1 r hr).sm (hg.gd hr), (p2 r hr).sm (hg.gd hr)⟩
  have hLs := hg.sum
  have fE : Sm ((L.sum : Int) : Rat) := Sm_int (by omega)
  have hrl : pcs.reverse.length = pcs.length := by simp
  obtain ⟨Hs, f0, f1, f2⟩ := chain (inv := fun k H => Aq B (.cells true [v]) H ((trnP L.sum pcs).take k)) (R := fun k H H' => ∀ (j : Nat) (z : Pc) (i : AV), j + k + 1 = pcs.length → pcs[j]? = some z → AW Try.prog m39p7 (MX.then (AW Try.prog m39p8 (fun e _ H1 => e = .normal ∧ H1 = H')) (fun _ _ _ => False)) (((mk 39 [(7, .ptr (A ++ [AObj.cells true [x, y]]).length 0), (8, .ptr B.length 0), (21, .fn 117 [.ptr (B ++ [AObj.cells true [AV.nilS]]).length 0])]).set 22 i).set 23 (.agg (e5 z))) H) (x0 := B ++ [AObj.cells true [AV.nilS]] ++ [AObj.cells true [v]]) (by simpa using h0) pcs.length (fun k H hk hi => by
    obtain ⟨j, hj⟩ : ∃ j : Nat, j + k + 1 = pcs.length := ⟨pcs.length - 1 - k, by omega⟩
    obtain ⟨z, hz⟩ : ∃ z, pcs[j]? = some z := ⟨_, List.getElem?_eq_getElem (by omega)⟩
    obtain ⟨⟨k1, k2⟩, m1, m2⟩ := hSm z (List.mem_of_getElem? hz)
    obtain ⟨H', hw, hq⟩ := tp_step hpB hi h7 k1 k2 m1 m2 fE (by rw [List.length_take]; simp [lim]; omega) (.fn 117 [.ptr (B ++ [AObj.cells true [AV.nilS]]).length 0])
    refine ⟨H', fun j' z' i hj' hz' => ?_, ?_⟩
    · obtain rfl : j' = j := by omega
      rw [hz] at hz'
      cases hz'
      exact hw i
    · have e : (trnP L.sum pcs)[k]? = some (tp L.sum z) := by
        unfold trnP
        rw [List.getElem?_map, List.getElem?_reverse (by omega), show pcs.length - 1 - k = j by omega, hz]
        rfl
      rw [List.take_add_one, e]
      exact hq)
  have hend := f1 pcs.length (Nat.le_refl _)
  have htl : (trnP L.sum pcs).length = pcs.length := by simp [trnP]
  rw [← htl, List.take_length] at hend
  obtain ⟨v1, hv1, hacc⟩ := hend.acc
  rw [htl] at hv1 hacc
  refine WS_forget (forget_mk (n := 39) (L := [(7, .ptr (A ++ [AObj.cells true [x, y]]).length 0), (8, .ptr B.length 0), (21, .fn 117 [.ptr (B ++ [AObj.cells true [AV.nilS]]).length 0])]) rfl (by simp [Has, rd_s])) ?_
  refine WS_range2 (H2 := Hs pcs.length) (v1 := v1) (gf := 117) (cap := [.ptr (B ++ [AObj.cells true [AV.nilS]]).length 0]) hmix (ma := m39p7) (mb := m39p8) rfl rfl (by kernel_rfl) (by kernel_rfl) rfl rfl rfl rfl (by kernel_rfl) (by kernel_rfl) hsim (by decide) (by rw [mk_length]; decide) (by rw [mk_length]; decide) (by rw [mk_length]; decide) rfl ?_ hv1 ?_
  · rw [← f0]
    refine it_Backward (hP.mono hpB) (by omega) (fun k hk => (f1 k hk).1) (fun k hk => ?_) (fun k j z hj hz => f2 k (by omega) j z _ hj hz)
    have := (f1 k hk).2.1
    rw [hlen]
    simp [ldA, partA, this]
  · exact (AccL_base hpB hacc).gc2 flat_e5 (I 0) rfl
end Go.Proofs.Ytmblehbjedpjoaa

namespace Go.Proofs.Ytmblehbjedpjoaa
open Go Go.Eng
theorem NF.nil {A H : AHeap} (h : A <+: H) : NF A H (.agg [.nilS, .nilS]) [] [] := ⟨A, .nilS, .nilS, [], List.prefix_refl _, h, L1_nil _, NL.nil h, rfl, rfl⟩
theorem lists_set {ws : List (AV × List Int)} {i : Nat} {z : AV} {r : List Int} : lists (ws.set i (z, r)) = (lists ws).set i r := List.map_set
section
variable {L : List Int} {ws : List (AV × List Int)} {x y : AV} {A : AHeap}
end
end Go.Proofs.Ytmblehbjedpjoaa

namespace Go.Proofs.Ytmblehbjedpjoaa
open Go Go.Eng
/-- What stands at a place of a list that is half turned. -/
def hrev {α : Type} (xs zs : List α) (i : Nat) : Prop := zs.length = xs.length ∧ ∀ k, k < xs.length → zs[k]? = if k < i ∨ xs.length - 1 - i < k then xs[xs.length - 1 - k]? else xs[k]?
theorem hrev_0 {α : Type} (xs : List α) : hrev xs xs 0 := ⟨rfl, fun k hk => by rw [if_neg (by omega)]⟩
theorem hrev_end {α : Type} {xs zs : List α} {i : Nat} (h : hrev xs zs i) (hi : xs.length ≤ 2 * i + 1) : zs = xs.reverse := by
  refine List.ext_getElem? (fun k => ?_)
  by_cases hk : k < xs.length
  · rw [h.2 k hk, List.getElem?_reverse hk]
    split
    · rfl
    · have : xs.length - 1 - k = k := by omega
      rw [this]
  · rw [List.getElem?_eq_none (by rw [h.1]; omega), List.getElem?_eq_none (by simp; omega)]
theorem hrev_step {α : Type} {xs zs : List α} {i : Nat} (h : hrev xs zs i) (hi : 2 * i + 1 < xs.length) {a b : α} (ha : zs[i]? = some a) (hb : zs[xs.length - 1 - i]? = some b) :
    hrev xs ((zs.set i b).set (xs.length - 1 - i) a) (i + 1) := by
  refine ⟨by simp [h.1], fun k hk => ?_⟩
  have h1 := h.2 i (by omega)
  rw [if_neg (by omega), ha] at h1
  have h2 := h.2 (xs.length - 1 - i) (by omega)
  rw [if_neg (by omega), hb] at h2
  by_cases hk1 : k = xs.length - 1 - i
  · subst hk1
    rw [List.getElem?_set_self (by simp [h.1]; omega), if_pos (by omega), h1]
    congr 1
    omega
  · rw [List.getElem?_set_ne (Ne.symm hk1)]
    by_cases hk2 : k = i
    · subst hk2
      rw [List.getElem?_set_self (by rw [h.1]; omega), if_pos (by omega), h2]
    · rw [List.getElem?_set_ne (Ne.symm hk2), h.2 k hk]
      by_cases h3 : k < i ∨ xs.length - 1 - i < k
      · rw [if_pos h3, if_pos (by omega)]
      · rw [if_neg h3, if_neg (by omega)]
theorem NL_setb {B H : AHeap} {v : AV} {ws : List (AV × List Int)} (h : NL B H v ws) {m : Nat} (hm : m < B.length) (o : AObj) : NL (B.set m o) (H.set m o) v ws := by
  refine ⟨AccL_set h.acc hm o, fun x hx => ⟨?_⟩, h.apart⟩
  rcases (h.rows x hx).row with h1 | ⟨n, full, cs, g1, g2, g3, g4⟩
  · exact .inl h1
  · refine .inr ⟨n, full, cs, g1, by rw [List.length_set]; exact g2, ?_, g4⟩
    rw [List.getElem?_set, if_neg (by omega)]
    exact g3
theorem s92T {x y : AV} {L : List Int} {ws : List (AV × List Int)} {A : AHeap} (hL : L1 A x L) (hV : LL A y ws) (hl : L.length ≤ 1000000) (hs : ws.length ≤ 1000000) (hw : ∀ w ∈ ws, w.2.length ≤ 1000000) (h0 : 1 ≤ L.length) (hw0 : ∀ w ∈ ws, 1 ≤ w.2.length) :
    ∃ r H', ACalls Try.prog 92 [.agg [x, y]] A r H' ∧ ∃ H1 n1 full u ws1, A <+: H1 ∧ A.length ≤ n1 ∧ H1[n1]? = some (.cells true (L.flatMap e1)) ∧ r = .agg [.sl 1 n1 0 L.length full, u] ∧ NL H1 H' u ws1 ∧ lists ws1 = lists ws := by
  refine acallsR hmix Try.func92 (by kernel_rfl) t92 _ 1 rfl (by decide) ?_
  obtain ⟨r1, H1, hc1, n1, full1, hp1, hle1, rfl, hg1⟩ := c_Clone hL (Ls_nn hL h0) hl
  have hx1 := row_l1 (A := A) (full := full1) hg1
  have hV1 := hV.mono hp1
  dsimp only [m92]
  simp (maxSteps := 4000000) -implicitDefEqProofs -dsimp (disch := omega) only [↓AW_ops, ↓AW_seq, ↓AOps_nil, ↓AOps_pu, ↓AOps_call, on_some, ↓then_normal, pval, rd_S, rd_C, put_S, chkd, isAdr, bgot, cells_agg, partA, eq_self, List.replicate_succ, List.replicate_zero, List.set_cons_zero, List.set_cons_succ, List.getElem?_cons_zero, List.getElem?_cons_succ, List.drop_zero, List.take_zero, List.take_succ_cons, Option.getD_some, map_c, map_n, List.length_cons, List.length_nil, Nat.reduceAdd, Nat.reduceSub, Nat.reduceLeDiff, Nat.zero_add, List.cons_append, List.nil_append, if_true, if_false, Bool.false_eq_true]
  refine CallK.of hc1 ?_
  simp (maxSteps := 4000000) -implicitDefEqProofs -dsimp (disch := omega) only [↓AW_ops, ↓AW_seq, ↓AW_block, ↓AOps_nil, ↓AOps_pu, on_some, extK_false, ↓then_normal, pval, rd_S, rd_C, put_S, ↓AW_toLoop, chkd, isAdr, bput, bgot, cells_agg, cells_sl, splice, partA, fillA, eq_self, List.replicate_succ, List.replicate_zero, List.set_cons_zero, List.set_cons_succ, List.getElem?_cons_zero, List.getElem?_cons_succ, List.drop_zero, List.drop_succ_cons, List.drop_nil, List.take_zero, List.take_succ_cons, List.take_nil, Option.getD_some, Option.map_some, map_c, map_n, List.length_cons, List.length_nil, Nat.reduceAdd, Nat.reduceSub, Nat.reduceLeDiff, Nat.zero_add, List.cons_append, List.nil_append, List.append_nil, if_true, if_false, Bool.false_eq_true, and_true, ne_eq, not_true_eq_false, hV1.ls.len]
  refine LoopK.by 26 (fun x : Nat × AV × AHeap × List (AV × List Int) => (x.1 ≤ ws.length ∧ x.2.2.2.length = x.1) ∧ NL H1 x.2.2.1 x.2.1 x.2.2.2 ∧ lists x.2.2.2 = (lists ws).take x.1)
    (fun z => [(2, .agg [.nilS, .nilS]), (3, .agg [.sl 1 n1 0 L.length full1, z.2.1]), (11, y), (12, I ws.length), (13, I z.1)]) (fun x => x.2.2.1) (fun x => ws.length - x.1) (0, .nilS, H1, []) ⟨⟨by simp only; omega, rfl⟩, NL.nil (List.prefix_refl _), by simp⟩ rfl (by simp [Has, rd_s]) rfl ?_
  rintro ⟨i, u, H2, ws1⟩ ⟨⟨hi, hwl⟩, hnl, hli⟩
  simp only at hi hwl hnl hli
  have hw1 := hV1.mono hnl.acc.1
  have hll : (lists ws).length = ws.length := by simp
  by_cases hlt : i < ws.length
  · obtain ⟨z, hz⟩ : ∃ z, ws[i]? = some z := ⟨_, List.getElem?_eq_getElem hlt⟩
    have hlt' : (i : Int) < ws.length := by omega
    have hm := List.mem_of_getElem? hz
    have hx := hw1.inn z hm
    have hx2 := hw z hm
    have hA0 := hV1.pos (by omega)
    obtain ⟨r2, H3, hc2, n, full, hp2, hn, rfl, hg2⟩ := c_Clone hx (Ls_nn hx (hw0 z hm)) hx2
    obtain ⟨v3, H4, happ, h3⟩ := (hnl.mono hp2).push (.sl 1 n 0 z.2.length full, z.2) (.inr ⟨n, full, [], rfl, Nat.le_trans hnl.acc.1.length_le hn, hg2, nm_ne_nil hnl hn hA0, fun y hy => (hnl.lt.1 y hy).imp id (fun h => by omega)⟩) (by simp [lim]; omega)
    simp only at happ
    have hv3c : v3.cells? = some [v3] := Ls_cells (AccL_ls h3.acc e0_len)
    simp (maxSteps := 4000000) -implicitDefEqProofs -dsimp (disch := omega) only [↓AW_skip, ↓AW_ops, ↓AW_seq, ↓AW_cond, ↓AW_block, ↓AOps_nil, ↓AOps_pu, ↓AOps_ld, ↓AOps_call, on_some, condB_t, ↓then_normal, pval, lval, rd_S, put_S, chkd, isAdr, bgot, cells_agg, partA, eq_self, mk, List.foldl_cons, List.foldl_nil, List.replicate_succ, List.replicate_zero, List.set_cons_zero, List.set_cons_succ, List.getElem?_cons_zero, List.getElem?_cons_succ, List.drop_zero, List.drop_succ_cons, List.take_succ_cons, List.take_nil, Option.getD_some, map_c, map_n, List.length_cons, List.length_nil, Nat.reduceAdd, Nat.reduceLeDiff, Nat.zero_add, bin_lss, if_true, if_false, Bool.false_eq_true, decide_true, hlt', hw1.ls.idx hlt, hw1.ls.ld0 hz 1 false (by decide), e0]
    refine CallK.of hc2 ?_
    simp (maxSteps := 4000000) -implicitDefEqProofs -dsimp (disch := omega) only [↓AW_ops, ↓AOps_nil, ↓AOps_pu, ↓AOps_ha, on_some, extK_false, extK_app, ↓then_normal, ↓inBlock_normal, pval, hval_blds, hval_app, rd_S, rd_C, put_S, chkd, isAdr, bput, cells_agg, cells_sl, splice, fillA, repl, eq_self, mk, List.foldl_cons, List.foldl_nil, List.replicate_succ, List.replicate_zero, List.set_cons_zero, List.set_cons_succ, List.getElem?_cons_zero, List.getElem?_cons_succ, List.drop_succ_cons, List.drop_nil, List.take_zero, List.take_succ_cons, Option.getD_some, map_c, map_n, List.length_cons, List.length_nil, Nat.reduceAdd, Nat.reduceLeDiff, Nat.zero_add, List.cons_append, List.nil_append, List.append_nil, bin_add, w64, if_true, if_false, true_and, and_true, ne_eq, not_true_eq_false, happ, hv3c]
    refine ⟨(i + 1, v3, H4, ws1 ++ [(.sl 1 n 0 z.2.length full, z.2)]), ⟨⟨hlt, by simp [hwl]⟩, h3, ?_⟩, by simp [Has, rd_s], rfl, by simp only; omega⟩
    simp only [lists, List.map_append, List.map_cons, List.map_nil]
    rw [List.take_add_one, show List.map Prod.snd ws1 = (lists ws).take i from hli, ws_get hz]
    rfl
  · have hlt' : ¬ ((i : Int) < ws.length) := by omega
    rw [List.take_of_length_le (by omega)] at hli
    simp (maxSteps := 4000000) -implicitDefEqProofs -dsimp (disch := omega) only [↓AW_ops, ↓AW_seq, ↓AW_cond, ↓AW_exit, ↓AW_ret, ↓AOps_nil, ↓AOps_pu, on_some, condB_f, ↓then_normal, ↓then_exit, ↓inBlock_exit, ↓FinR_ret, pval, rd_S, put_S, resV, resL, chkd, bput, bgot, cells_agg, splice, partA, eq_self, mk, List.foldl_cons, List.foldl_nil, List.replicate_succ, List.replicate_zero, List.set_cons_zero, List.set_cons_succ, List.getElem?_cons_zero, List.getElem?_cons_succ, List.drop_zero, List.drop_succ_cons, List.drop_nil, List.take_zero, List.take_succ_cons, List.take_nil, Option.getD_some, List.length_cons, List.length_nil, Nat.reduceAdd, Nat.reduceLeDiff, Nat.reduceEqDiff, Nat.zero_add, List.nil_append, List.append_nil, bin_lss, if_true, if_false, decide_false, ne_eq, not_true_eq_false, hlt']
    exact ⟨_, _, gc_all, H1, n1, full1, u, ws1, hp1, hle1, by simpa using hg1, rfl, hnl, hli⟩
/-- One row is turned in its place. -/
theorem c_RevRow {B H : AHeap} {u : AV} {ws : List (AV × List Int)} {i : Nat} {r : AV × List Int} (h : NL B H u ws) (hz : ws[i]? = some r) (hl : r.2.length ≤ 1000000) :
    ∃ v H', ACalls Try.prog 93 [r.1] H v H' ∧ NL B H' u (ws.set i (r.1, r.2.reverse)) := by
  refine acallsR hmix Try.func93 (by kernel_rfl) t93 _ 1 rfl (by decide) ?_
  have hil := (List.getElem?_eq_some_iff.1 hz).1
  have hx := (h.rows r (List.mem_of_getElem? hz)).l1
  dsimp only [m93]
  simp (maxSteps := 4000000) -implicitDefEqProofs -dsimp (disch := omega) only [↓AW_ops, ↓AW_seq, ↓AW_block, ↓AOps_nil, ↓AOps_pu, on_some, ↓then_normal, pval, rd_S, rd_C, put_S, ↓AW_toLoop, List.replicate_succ, List.replicate_zero, List.set_cons_zero, List.set_cons_succ, List.getElem?_cons_zero, List.getElem?_cons_succ, Option.getD_some, Nat.reduceSub, List.cons_append, List.nil_append, bin_sub, w64, hx.len]
  refine LoopK.by 28 (fun x : Nat × List Int × AHeap => (2 * x.1 ≤ r.2.length + 1 ∧ hrev r.2 x.2.1 x.1) ∧ NL B x.2.2 u (ws.set i (r.1, x.2.1))) (fun x => [(0, r.1), (2, I x.1), (3, I ((r.2.length : Int) - 1 - x.1))]) (fun x => x.2.2) (fun x => r.2.length - x.1) (0, r.2, H) ⟨⟨by simp only; omega, hrev_0 _⟩, by rw [set_fst hz]; exact h⟩ rfl (by simp [Has, rd_s]) rfl ?_
  rintro ⟨k, zs, H1⟩ ⟨⟨hi, hzr⟩, hn⟩
  simp only at hi hzr hn
  have hz1 : (ws.set i (r.1, zs))[i]? = some (r.1, zs) := List.getElem?_set_self hil
  have hx1 : L1 H1 r.1 zs := (hn.rows _ (List.mem_of_getElem? hz1)).l1
  by_cases hlt : (k : Int) < (r.2.length : Int) - 1 - k
  · have hjl : r.2.length - 1 - k < zs.length := by rw [hzr.1]; omega
    have hkl : k < zs.length := by rw [hzr.1]; omega
    have hj : (r.2.length : Int) - 1 - k = ((r.2.length - 1 - k : Nat) : Int) := by omega
    obtain ⟨a, ha⟩ : ∃ a, zs[k]? = some a := ⟨_, List.getElem?_eq_getElem hkl⟩
    obtain ⟨b, hb⟩ : ∃ b, zs[r.2.length - 1 - k]? = some b := ⟨_, List.getElem?_eq_getElem hjl⟩
    have hlt' := hlt
    rw [hj] at hlt'
    obtain ⟨H2, h1, hn2⟩ := hn.st hz1 hkl b
    rw [List.set_set] at hn2
    have hz2 : (ws.set i (r.1, zs.set k b))[i]? = some (r.1, zs.set k b) := List.getElem?_set_self hil
    obtain ⟨H3, h2, hn3⟩ := hn2.st hz2 (k := r.2.length - 1 - k) (by simpa using hjl) a
    rw [List.set_set] at hn3
    simp only at h1 h2 hn3
    have hst := hrev_step hzr (by omega) ha hb
    generalize hJ : r.2.length - 1 - k = j at *
    simp (maxSteps := 4000000) -implicitDefEqProofs -dsimp (disch := omega) only [↓AW_skip, ↓AW_ops, ↓AW_seq, ↓AW_cond, ↓AW_block, ↓AOps_nil, ↓AOps_pu, ↓AOps_ld, ↓AOps_ha, on_some, extK_false, condB_t, ↓then_normal, ↓inBlock_normal, pval, lval, hval_st, rd_S, rd_C, put_S, putS_none, partA, eq_self, mk, List.foldl_cons, List.foldl_nil, List.replicate_succ, List.replicate_zero, List.set_cons_zero, List.set_cons_succ, List.getElem?_cons_zero, List.getElem?_cons_succ, List.drop_zero, List.take_succ_cons, List.take_nil, Option.getD_some, Option.map_some, List.length_cons, List.length_nil, Nat.reduceAdd, Nat.reduceLeDiff, Nat.zero_add, bin_add, bin_sub, bin_lss, w64, if_true, if_false, Bool.false_eq_true, decide_true, Go.Eng.e1, true_and, hj, hlt', hx1.idx hkl, hx1.idx hjl, hx1.ld0 ha 1 false (by decide), hx1.ld0 hb 1 false (by decide), h1, h2]
    refine ⟨(k + 1, _, H3), ⟨⟨by simp only; omega, hst⟩, hn3⟩, by simp [Has, rd_s]; omega, rfl, by simp only; omega⟩
  · have he := hrev_end hzr (by omega)
    simp (maxSteps := 4000000) -implicitDefEqProofs -dsimp (disch := omega) only [↓AW_ops, ↓AW_seq, ↓AW_cond, ↓AW_exit, ↓AOps_nil, ↓AOps_pu, on_some, condB_f, ↓then_normal, ↓then_exit, ↓inBlock_exit, ↓FinR_normal, pval, rd_S, put_S, resV, resL, eq_self, mk, List.foldl_cons, List.foldl_nil, List.replicate_succ, List.replicate_zero, List.set_cons_zero, List.set_cons_succ, List.getElem?_cons_zero, List.getElem?_cons_succ, Option.getD_some, bin_lss, if_true, decide_false, hlt]
    rw [he] at hn
    exact ⟨_, _, gc_all, hn⟩
theorem c_Reverse {xs : List Int} {v : AV} {A H : AHeap} {n : Nat} (h : OL 1 e1 A H n v xs) (hl : xs.length ≤ 1000000) : ACalls Try.prog 93 [v] H (.tuple []) (H.set n (.cells true (xs.reverse.flatMap e1))) := by
  refine acalls hmix Try.func93 (by kernel_rfl) t93 1 rfl (by decide) ?_
  dsimp only [m93]
  simp (maxSteps := 4000000) -implicitDefEqProofs -dsimp (disch := omega) only [↓AW_ops, ↓AW_seq, ↓AW_block, ↓AOps_nil, ↓AOps_pu, on_some, ↓then_normal, pval, rd_S, rd_C, put_S, ↓AW_toLoop, List.replicate_succ, List.replicate_zero, List.set_cons_zero, List.set_cons_succ, List.getElem?_cons_zero, List.getElem?_cons_succ, Option.getD_some, Nat.reduceSub, List.cons_append, List.nil_append, bin_sub, w64, h.ls.len]
  refine LoopK.by 28 (fun x : Nat × List Int => (2 * x.1 ≤ xs.length + 1 ∧ hrev xs x.2 x.1)) (fun x => [(0, v), (2, I x.1), (3, I ((xs.length : Int) - 1 - x.1))]) (fun x => H.set n (.cells true (x.2.flatMap e1))) (fun x => xs.length - x.1) (0, xs) ⟨by simp only; omega, hrev_0 xs⟩ rfl (by simp [Has, rd_s]) (by simp only; rw [set_same h.ob]) ?_
  rintro ⟨i, zs⟩ ⟨hi, hz⟩
  simp only at hi hz
  have ho := OL_setAll h zs hz.1
  by_cases hlt : (i : Int) < (xs.length : Int) - 1 - i
  · have hin : i < xs.length := by omega
    have hjl : xs.length - 1 - i < zs.length := by rw [hz.1]; omega
    have hil : i < zs.length := by rw [hz.1]; omega
    have hj : (xs.length : Int) - 1 - i = ((xs.length - 1 - i : Nat) : Int) := by omega
    obtain ⟨a, ha⟩ : ∃ a, zs[i]? = some a := ⟨_, List.getElem?_eq_getElem hil⟩
    obtain ⟨b, hb⟩ : ∃ b, zs[xs.length - 1 - i]? = some b := ⟨_, List.getElem?_eq_getElem hjl⟩
    have hlt' := hlt
    rw [hj] at hlt'
    have h1 := ho.st hil (I b) b rfl
    rw [List.set_set] at h1
    have ho2 := OL_setAll h (zs.set i b) (by simp [hz.1])
    have hjl2 : xs.length - 1 - i < (zs.set i b).length := by simpa using hjl
    have h2 := ho2.st hjl2 (I a) a rfl
    rw [List.set_set] at h2
    have hst := hrev_step hz (by omega) ha hb
    generalize hJ : xs.length - 1 - i = j at *
    simp (maxSteps := 4000000) -implicitDefEqProofs -dsimp (disch := omega) only [↓AW_skip, ↓AW_ops, ↓AW_seq, ↓AW_cond, ↓AW_block, ↓AOps_nil, ↓AOps_pu, ↓AOps_ld, ↓AOps_ha, on_some, extK_false, condB_t, ↓then_normal, ↓inBlock_normal, pval, lval, hval_st, rd_S, rd_C, put_S, putS_none, partA, eq_self, mk, List.foldl_cons, List.foldl_nil, List.replicate_succ, List.replicate_zero, List.set_cons_zero, List.set_cons_succ, List.getElem?_cons_zero, List.getElem?_cons_succ, List.drop_zero, List.take_succ_cons, List.take_nil, Option.getD_some, Option.map_some, List.length_cons, List.length_nil, Nat.reduceAdd, Nat.reduceLeDiff, Nat.zero_add, bin_add, bin_sub, bin_lss, w64, if_true, if_false, Bool.false_eq_true, decide_true, Go.Eng.e1, true_and, hj, hlt', ho.ls.idx hil, ho.ls.idx hjl, ho.ls.ld0 ha 1 false (by decide), ho.ls.ld0 hb 1 false (by decide), h1, h2]
    refine ⟨(i + 1, _), ⟨by simp only; omega, hst⟩, by simp [Has, rd_s]; omega, rfl, by simp only; omega⟩
  · have he := hrev_end hz (by omega)
    simp (maxSteps := 4000000) -implicitDefEqProofs -dsimp (disch := omega) only [↓AW_ops, ↓AW_seq, ↓AW_cond, ↓AW_exit, ↓AOps_nil, ↓AOps_pu, on_some, condB_f, ↓then_normal, ↓then_exit, ↓inBlock_exit, ↓Fin_normal, pval, rd_S, put_S, resV, resL, eq_self, mk, List.foldl_cons, List.foldl_nil, List.replicate_succ, List.replicate_zero, List.set_cons_zero, List.set_cons_succ, List.getElem?_cons_zero, List.getElem?_cons_succ, Option.getD_some, bin_lss, if_true, decide_false, hlt]
    rw [he] at ho ⊢
    exact gc_same_all rfl rfl
theorem low_set_get {ws : List (AV × List Int)} {i : Nat} {r : AV × List Int} {V : List (List Int)} (h : lists ws = low List.reverse V i) (hz : ws[i]? = some r) : V[i]? = some r.2 := by
  have h1 : (lists ws)[i]? = some r.2 := ws_get hz
  rw [h] at h1
  have hiV : i < V.length := by
    rcases Nat.lt_or_ge i V.length with h2 | h2
    · exact h2
    · exfalso
      have := (List.getElem?_eq_some_iff.1 h1).1
      simp [low] at this
      omega
  obtain ⟨z, hz2⟩ : ∃ z, V[i]? = some z := ⟨_, List.getElem?_eq_getElem hiV⟩
  have := low_get (f := List.reverse) hz2
  rw [this] at h1
  rw [hz2, ← h1]
section
variable {L : List Int} {ws : List (AV × List Int)} {x y : AV} {A : AHeap}
theorem s38 (hL : L1 A x L) (hV : LL A y ws) (hs : Sz L ws) (hg : KG L (lists ws)) :
    ∃ r H', ACalls Try.prog 38 [.agg [x, y]] A r H' ∧ ∃ x' y' ws', r = .tuple [.agg [x', y'], I 0] ∧ A <+: H' ∧ L1 H' x' L.reverse ∧ LL H' y' ws' ∧ lists ws' = (lists ws).map List.reverse := by
  refine acallsR hmix Try.func38 (by kernel_rfl) t38 _ 1 rfl (by decide) ?_
  have hl1 := hg.l1
  have h0 := hg.e
  have hsv := hs.v
  obtain ⟨r1, H0, hc0, H1, n1, full1, u, ws1, hp1, hle1, hg1, rfl, hn1, hw1⟩ := s92T hL hV hs.l hs.v hs.w hl1 (fun w hw => by have := hg.rl _ (mem_lists hw); omega)
  dsimp only [m38]
  simp (maxSteps := 4000000) -implicitDefEqProofs -dsimp (disch := omega) only [↓AW_ops, ↓AW_seq, ↓AOps_nil, ↓AOps_pu, ↓AOps_call, on_some, ↓then_normal, pval, rd_S, rd_C, put_S, chkd, bgot, cells_agg, partA, eq_self, List.replicate_succ, List.replicate_zero, List.set_cons_zero, List.set_cons_succ, List.getElem?_cons_zero, List.getElem?_cons_succ, List.drop_zero, List.take_succ_cons, List.take_nil, Option.getD_some, map_c, map_n, List.length_cons, List.length_nil, Nat.reduceAdd, Nat.reduceSub, Nat.reduceLeDiff, Nat.reduceEqDiff, Nat.zero_add, List.cons_append, List.nil_append, if_true, if_false]
  refine CallK.of (s26 hL hV hs.l hs.v hs.w) ?_
  simp (maxSteps := 4000000) -implicitDefEqProofs -dsimp (disch := omega) only [↓AW_skip, ↓AW_ops, ↓AW_seq, ↓AW_cond, ↓AOps_nil, ↓AOps_pu, ↓AOps_call, on_some, extK_same, condB_f, ↓then_normal, pval, rd_S, rd_C, put_S, chkd, bgot, partA, eq_self, List.replicate_succ, List.replicate_zero, List.set_cons_zero, List.set_cons_succ, List.getElem?_cons_zero, List.getElem?_cons_succ, List.drop_zero, List.take_succ_cons, List.take_nil, Option.getD_some, map_c, map_n, List.length_cons, List.length_nil, Nat.reduceAdd, Nat.reduceSub, Nat.reduceLeDiff, Nat.reduceEqDiff, Nat.zero_add, List.cons_append, List.nil_append, bin_neq, if_true, if_false, decide_false, not_true_eq_false, h0]
  refine CallK.of hc0 ?_
  have hlt1 : n1 < H1.length := (List.getElem?_eq_some_iff.1 hg1).1
  have hOL : OL 1 e1 A H0 n1 (.sl 1 n1 0 L.length full1) L := ⟨e1_len, hp1.trans hn1.acc.1, hle1, pre_get hn1.acc.1 hg1, full1, rfl⟩
  simp (maxSteps := 4000000) -implicitDefEqProofs -dsimp (disch := omega) only [↓AW_ops, ↓AW_seq, ↓AOps_nil, ↓AOps_pu, ↓AOps_call, on_some, extK_false, ↓then_normal, pval, rd_S, rd_C, put_S, chkd, isAdr, bput, bgot, cells_agg, splice, partA, eq_self, List.replicate_succ, List.replicate_zero, List.set_cons_zero, List.set_cons_succ, List.getElem?_cons_zero, List.getElem?_cons_succ, List.drop_zero, List.drop_succ_cons, List.drop_nil, List.take_zero, List.take_succ_cons, Option.getD_some, map_c, map_n, List.length_cons, List.length_nil, Nat.reduceAdd, Nat.reduceSub, Nat.reduceLeDiff, Nat.zero_add, List.cons_append, List.nil_append, List.append_nil, if_true, if_false, Bool.false_eq_true, ne_eq, not_true_eq_false]
  refine CallK.of (c_Reverse hOL (by have := hs.l; omega)) ?_
  have hn2 := NL_setb hn1 hlt1 (.cells true (L.reverse.flatMap e1))
  have hwl : ws1.length = ws.length := by have := congrArg List.length hw1; simpa using this
  have hll : (lists ws).length = ws.length := by simp
  simp (maxSteps := 4000000) -implicitDefEqProofs -dsimp (disch := omega) only [↓AW_ops, ↓AW_seq, ↓AW_block, ↓AOps_nil, ↓AOps_pu, on_some, extK_false, ↓then_normal, pval, rd_S, rd_C, put_S, ↓AW_toLoop, chkd, isAdr, bgot, cells_agg, partA, eq_self, List.replicate_succ, List.replicate_zero, List.set_cons_zero, List.set_cons_succ, List.getElem?_cons_zero, List.getElem?_cons_succ, List.drop_zero, List.drop_succ_cons, List.take_succ_cons, List.take_nil, Option.getD_some, List.length_cons, List.length_nil, Nat.reduceAdd, Nat.reduceSub, Nat.reduceLeDiff, Nat.zero_add, List.cons_append, List.nil_append, if_true, if_false, Bool.false_eq_true, hn2.ll.ls.len]
  have hpB : A <+: H1.set n1 (.cells true (L.reverse.flatMap e1)) := pre_set hp1 hle1 _
  have hB1 : (H1.set n1 (.cells true (L.reverse.flatMap e1)))[n1]? = some (.cells true (L.reverse.flatMap e1)) := List.getElem?_set_self hlt1
  generalize H1.set n1 (.cells true (L.reverse.flatMap e1)) = B at *
  generalize List.set H0 n1 (.cells true (L.reverse.flatMap e1)) = H2 at *
  refine LoopK.by 30 (fun x : Nat × AHeap × List (AV × List Int) => (x.1 ≤ ws.length ∧ x.2.2.length = ws.length) ∧ NL B x.2.1 u x.2.2 ∧ lists x.2.2 = low List.reverse (lists ws) x.1)
    (fun z => [(2, .agg [.nilS, .nilS]), (5, .agg [.sl 1 n1 0 L.length full1, u]), (20, u), (21, I ws.length), (22, I z.1)]) (fun x => x.2.1) (fun x => ws.length - x.1) (0, H2, ws1) ⟨⟨by simp only; omega, hwl⟩, hn2, by rw [low_0]; exact hw1⟩ rfl (by simp [Has, rd_s, hwl]) rfl ?_
  rintro ⟨i, H3, ws3⟩ ⟨⟨hi, hw3⟩, hn3, hl3⟩
  simp only at hi hw3 hn3 hl3
  by_cases hlt : i < ws.length
  · have hlt' : (i : Int) < ws.length := by omega
    have hlt3 : i < ws3.length := by omega
    obtain ⟨z, hz⟩ : ∃ z, ws3[i]? = some z := ⟨_, List.getElem?_eq_getElem hlt3⟩
    have hVi := low_set_get hl3 hz
    have hzl : z.2.length ≤ 1000000 := by
      have := hg.rl _ (List.mem_of_getElem? hVi)
      have := hs.l
      omega
    obtain ⟨v4, H4, hc4, hn4⟩ := c_RevRow hn3 hz hzl
    simp (maxSteps := 4000000) -implicitDefEqProofs -dsimp (disch := omega) only [↓AW_skip, ↓AW_ops, ↓AW_seq, ↓AW_cond, ↓AW_block, ↓AOps_nil, ↓AOps_pu, ↓AOps_ld, ↓AOps_call, on_some, condB_t, ↓then_normal, pval, lval, rd_S, put_S, partA, eq_self, mk, List.foldl_cons, List.foldl_nil, List.replicate_succ, List.replicate_zero, List.set_cons_zero, List.set_cons_succ, List.getElem?_cons_zero, List.getElem?_cons_succ, List.drop_zero, List.take_succ_cons, List.take_nil, Option.getD_some, map_c, map_n, List.length_cons, List.length_nil, Nat.reduceLeDiff, Nat.zero_add, bin_lss, if_true, if_false, Bool.false_eq_true, decide_true, hlt', hn3.ll.ls.idx hlt3, hn3.ll.ls.ld0 hz 1 false (by decide), e0]
    refine CallK.of hc4 ?_
    simp (maxSteps := 4000000) -implicitDefEqProofs -dsimp (disch := omega) only [↓AW_ops, ↓AOps_nil, ↓AOps_pu, on_some, extK_false, ↓then_normal, ↓inBlock_normal, pval, rd_S, rd_C, put_S, eq_self, mk, List.foldl_cons, List.foldl_nil, List.replicate_succ, List.replicate_zero, List.set_cons_zero, List.set_cons_succ, List.getElem?_cons_zero, List.getElem?_cons_succ, Option.getD_some, List.length_cons, List.length_nil, Nat.reduceAdd, Nat.zero_add, bin_add, w64, true_and]
    refine ⟨(i + 1, H4, ws3.set i (z.1, z.2.reverse)), ⟨⟨hlt, by simp [hw3]⟩, hn4, ?_⟩, by simp [Has, rd_s], rfl, by simp only; omega⟩
    simp only
    rw [lists_set, hl3, low_set hVi]
  · have hlt' : ¬ ((i : Int) < ws.length) := by omega
    have hii : i = ws.length := by omega
    subst hii
    rw [← hll, low_all] at hl3
    simp (maxSteps := 4000000) -implicitDefEqProofs -dsimp (disch := omega) only [↓AW_ops, ↓AW_seq, ↓AW_cond, ↓AW_exit, ↓AW_ret, ↓AOps_nil, ↓AOps_pu, on_some, condB_f, ↓then_normal, ↓then_exit, ↓inBlock_exit, ↓FinR_ret, pval, rd_S, rd_C, put_S, resV, resL, chkd, bput, bgot, cells_agg, splice, partA, eq_self, mk, List.foldl_cons, List.foldl_nil, List.replicate_succ, List.replicate_zero, List.set_cons_zero, List.set_cons_succ, List.getElem?_cons_zero, List.getElem?_cons_succ, List.drop_zero, List.drop_succ_cons, List.drop_nil, List.take_zero, List.take_succ_cons, List.take_nil, Option.getD_some, List.length_cons, List.length_nil, Nat.reduceAdd, Nat.reduceLeDiff, Nat.reduceEqDiff, Nat.zero_add, List.nil_append, List.append_nil, bin_lss, if_true, if_false, decide_false, ne_eq, not_true_eq_false, hlt']
    refine ⟨_, _, gc_all, .sl 1 n1 0 L.length full1, u, ws3, rfl, hpB.trans hn3.acc.1, ?_, hn3.ll, hl3⟩
    have := row_l1 (A := A) (xs := L.reverse) (full := full1) (H := H3) (n := n1) (by rw [List.append_nil]; exact pre_get hn3.acc.1 hB1)
    rwa [List.length_reverse] at this
end
end Go.Proofs.Ytmblehbjedpjoaa

