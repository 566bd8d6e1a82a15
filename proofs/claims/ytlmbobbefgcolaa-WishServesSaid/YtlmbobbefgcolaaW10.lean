/- Wishes: the most, and who is served. No conditions. -/
import Derived.Test.YtlmbobbefgcolaaW9
namespace Go.Proofs.Ytlmbobbefgcolaa
open Go Go.Eng

theorem ren_old {α : Type} {es : Nat} {e : α → List AV} {A : AHeap} {v : AV} {xs : List α} (h : Ls es e A v xs) (f : Nat → Option Nat) (hf : ∀ k, k < A.length → f k = some k) (d : Nat) : ren f (d + 1) v = v := by
  rcases h.inv with ⟨rfl, _⟩ | ⟨n, off, full, rw, l, rfl, h1, _⟩
  · rfl
  · have := hf n (List.getElem?_eq_some_iff.1 h1).1
    simp [ren, this]

theorem gc_agg3 {α : Type} {es : Nat} {e : α → List AV} {A H : AHeap} {v : AV} {xs : List α} (P : Int) (hv : Ls es e A v xs) (hp : A <+: H) {m k : Nat} {cs : List AV} (hm : A.length ≤ m) (ho : H[m]? = some (.cells true cs)) (hf : ∀ x ∈ cs, flat x = true) :
    GC A (.agg [I P, v, .sl 1 m 0 k false]) H (.agg [I P, v, .sl 1 A.length 0 k false]) (A ++ [.cells true cs]) := by
  have hk := Keep.add (keep_old hp) (n := m) (o := .cells true cs) hm (by simp; omega) ho
  simp only [renO, ren_flats _ 3 cs hf] at hk
  refine gc_keep hk ?_
  have hr := ren_old hv (fun j => if j = m then some A.length else if j < A.length then some j else none) (fun j hj => by simp [hj]; omega) 2
  simp [ren, hr]

theorem s83 {xs : List Int} {v : AV} {A : AHeap} (hx : L1 A v xs) (hn : v ≠ .nilS) (hl : xs.length ≤ 1000000) : ACalls Try.prog 83 [v] A (.sl 1 A.length 0 xs.length false) (A ++ [.cells true (xs.flatMap e1)]) := by
  refine acalls hmix Try.func83 (by kernel_rfl) t83 1 rfl (by decide) ?_
  rcases hx.inv with ⟨rfl, _⟩ | ⟨n, off, full, rw, l, rfl, h1, h2, h3⟩
  · exact absurd rfl hn
  · by_cases h0 : xs = []
    · subst h0
      have happ : appA 1 (A ++ [.cells true []]) (.sl 1 A.length 0 0 true) (.sl 1 n off 0 full) = some (.sl 1 A.length 0 0 true, A ++ [.cells true []]) := by
        have hc := (hx.mono (pre_app A [.cells true []])).hc
        rw [List.length_nil] at hc
        unfold appA
        rw [hc]
        simp
      dsimp only [m83]
      simp (maxSteps := 4000000) -implicitDefEqProofs -dsimp (disch := omega) only [↓AW_skip, ↓AW_ops, ↓AW_seq, ↓AW_cond, ↓AW_ret, ↓AOps_nil, ↓AOps_pu, ↓AOps_ha, on_some, extK_app, extK_same, condB_f, ↓then_normal, ↓Fin_ret, pval, hval_blds, hval_app, rd_S, rd_C, put_S, resV, resL, fillA, repl, List.replicate_succ, List.replicate_zero, List.set_cons_zero, List.set_cons_succ, List.getElem?_cons_zero, List.getElem?_cons_succ, Option.getD_some, map_n, List.length_nil, Nat.reduceSub, List.cons_append, List.nil_append, List.replicate_zero, repl, happ]
      exact OL_gcS (OL.new_mk e1_len A ([] : List Int) true) flat_e1
    · have hpos : 0 < xs.length := List.length_pos_iff.2 h0
      have happ : appA 1 (A ++ [.cells true []]) (.sl 1 A.length 0 0 true) (.sl 1 n off xs.length full) = some (.sl 1 (A ++ [AObj.cells true []]).length 0 (0 + xs.length) false, A ++ [.cells true []] ++ [.cells true (xs.flatMap e1)]) := by
        unfold appA
        rw [(hx.mono (pre_app A [.cells true []])).hc]
        have : xs.length ≠ 0 := by omega
        have h4 : 0 + xs.length ≤ lim := by simp [lim]; omega
        simp [this, lim]
        omega
      dsimp only [m83]
      simp (maxSteps := 4000000) -implicitDefEqProofs -dsimp (disch := omega) only [↓AW_skip, ↓AW_ops, ↓AW_seq, ↓AW_cond, ↓AW_ret, ↓AOps_nil, ↓AOps_pu, ↓AOps_ha, on_some, extK_app, condB_f, ↓then_normal, ↓Fin_ret, pval, hval_blds, hval_app, rd_S, rd_C, put_S, resV, resL, fillA, repl, List.replicate_succ, List.replicate_zero, List.set_cons_zero, List.set_cons_succ, List.getElem?_cons_zero, List.getElem?_cons_succ, Option.getD_some, map_n, Nat.reduceSub, Nat.zero_add, List.cons_append, List.nil_append, List.replicate_zero, repl, happ]
      refine OL_gcS (n := A.length + 1) ⟨e1_len, ?_, by omega, ?_, false, by simp⟩ flat_e1
      · exact (pre_app A _).trans (pre_app _ _)
      · rw [List.getElem?_append_right (by simp)]
        simp

theorem s62 {P : Int} {ws : List (AV × List Int)} {A : AHeap} {v u : AV} {g : List Int} (hv : Val P (lists ws)) (hw : LL A v ws) (hu : L1 A u g) (hun : u ≠ .nilS) (hg : Good P (lists ws) g) :
    ACalls Try.prog 62 [.agg [I P, v, u]] A (.agg [I P, v, .sl 1 A.length 0 ws.length false]) (A ++ [.cells true ((flF P (lists ws) g).flatMap e1)]) := by
  refine acalls hmix Try.func62 (by kernel_rfl) t62 1 rfl (by decide) ?_
  have hls : ∀ l ∈ lists ws, ∀ p ∈ l, inP P p := fun l hl => (hv.l l hl).1
  have hgl : g.length = ws.length := by simpa using hg.len
  have hn : ws.length ≤ 7 := by simpa using hv.n
  dsimp only [m62]
  simp (maxSteps := 4000000) -implicitDefEqProofs -dsimp (disch := omega) only [↓AW_ops, ↓AW_seq, ↓AOps_nil, ↓AOps_pu, ↓AOps_call, on_some, ↓then_normal, pval, rd_S, rd_C, put_S, chkd, isAdr, bgot, cells_agg, partA, eq_self, List.replicate_succ, List.replicate_zero, List.set_cons_zero, List.set_cons_succ, List.getElem?_cons_zero, List.getElem?_cons_succ, List.drop_zero, List.drop_succ_cons, List.take_succ_cons, List.take_nil, Option.getD_some, map_c, map_n, List.length_cons, List.length_nil, Nat.reduceAdd, Nat.reduceSub, Nat.reduceLeDiff, Nat.zero_add, List.cons_append, List.nil_append, if_true, if_false, Bool.false_eq_true]
  refine CallK.of (s83 hu hun (by omega)) ?_
  rw [hgl]
  have hlen : ∀ k, k ≤ ws.length → Good P (lists ws) ((List.range k).foldl (flStep P (lists ws)) g) := fun k hk => (fl_inv hls hg k (by simpa using hk)).1
  have hOL : ∀ k, k ≤ ws.length → OL 1 e1 A (A ++ [.cells true (((List.range k).foldl (flStep P (lists ws)) g).flatMap e1)]) A.length (.sl 1 A.length 0 ws.length false) ((List.range k).foldl (flStep P (lists ws)) g) := fun k hk => by
    have h := OL.new_mk e1_len A ((List.range k).foldl (flStep P (lists ws)) g) false
    have : ((List.range k).foldl (flStep P (lists ws)) g).length = ws.length := by simpa using (hlen k hk).len
    rwa [this] at h
  have hln : lenA (.sl 1 A.length 0 ws.length false) = some (I ws.length) := rfl
  simp (maxSteps := 4000000) -implicitDefEqProofs -dsimp (disch := omega) only [↓AW_ops, ↓AW_seq, ↓AW_block, ↓AOps_nil, ↓AOps_pu, on_some, extK_app, ↓then_normal, pval, rd_S, rd_C, put_S, ↓AW_toLoop, chkd, isAdr, bput, bgot, cells_agg, cells_sl, splice, partA, eq_self, List.replicate_succ, List.replicate_zero, List.set_cons_zero, List.set_cons_succ, List.getElem?_cons_zero, List.getElem?_cons_succ, List.drop_zero, List.drop_succ_cons, List.drop_nil, List.take_zero, List.take_succ_cons, List.take_nil, Option.getD_some, List.length_cons, List.length_nil, Nat.reduceAdd, Nat.reduceSub, Nat.reduceLeDiff, Nat.zero_add, List.cons_append, List.nil_append, List.append_nil, if_true, if_false, Bool.false_eq_true, ne_eq, not_true_eq_false, hln]
  refine LoopK.by 25 (fun i : Nat => i ≤ ws.length) (fun i => [(1, .agg [I P, v, .sl 1 A.length 0 ws.length false]), (2, .agg [.int .i64 0, .nilS, .nilS]), (10, I ws.length), (11, I i)]) (fun i => A ++ [.cells true (((List.range i).foldl (flStep P (lists ws)) g).flatMap e1)]) (fun i => ws.length - i) 0 (by omega) rfl (by simp [Has, rd_s]) rfl ?_
  intro i hi
  by_cases hlt : i < ws.length
  · have hlt' : (i : Int) < ws.length := by omega
    have ho := hOL i hi
    have hgi := hlen i hi
    have hstep : (List.range (i + 1)).foldl (flStep P (lists ws)) g = flStep P (lists ws) ((List.range i).foldl (flStep P (lists ws)) g) i := by rw [List.range_succ, List.foldl_append]; rfl
    generalize (List.range i).foldl (flStep P (lists ws)) g = gi at *
    have hgil : gi.length = ws.length := by simpa using hgi.len
    obtain ⟨z, hz⟩ : ∃ z, gi[i]? = some z := ⟨_, List.getElem?_eq_getElem (by omega)⟩
    have hhz := has_get hz
    by_cases h0 : z < 0
    · have hfs : flStep P (lists ws) gi i = (chF (lists ws) (P.toNat + 1) i (List.replicate P.toNat false, gi)).2.2 := by unfold flStep; rw [hhz, if_pos h0]
      simp (maxSteps := 4000000) -implicitDefEqProofs -dsimp (disch := omega) only [↓AW_skip, ↓AW_ops, ↓AW_seq, ↓AW_cond, ↓AW_block, ↓AOps_nil, ↓AOps_pu, ↓AOps_ld, ↓AOps_call, on_some, condB_t, ↓then_normal, pval, lval, rd_S, rd_C, put_S, chkd, isAdr, bgot, cells_agg, partA, eq_self, mk, List.foldl_cons, List.foldl_nil, List.replicate_succ, List.replicate_zero, List.set_cons_zero, List.set_cons_succ, List.getElem?_cons_zero, List.getElem?_cons_succ, List.drop_zero, List.drop_succ_cons, List.take_succ_cons, List.take_nil, Option.getD_some, map_c, map_n, List.length_cons, List.length_nil, Nat.reduceAdd, Nat.reduceLeDiff, Nat.reduceEqDiff, Nat.zero_add, bin_lss, if_true, if_false, Bool.false_eq_true, decide_true, Go.Eng.e1, hlt', ho.ls.idx (show i < gi.length by omega), ho.ls.ld0 hz 1 false (by decide), h0]
      have h92 := s92 hv hw ho hgi (i : Int) ⟨by omega, by omega⟩
      rw [set_new] at h92
      refine CallK.of h92 ?_
      simp (maxSteps := 4000000) -implicitDefEqProofs -dsimp (disch := omega) only [↓AW_ops, ↓AOps_nil, ↓AOps_pu, on_some, extK_false, ↓then_normal, ↓inBlock_normal, pval, rd_S, rd_C, put_S, eq_self, mk, List.foldl_cons, List.foldl_nil, List.replicate_succ, List.replicate_zero, List.set_cons_zero, List.set_cons_succ, List.getElem?_cons_zero, List.getElem?_cons_succ, Option.getD_some, List.length_cons, List.length_nil, Nat.reduceAdd, Nat.zero_add, bin_add, w64, true_and]
      exact ⟨i + 1, hlt, by simp [Has, rd_s], by rw [hstep, hfs], by omega⟩
    · have hfs : flStep P (lists ws) gi i = gi := by unfold flStep; rw [hhz, if_neg h0]
      simp (maxSteps := 4000000) -implicitDefEqProofs -dsimp (disch := omega) only [↓AW_skip, ↓AW_ops, ↓AW_seq, ↓AW_cond, ↓AW_block, ↓AOps_nil, ↓AOps_pu, ↓AOps_ld, on_some, condB_t, condB_f, ↓then_normal, ↓inBlock_normal, pval, lval, rd_S, rd_C, put_S, chkd, isAdr, bgot, cells_agg, partA, eq_self, mk, List.foldl_cons, List.foldl_nil, List.replicate_succ, List.replicate_zero, List.set_cons_zero, List.set_cons_succ, List.getElem?_cons_zero, List.getElem?_cons_succ, List.drop_zero, List.drop_succ_cons, List.take_succ_cons, List.take_nil, Option.getD_some, List.length_cons, List.length_nil, Nat.reduceAdd, Nat.reduceLeDiff, Nat.zero_add, bin_add, bin_lss, w64, if_true, if_false, Bool.false_eq_true, decide_true, decide_false, Go.Eng.e1, true_and, hlt', ho.ls.idx (show i < gi.length by omega), ho.ls.ld0 hz 1 false (by decide), h0]
      exact ⟨i + 1, hlt, by simp [Has, rd_s], by rw [hstep, hfs], by omega⟩
  · have hlt' : ¬ ((i : Int) < ws.length) := by omega
    have hii : i = ws.length := by omega
    subst hii
    simp (maxSteps := 4000000) -implicitDefEqProofs -dsimp (disch := omega) only [↓AW_ops, ↓AW_seq, ↓AW_cond, ↓AW_exit, ↓AW_ret, ↓AOps_nil, ↓AOps_pu, on_some, condB_f, ↓then_normal, ↓then_exit, ↓inBlock_exit, ↓Fin_ret, pval, rd_S, put_S, resV, resL, chkd, bput, bgot, cells_agg, splice, partA, eq_self, mk, List.foldl_cons, List.foldl_nil, List.replicate_succ, List.replicate_zero, List.set_cons_zero, List.set_cons_succ, List.getElem?_cons_zero, List.getElem?_cons_succ, List.drop_zero, List.drop_succ_cons, List.drop_nil, List.take_zero, List.take_succ_cons, List.take_nil, Option.getD_some, List.length_cons, List.length_nil, Nat.reduceAdd, Nat.reduceLeDiff, Nat.reduceEqDiff, Nat.zero_add, List.nil_append, List.append_nil, bin_lss, if_true, if_false, decide_false, ne_eq, not_true_eq_false, hlt']
    refine gc_same_all rfl ?_
    unfold flF
    rw [List.length_map]

end Go.Proofs.Ytlmbobbefgcolaa
