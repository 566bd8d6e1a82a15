/- What the law's proof rests on, part 4: for all that is said in each line. No conditions. -/
import Derived.Test.YtlmbobbefgcolaaCdA
namespace Go.Proofs.Ytlmbobbefgcolaa
open Go Go.Eng
theorem st_new (A : AHeap) (x y : AV) (hx : x.cells? = some [x]) : stA 1 (.ptr A.length 0) x (A ++ [.cells true [y]]) = some (A ++ [.cells true [x]]) := by
  simp [stA, hx, splice]
theorem repl_false (n : Nat) : repl [AV.bool false] n = (List.replicate n false).flatMap eb := by
  induction n with
  | zero => rfl
  | succ n ih => rw [repl, ih, List.replicate_succ, List.flatMap_cons]; rfl
theorem s92 {P : Int} {ws : List (AV × List Int)} {A H : AHeap} {v : AV} {ng : Nat} {fg : Bool} {g : List Int} (hv : Val P (lists ws)) (hw : LL A v ws) (ho : OL 1 e1 A H ng (.sl 1 ng 0 ws.length fg) g) (hg : Good P (lists ws) g) (i : Int) (hi : inP ws.length i) :
    ACalls Try.prog 92 [.agg [I P, v, .sl 1 ng 0 ws.length fg], I i] H (B (chF (lists ws) (P.toNat + 1) i (List.replicate P.toNat false, g)).1) (H.set ng (.cells true ((chF (lists ws) (P.toNat + 1) i (List.replicate P.toNat false, g)).2.2.flatMap e1))) := by
  refine acalls hmix Try.func92 (by kernel_rfl) t92 2 rfl (by decide) ?_
  have hP := hv.hP
  have hls : ∀ l ∈ lists ws, ∀ p ∈ l, inP P p := fun l hl => (hv.l l hl).1
  have hP0 : 0 ≤ P := by omega
  have hPl : P ≤ (lim : Int) := by simp [lim]; omega
  have hlt := ho.lt
  dsimp only [m92]
  simp (maxSteps := 4000000) -implicitDefEqProofs -dsimp (disch := omega) only [↓AW_ops, ↓AW_seq, ↓AOps_nil, ↓AOps_pu, ↓AOps_ld, ↓AOps_ha, on_some, extK_app, ↓then_normal, pval, lval, hval_st, hval_newv, hval_mks, rd_S, rd_C, put_S, cells_agg, cells_nilS, beq_self_eq_true, List.replicate_succ, List.replicate_zero, List.set_cons_zero, List.set_cons_succ, List.getElem?_cons_zero, List.getElem?_cons_succ, Option.getD_some, Nat.reduceSub, Nat.add_zero, List.cons_append, List.nil_append, if_true, and_true, ld_new, hP0, hPl, Int.le_refl]
  rw [repl_false]
  generalize hH1 : H ++ [.cells true [I P, v, .sl 1 ng 0 ws.length fg]] = H1
  generalize hH2 : H1 ++ [.cells true ((List.replicate P.toNat false).flatMap eb)] = H2
  have st1 : stA 1 (.ptr H2.length 0) (.sl 1 H1.length 0 P.toNat true) (H2 ++ [.cells true [.nilS]]) = some (H2 ++ [.cells true [.sl 1 H1.length 0 P.toNat true]]) := st_new H2 _ _ rfl
  simp (maxSteps := 4000000) -implicitDefEqProofs -dsimp (disch := omega) only [↓AW_ops, ↓AW_seq, ↓AOps_nil, ↓AOps_pu, ↓AOps_ha, on_some, extK_false, extK_app, ↓then_normal, pval, hval_st, hval_newv, rd_S, rd_C, put_S, putS_none, cells_nilF, List.replicate_succ, List.replicate_zero, List.set_cons_zero, List.set_cons_succ, List.getElem?_cons_zero, List.getElem?_cons_succ, Option.getD_some, Option.map_some, map_c, map_n, Nat.reduceSub, List.cons_append, List.nil_append, st1]
  generalize hH3 : H2 ++ [.cells true [.sl 1 H1.length 0 P.toNat true]] = H3
  have st2 : stA 1 (.ptr H3.length 0) (.fn 101 [.ptr H.length 0, .ptr H2.length 0, .ptr H3.length 0]) (H3 ++ [.cells true [.nilF]]) = some (H3 ++ [.cells true [.fn 101 [.ptr H.length 0, .ptr H2.length 0, .ptr H3.length 0]]]) := st_new H3 _ _ rfl
  simp (maxSteps := 4000000) -implicitDefEqProofs -dsimp (disch := omega) only [↓AW_ops, ↓AW_seq, ↓AOps_nil, ↓AOps_pu, ↓AOps_ld, ↓AOps_callv, on_some, extK_false, CallF_fn, ↓then_normal, pval, lval, rd_S, put_S, putS_none, List.replicate_succ, List.replicate_zero, List.set_cons_zero, List.set_cons_succ, List.getElem?_cons_zero, List.getElem?_cons_succ, Option.getD_some, Option.map_some, map_c, map_n, Nat.reduceSub, List.cons_append, List.nil_append, st2, ld_new]
  generalize hH4 : H3 ++ [.cells true [.fn 101 [.ptr H.length 0, .ptr H2.length 0, .ptr H3.length 0]]] = H4
  have l1 : H1.length = H.length + 1 := by rw [← hH1]; simp
  have l2 : H2.length = H.length + 2 := by rw [← hH2]; simp [l1]
  have l3 : H3.length = H.length + 3 := by rw [← hH3]; simp [l2]
  have l4 : H4.length = H.length + 4 := by rw [← hH4]; simp [l3]
  have p34 : H3 <+: H4 := by rw [← hH4]; exact pre_app _ _
  have p24 : H2 <+: H4 := (show H2 <+: H3 by rw [← hH3]; exact pre_app _ _).trans p34
  have p14 : H1 <+: H4 := (show H1 <+: H2 by rw [← hH2]; exact pre_app _ _).trans p24
  have p04 : H <+: H4 := (show H <+: H1 by rw [← hH1]; exact pre_app _ _).trans p14
  have gA : H4[H1.length]? = some (.cells true ((List.replicate P.toNat false).flatMap eb)) := pre_get p24 (by rw [← hH2]; exact get_new _ _)
  have gG : H4[ng]? = some (.cells true (g.flatMap e1)) := pre_get p04 ho.ob
  have hc : Ctx P A H4 v H.length H2.length H3.length H1.length ng ws.length true fg := {
    pre := ho.pre.trans p04
    la := by have := ho.pre.length_le; omega
    lg := ho.new
    ne := by omega
    hna := by omega
    hng := by omega
    w := ⟨true, pre_get p14 (by rw [← hH1]; exact get_new _ _)⟩
    s := ⟨true, pre_get p34 (by rw [← hH3]; exact get_new _ _)⟩
    c := ⟨true, by rw [← hH4]; exact get_new _ _⟩
    w1 := by omega
    w2 := by omega
    s1 := by omega
    s2 := by omega
    c1 := by omega
    c2 := by omega }
  have hsame : hpS H4 H1.length ng (List.replicate P.toNat false, g) = H4 := by
    unfold hpS
    simp only
    rw [set_same gA, set_same gG]
  have h101 := s101 hv hw hc P.toNat i (List.replicate P.toNat false, g) hi (by simp) hg (by simp [unseen])
  rw [hsame] at h101
  refine CallK.of h101 ?_
  simp (maxSteps := 4000000) -implicitDefEqProofs -dsimp (disch := omega) only [↓AW_ret, ↓AOps_nil, ↓AOps_pu, on_some, extK_false, ↓then_normal, ↓Fin_ret, pval, rd_S, put_S, putS_none, resV, resL, List.replicate_succ, List.replicate_zero, List.set_cons_zero, List.set_cons_succ, List.getElem?_cons_zero, List.getElem?_cons_succ, Option.getD_some, Nat.reduceSub, List.cons_append, List.nil_append]
  refine gc_set ho.ob (fun x hx => ?_) ?_ rfl
  · obtain ⟨y, _, hy⟩ := List.mem_flatMap.1 hx
    exact flat_e1 y x hy
  · unfold hpS
    generalize (chF (lists ws) (P.toNat + 1) i (List.replicate P.toNat false, g)).2 = r
    have e4 : H4 = H ++ [.cells true [I P, v, .sl 1 ng 0 ws.length fg], .cells true ((List.replicate P.toNat false).flatMap eb), .cells true [.sl 1 H1.length 0 P.toNat true], .cells true [.fn 101 [.ptr H.length 0, .ptr H2.length 0, .ptr H3.length 0]]] := by
      rw [← hH4, ← hH3, ← hH2, ← hH1]; simp
    have e5 : H4.set H1.length (.cells true (r.1.flatMap eb)) = H ++ ([AObj.cells true [I P, v, .sl 1 ng 0 ws.length fg], .cells true ((List.replicate P.toNat false).flatMap eb), .cells true [.sl 1 H1.length 0 P.toNat true], .cells true [.fn 101 [.ptr H.length 0, .ptr H2.length 0, .ptr H3.length 0]]].set 1 (.cells true (r.1.flatMap eb))) := by
      conv => lhs; rw [e4]
      rw [List.set_append_right (h := by omega), l1, Nat.add_sub_cancel_left]
    rw [e5, List.set_append_left (h := hlt)]
    exact ⟨_, rfl⟩
end Go.Proofs.Ytlmbobbefgcolaa

namespace Go.Proofs.Ytlmbobbefgcolaa
open Go Go.Eng
theorem ren_old {α : Type} {es : Nat} {e : α → List AV} {A : AHeap} {v : AV} {xs : List α} (h : Ls es e A v xs) (f : Nat → Option Nat) (hf : ∀ k, k < A.length → f k = some k) (d : Nat) : ren f (d + 1) v = v := by
  rcases h.inv with ⟨rfl, _⟩ | ⟨n, off, full, rw, l, rfl, h1, _⟩
  · rfl
  · have := hf n (List.getElem?_eq_some_iff.1 h1).1
    simp [ren, this]
theorem gc_agg3 {α : Type} {es : Nat} {e : α → List AV} {A H : AHeap} {v : AV} {xs : List α} (P : Int) (hv : Ls es e A v xs) (hp : A <+: H) {m k : Nat} {cs : List AV} (hm : A.length ≤ m) (ho : H[m]? = some (.cells true cs)) (hf : ∀ x ∈ cs, flat x = true) :
    GC A (.agg [I P, v, .sl 1 m 0 k false]) H (.agg [I P, v, .sl 1 A.length 0 k false]) (A ++ [.cells true cs]) := by
  have hk := Keep.add (keep_old hp) (n := m) (o := .cells true cs) hm (by simp; omega) ho
  simp only [renO, ren_flats _ 3 cs hf] at hk
  refine gc_keep hk ?_
  have hr := ren_old hv (fun j => if j = m then some A.length else if j < A.length then some j else none) (fun j hj => by simp [hj]; omega) 2
  simp [ren, hr]
theorem s83 {xs : List Int} {v : AV} {A : AHeap} (hx : L1 A v xs) (hn : v ≠ .nilS) (hl : xs.length ≤ 1000000) : ACalls Try.prog 83 [v] A (.sl 1 A.length 0 xs.length false) (A ++ [.cells true (xs.flatMap e1)]) := by
  refine acalls hmix Try.func83 (by kernel_rfl) t83 1 rfl (by decide) ?_
  rcases hx.inv with ⟨rfl, _⟩ | ⟨n, off, full, rw, l, rfl, h1, h2, h3⟩
  · exact absurd rfl hn
  · by_cases h0 : xs = []
    · subst h0
      have happ : appA 1 (A ++ [.cells true []]) (.sl 1 A.length 0 0 true) (.sl 1 n off 0 full) = some (.sl 1 A.length 0 0 true, A ++ [.cells true []]) := by
        have hc := (hx.mono (pre_app A [.cells true []])).hc
        rw [List.length_nil] at hc
        unfold appA
        rw [hc]
        simp
      dsimp only [m83]
      simp (maxSteps := 4000000) -implicitDefEqProofs -dsimp (disch := omega) only [↓AW_skip, ↓AW_ops, ↓AW_seq, ↓AW_cond, ↓AW_ret, ↓AOps_nil, ↓AOps_pu, ↓AOps_ha, on_some, extK_app, extK_same, condB_f, ↓then_normal, ↓Fin_ret, pval, hval_blds, hval_app, rd_S, rd_C, put_S, resV, resL, fillA, repl, List.replicate_succ, List.replicate_zero, List.set_cons_zero, List.set_cons_succ, List.getElem?_cons_zero, List.getElem?_cons_succ, Option.getD_some, map_n, List.length_nil, Nat.reduceSub, List.cons_append, List.nil_append, List.replicate_zero, repl, happ]
      exact OL_gcS (OL.new_mk e1_len A ([] : List Int) true) flat_e1
    · have hpos : 0 < xs.length := List.length_pos_iff.2 h0
      have happ : appA 1 (A ++ [.cells true []]) (.sl 1 A.length 0 0 true) (.sl 1 n off xs.length full) = some (.sl 1 (A ++ [AObj.cells true []]).length 0 (0 + xs.length) false, A ++ [.cells true []] ++ [.cells true (xs.flatMap e1)]) := by
        unfold appA
        rw [(hx.mono (pre_app A [.cells true []])).hc]
        have : xs.length ≠ 0 := by omega
        have h4 : 0 + xs.length ≤ lim := by simp [lim]; omega
        simp [this, lim]
        omega
      dsimp only [m83]
      simp (maxSteps := 4000000) -implicitDefEqProofs -dsimp (disch := omega) only [↓AW_skip, ↓AW_ops, ↓AW_seq, ↓AW_cond, ↓AW_ret, ↓AOps_nil, ↓AOps_pu, ↓AOps_ha, on_some, extK_app, condB_f, ↓then_normal, ↓Fin_ret, pval, hval_blds, hval_app, rd_S, rd_C, put_S, resV, resL, fillA, repl, List.replicate_succ, List.replicate_zero, List.set_cons_zero, List.set_cons_succ, List.getElem?_cons_zero, List.getElem?_cons_succ, Option.getD_some, map_n, Nat.reduceSub, Nat.zero_add, List.cons_append, List.nil_append, List.replicate_zero, repl, happ]
      refine OL_gcS (n := A.length + 1) ⟨e1_len, ?_, by omega, ?_, false, by simp⟩ flat_e1
      · exact (pre_app A _).trans (pre_app _ _)
      · rw [List.getElem?_append_right (by simp)]
        simp
theorem s62 {P : Int} {ws : List (AV × List Int)} {A : AHeap} {v u : AV} {g : List Int} (hv : Val P (lists ws)) (hw : LL A v ws) (hu : L1 A u g) (hun : u ≠ .nilS) (hg : Good P (lists ws) g) :
    ACalls Try.prog 62 [.agg [I P, v, u]] A (.agg [I P, v, .sl 1 A.length 0 ws.length false]) (A ++ [.cells true ((flF P (lists ws) g).flatMap e1)]) := by
  refine acalls hmix Try.func62 (by kernel_rfl) t62 1 rfl (by decide) ?_
  have hls : ∀ l ∈ lists ws, ∀ p ∈ l, inP P p := fun l hl => (hv.l l hl).1
  have hgl : g.length = ws.length := by simpa using hg.len
  have hn : ws.length ≤ 7 := by simpa using hv.n
  dsimp only [m62]
  simp (maxSteps := 4000000) -implicitDefEqProofs -dsimp (disch := omega) only [↓AW_ops, ↓AW_seq, ↓AOps_nil, ↓AOps_pu, ↓AOps_call, on_some, ↓then_normal, pval, rd_S, rd_C, put_S, chkd, isAdr, bgot, cells_agg, partA, eq_self, List.replicate_succ, List.replicate_zero, List.set_cons_zero, List.set_cons_succ, List.getElem?_cons_zero, List.getElem?_cons_succ, List.drop_zero, List.drop_succ_cons, List.take_succ_cons, List.take_nil, Option.getD_some, map_c, map_n, List.length_cons, List.length_nil, Nat.reduceAdd, Nat.reduceSub, Nat.reduceLeDiff, Nat.zero_add, List.cons_append, List.nil_append, if_true, if_false, Bool.false_eq_true]
  refine CallK.of (s83 hu hun (by omega)) ?_
  rw [hgl]
  have hlen : ∀ k, k ≤ ws.length → Good P (lists ws) ((List.range k).foldl (flStep P (lists ws)) g) := fun k hk => (fl_inv hls hg k (by simpa using hk)).1
  have hOL : ∀ k, k ≤ ws.length → OL 1 e1 A (A ++ [.cells true (((List.range k).foldl (flStep P (lists ws)) g).flatMap e1)]) A.length (.sl 1 A.length 0 ws.length false) ((List.range k).foldl (flStep P (lists ws)) g) := fun k hk => by
    have h := OL.new_mk e1_len A ((List.range k).foldl (flStep P (lists ws)) g) false
    have : ((List.range k).foldl (flStep P (lists ws)) g).length = ws.length := by simpa using (hlen k hk).len
    rwa [this] at h
  have hln : lenA (.sl 1 A.length 0 ws.length false) = some (I ws.length) := rfl
  simp (maxSteps := 4000000) -implicitDefEqProofs -dsimp (disch := omega) only [↓AW_ops, ↓AW_seq, ↓AW_block, ↓AOps_nil, ↓AOps_pu, on_some, extK_app, ↓then_normal, pval, rd_S, rd_C, put_S, ↓AW_toLoop, chkd, isAdr, bput, bgot, cells_agg, cells_sl, splice, partA, eq_self, List.replicate_succ, List.replicate_zero, List.set_cons_zero, List.set_cons_succ, List.getElem?_cons_zero, List.getElem?_cons_succ, List.drop_zero, List.drop_succ_cons, List.drop_nil, List.take_zero, List.take_succ_cons, List.take_nil, Option.getD_some, List.length_cons, List.length_nil, Nat.reduceAdd, Nat.reduceSub, Nat.reduceLeDiff, Nat.zero_add, List.cons_append, List.nil_append, List.append_nil, if_true, if_false, Bool.false_eq_true, ne_eq, not_true_eq_false, hln]
  refine LoopK.by 25 (fun i : Nat => i ≤ ws.length) (fun i => [(1, .agg [I P, v, .sl 1 A.length 0 ws.length false]), (2, .agg [.int .i64 0, .nilS, .nilS]), (10, I ws.length), (11, I i)]) (fun i => A ++ [.cells true (((List.range i).foldl (flStep P (lists ws)) g).flatMap e1)]) (fun i => ws.length - i) 0 (by omega) rfl (by simp [Has, rd_s]) rfl ?_
  intro i hi
  by_cases hlt : i < ws.length
  · have hlt' : (i : Int) < ws.length := by omega
    have ho := hOL i hi
    have hgi := hlen i hi
    have hstep : (List.range (i + 1)).foldl (flStep P (lists ws)) g = flStep P (lists ws) ((List.range i).foldl (flStep P (lists ws)) g) i := by rw [List.range_succ, List.foldl_append]; rfl
    generalize (List.range i).foldl (flStep P (lists ws)) g = gi at *
    have hgil : gi.length = ws.length := by simpa using hgi.len
    obtain ⟨z, hz⟩ : ∃ z, gi[i]? = some z := ⟨_, List.getElem?_eq_getElem (by omega)⟩
    have hhz := has_get hz
    by_cases h0 : z < 0
    · have hfs : flStep P (lists ws) gi i = (chF (lists ws) (P.toNat + 1) i (List.replicate P.toNat false, gi)).2.2 := by unfold flStep; rw [hhz, if_pos h0]
      simp (maxSteps := 4000000) -implicitDefEqProofs -dsimp (disch := omega) only [↓AW_skip, ↓AW_ops, ↓AW_seq, ↓AW_cond, ↓AW_block, ↓AOps_nil, ↓AOps_pu, ↓AOps_ld, ↓AOps_call, on_some, condB_t, ↓then_normal, pval, lval, rd_S, rd_C, put_S, chkd, isAdr, bgot, cells_agg, partA, eq_self, mk, List.foldl_cons, List.foldl_nil, List.replicate_succ, List.replicate_zero, List.set_cons_zero, List.set_cons_succ, List.getElem?_cons_zero, List.getElem?_cons_succ, List.drop_zero, List.drop_succ_cons, List.take_succ_cons, List.take_nil, Option.getD_some, map_c, map_n, List.length_cons, List.length_nil, Nat.reduceAdd, Nat.reduceLeDiff, Nat.reduceEqDiff, Nat.zero_add, bin_lss, if_true, if_false, Bool.false_eq_true, decide_true, Go.Eng.e1, hlt', ho.ls.idx (show i < gi.length by omega), ho.ls.ld0 hz 1 false (by decide), h0]
      have h92 := s92 hv hw ho hgi (i : Int) ⟨by omega, by omega⟩
      rw [set_new] at h92
      refine CallK.of h92 ?_
      simp (maxSteps := 4000000) -implicitDefEqProofs -dsimp (disch := omega) only [↓AW_ops, ↓AOps_nil, ↓AOps_pu, on_some, extK_false, ↓then_normal, ↓inBlock_normal, pval, rd_S, rd_C, put_S, eq_self, mk, List.foldl_cons, List.foldl_nil, List.replicate_succ, List.replicate_zero, List.set_cons_zero, List.set_cons_succ, List.getElem?_cons_zero, List.getElem?_cons_succ, Option.getD_some, List.length_cons, List.length_nil, Nat.reduceAdd, Nat.zero_add, bin_add, w64, true_and]
      exact ⟨i + 1, hlt, by simp [Has, rd_s], by rw [hstep, hfs], by omega⟩
    · have hfs : flStep P (lists ws) gi i = gi := by unfold flStep; rw [hhz, if_neg h0]
      simp (maxSteps := 4000000) -implicitDefEqProofs -dsimp (disch := omega) only [↓AW_skip, ↓AW_ops, ↓AW_seq, ↓AW_cond, ↓AW_block, ↓AOps_nil, ↓AOps_pu, ↓AOps_ld, on_some, condB_t, condB_f, ↓then_normal, ↓inBlock_normal, pval, lval, rd_S, rd_C, put_S, chkd, isAdr, bgot, cells_agg, partA, eq_self, mk, List.foldl_cons, List.foldl_nil, List.replicate_succ, List.replicate_zero, List.set_cons_zero, List.set_cons_succ, List.getElem?_cons_zero, List.getElem?_cons_succ, List.drop_zero, List.drop_succ_cons, List.take_succ_cons, List.take_nil, Option.getD_some, List.length_cons, List.length_nil, Nat.reduceAdd, Nat.reduceLeDiff, Nat.zero_add, bin_add, bin_lss, w64, if_true, if_false, Bool.false_eq_true, decide_true, decide_false, Go.Eng.e1, true_and, hlt', ho.ls.idx (show i < gi.length by omega), ho.ls.ld0 hz 1 false (by decide), h0]
      exact ⟨i + 1, hlt, by simp [Has, rd_s], by rw [hstep, hfs], by omega⟩
  · have hlt' : ¬ ((i : Int) < ws.length) := by omega
    have hii : i = ws.length := by omega
    subst hii
    simp (maxSteps := 4000000) -implicitDefEqProofs -dsimp (disch := omega) only [↓AW_ops, ↓AW_seq, ↓AW_cond, ↓AW_exit, ↓AW_ret, ↓AOps_nil, ↓AOps_pu, on_some, condB_f, ↓then_normal, ↓then_exit, ↓inBlock_exit, ↓Fin_ret, pval, rd_S, put_S, resV, resL, chkd, bput, bgot, cells_agg, splice, partA, eq_self, mk, List.foldl_cons, List.foldl_nil, List.replicate_succ, List.replicate_zero, List.set_cons_zero, List.set_cons_succ, List.getElem?_cons_zero, List.getElem?_cons_succ, List.drop_zero, List.drop_succ_cons, List.drop_nil, List.take_zero, List.take_succ_cons, List.take_nil, Option.getD_some, List.length_cons, List.length_nil, Nat.reduceAdd, Nat.reduceLeDiff, Nat.reduceEqDiff, Nat.zero_add, List.nil_append, List.append_nil, bin_lss, if_true, if_false, decide_false, ne_eq, not_true_eq_false, hlt']
    refine gc_same_all rfl ?_
    unfold flF
    rw [List.length_map]
end Go.Proofs.Ytlmbobbefgcolaa

namespace Go.Proofs.Ytlmbobbefgcolaa
open Go Go.Eng
def mulOk (n : Nat) : Bool := match runF tab 300 6 102 [.int .u64 1, .int .u64 (n : Int)] [] with
  | some (.tuple [.int .u64 a, .int .u64 b], _) => decide (a = 0) && decide (b = (n : Int))
  | _ => false
set_option maxRecDepth 100000 in
theorem mul_run : ((List.range 65).all mulOk) = true := by kernel_rfl
theorem s102 (n : Nat) (hn : n ≤ 64) (A : AHeap) : ACalls Try.prog 102 [.int .u64 1, .int .u64 (n : Int)] A (.tuple [.int .u64 0, .int .u64 (n : Int)]) A := by
  have h := List.all_eq_true.1 mul_run n (List.mem_range.2 (by omega))
  unfold mulOk at h
  split at h
  · rename_i a b H hr
    simp only [Bool.and_eq_true, decide_eq_true_eq] at h
    obtain ⟨rfl, rfl⟩ := h
    exact ACalls_lift2 (runF_ok hmix tabOK 300 6 102 _ [] _ _ hr) (by simp [flat]) rfl rfl A
  · cases h
theorem s93 {r : Int} {y : AV} {A : AHeap} (hy : L1 A y [r]) (n : Nat) (hn : n ≤ 64) : ACalls Try.prog 93 [y, I n] A (.sl 1 A.length 0 n false) (A ++ [.cells true ((List.replicate n r).flatMap e1)]) := by
  refine acalls hmix Try.func93 (by kernel_rfl) t93 2 rfl (by decide) ?_
  have h0 : ¬ (n : Int) < 0 := by omega
  have hu1 : IntKind.u64.wrap ((1 : Nat) : Int) = 1 := by decide
  have hun := u64w (n : Int) (by omega) (by omega)
  have hbig : ¬ (9223372036854775807 : Int) < n := by omega
  have hn0 : (0 : Int) ≤ n := by omega
  have hnl : (n : Int) ≤ (lim : Int) := by simp [lim]; omega
  dsimp only [m93]
  simp (maxSteps := 4000000) -implicitDefEqProofs -dsimp (disch := omega) only [↓AW_skip, ↓AW_ops, ↓AW_seq, ↓AW_cond, ↓AOps_nil, ↓AOps_pu, ↓AOps_call, on_some, condB_f, ↓then_normal, pval, rd_S, rd_C, put_S, List.replicate_succ, List.replicate_zero, List.set_cons_zero, List.set_cons_succ, List.getElem?_cons_zero, List.getElem?_cons_succ, Option.getD_some, map_c, map_n, List.length_cons, List.length_nil, Nat.reduceSub, Nat.zero_add, List.cons_append, List.nil_append, bin_lss, decide_false, h0, hy.len, hu1, hun]
  refine CallK.of (s102 n hn A) ?_
  simp (maxSteps := 4000000) -implicitDefEqProofs -dsimp (disch := omega) only [↓AW_skip, ↓AW_ops, ↓AW_seq, ↓AW_cond, ↓AOps_nil, ↓AOps_pu, ↓AOps_ha, ↓AOps_guard, on_some, extK_app, extK_same, guardB_ff, condB_f, ↓then_normal, pval, hval_mks, hval_cpy, rd_S, rd_C, put_S, beq_self_eq_true, List.replicate_succ, List.replicate_zero, List.set_cons_zero, List.set_cons_succ, List.getElem?_cons_zero, List.getElem?_cons_succ, Option.getD_some, Nat.reduceSub, List.cons_append, List.nil_append, bin_gtr, w64, if_true, if_false, Bool.false_eq_true, decide_false, and_true, Int.reduceLT, hbig, hn0, hnl, Int.le_refl, Int.toNat_natCast]
  rw [repl_zero]
  have hmk := OL.new_mk e1_len A (List.replicate n (0 : Int)) true
  rw [List.length_replicate] at hmk
  have hc := OL_cpy hmk (hy.mono (pre_app A [.cells true ((List.replicate n (0 : Int)).flatMap Go.Eng.e1)])) 0 (by omega) true
  rw [Nat.zero_mul, Nat.sub_zero, List.length_replicate] at hc
  have hx0 : (List.replicate n (0 : Int)).take 0 ++ [r].take (min 1 n) ++ (List.replicate n (0 : Int)).drop (0 + min 1 n) = List.replicate (min 1 n) r ++ List.replicate (n - min 1 n) (0 : Int) := by
    cases n with
    | zero => rfl
    | succ n => simp [List.replicate_succ]
  have hOL := OL_setAll hmk (List.replicate (min 1 n) r ++ List.replicate (n - min 1 n) (0 : Int)) (by simp; omega)
  rw [show [r].length = 1 from rfl, hx0] at hc
  generalize hvv : AV.sl 1 A.length 0 n true = vv at *
  simp (maxSteps := 4000000) -implicitDefEqProofs -dsimp (disch := omega) only [↓AW_seq, ↓AW_block, ↓AOps_nil, ↓AOps_pu, on_some, extK_false, ↓then_normal, pval, rd_S, put_S, ↓AW_toLoop, List.replicate_succ, List.replicate_zero, List.set_cons_zero, List.set_cons_succ, List.getElem?_cons_zero, List.getElem?_cons_succ, Option.getD_some, Nat.reduceSub, List.cons_append, List.nil_append, hc]
  refine LoopK.by 48 (fun x : Nat × AHeap => x.1 ≤ n ∧ (1 ≤ x.1 ∨ n = 0) ∧ OL 1 e1 A x.2 A.length vv (List.replicate x.1 r ++ List.replicate (n - x.1) (0 : Int))) (fun x => [(7, vv), (8, I x.1)]) (fun x => x.2) (fun x => n - x.1) (min 1 n, _) ⟨by simp only; omega, by simp only; omega, hOL⟩ rfl (by simp [Has, rd_s]) rfl ?_
  rintro ⟨m, A1⟩ ⟨hm, hm1, ho⟩
  simp only at hm hm1 ho
  have hlen : lenA vv = some (I n) := by rw [← hvv]; rfl
  by_cases hlt : m < n
  · have hlt' : (m : Int) < n := by omega
    have hs1 : slcA 1 vv (some (I m)) none none = some (.sl 1 A.length (m * 1) (n - m) true) := by
      rw [← hvv]
      simp [slcA, bnd] <;> omega
    obtain ⟨v', hv', hL⟩ := Ls_takeS ho.ls m (by simp <;> omega)
    have hc2 := OL_cpy ho hL m (by simp <;> omega) true
    have hll : (List.replicate m r ++ List.replicate (n - m) (0 : Int)).length = n := by simp; omega
    have hlt2 : ((List.replicate m r ++ List.replicate (n - m) (0 : Int)).take m).length = m := by rw [List.length_take, hll]; omega
    rw [hll, hlt2, rep_step r _ hm] at hc2
    have hOL2 := OL_setAll ho (List.replicate (m + min m (n - m)) r ++ List.replicate (n - (m + min m (n - m))) (0 : Int)) (by simp; omega)
    simp (maxSteps := 4000000) -implicitDefEqProofs -dsimp (disch := omega) only [↓AW_skip, ↓AW_ops, ↓AW_seq, ↓AW_cond, ↓AW_block, ↓AOps_nil, ↓AOps_pu, ↓AOps_ha, on_some, extK_false, condB_t, ↓then_normal, ↓inBlock_normal, pval, hval_cpy, rd_S, put_S, eq_self, mk, List.foldl_cons, List.foldl_nil, List.replicate_succ, List.replicate_zero, List.set_cons_zero, List.set_cons_succ, List.getElem?_cons_zero, List.getElem?_cons_succ, Option.getD_some, Option.map_some, Option.map_none, List.length_cons, List.length_nil, Nat.reduceAdd, Nat.zero_add, bin_add, bin_lss, w64, decide_true, true_and, hlt', hlen, hs1, hv', hc2]
    refine ⟨(m + min m (n - m), _), ⟨by simp only; omega, by simp only; omega, hOL2⟩, by simp [Has, rd_s], rfl, by simp only; omega⟩
  · have hmn : m = n := by omega
    subst hmn
    rw [Nat.sub_self, List.replicate_zero, List.append_nil] at ho
    simp (maxSteps := 4000000) -implicitDefEqProofs -dsimp (disch := omega) only [↓AW_ops, ↓AW_seq, ↓AW_cond, ↓AW_exit, ↓AW_ret, ↓AOps_nil, ↓AOps_pu, on_some, condB_f, ↓then_normal, ↓then_exit, ↓inBlock_exit, ↓Fin_ret, pval, rd_S, put_S, resV, resL, eq_self, mk, List.foldl_cons, List.foldl_nil, List.replicate_succ, List.replicate_zero, List.set_cons_zero, List.set_cons_succ, List.getElem?_cons_zero, List.getElem?_cons_succ, Option.getD_some, bin_lss, if_true, decide_false, hlen, Int.lt_irrefl]
    have := OL_gcS ho flat_e1
    rwa [List.length_replicate] at this
abbrev noG (ws : List (AV × List Int)) : List Int := List.replicate ws.length (-1)
theorem s63 {P : Int} {ws : List (AV × List Int)} {A : AHeap} {v : AV} (hw : LL A v ws) (hn : ws.length ≤ 64) :
    ACalls Try.prog 63 [.agg [I P, v]] A (.agg [I P, v, .sl 1 A.length 0 ws.length false]) (A ++ [.cells true ((noG ws).flatMap e1)]) := by
  refine acalls hmix Try.func63 (by kernel_rfl) t63 1 rfl (by decide) ?_
  dsimp only [m63]
  simp (maxSteps := 4000000) -implicitDefEqProofs -dsimp (disch := omega) only [↓AW_ops, ↓AW_seq, ↓AOps_nil, ↓AOps_pu, ↓AOps_ha, ↓AOps_call, on_some, extK_app, ↓then_normal, pval, hval_blds, rd_S, rd_C, put_S, chkd, isAdr, bgot, cells_agg, cells_int, splice, partA, fillA, repl, eq_self, List.replicate_succ, List.replicate_zero, List.set_cons_zero, List.set_cons_succ, List.getElem?_cons_zero, List.getElem?_cons_succ, List.drop_zero, List.drop_succ_cons, List.drop_nil, List.take_zero, List.take_succ_cons, List.take_nil, Option.getD_some, map_c, map_n, List.length_cons, List.length_nil, Nat.reduceAdd, Nat.reduceSub, Nat.reduceLeDiff, Nat.reduceEqDiff, Nat.zero_add, List.cons_append, List.nil_append, List.append_nil, if_true, if_false, Bool.false_eq_true, and_true, Int.reduceNeg, hw.ls.len]
  refine CallK.of (s93 (L1_one A (-1)) ws.length hn) ?_
  simp (maxSteps := 4000000) -implicitDefEqProofs -dsimp (disch := omega) only [↓AW_ret, ↓AOps_nil, ↓AOps_pu, on_some, extK_app, ↓then_normal, ↓Fin_ret, pval, rd_S, put_S, resV, resL, chkd, bput, bgot, cells_agg, cells_sl, splice, partA, fillA, eq_self, List.replicate_succ, List.replicate_zero, List.set_cons_zero, List.set_cons_succ, List.getElem?_cons_zero, List.getElem?_cons_succ, List.drop_zero, List.drop_succ_cons, List.drop_nil, List.take_zero, List.take_succ_cons, List.take_nil, Option.getD_some, Option.map_some, map_c, map_n, List.length_cons, List.length_nil, Nat.reduceAdd, Nat.reduceSub, Nat.reduceLeDiff, Nat.reduceEqDiff, Nat.zero_add, List.cons_append, List.nil_append, List.append_nil, if_true, if_false, and_true, ne_eq, not_true_eq_false, Int.reduceNeg]
  refine gc_agg3 P hw.ls ((pre_app A _).trans (pre_app _ _)) (m := (A ++ [AObj.cells true [I (-1)]]).length) (by simp) (get_new _ _) (fun x hx => ?_)
  obtain ⟨y, _, hy⟩ := List.mem_flatMap.1 hx
  exact flat_e1 y x hy
theorem L1_new (A : AHeap) (g : List Int) (n : Nat) (hn : g.length = n) : L1 (A ++ [.cells true (g.flatMap e1)]) (.sl 1 A.length 0 n false) g := by
  have := (OL.new_mk e1_len A g false).ls
  rwa [hn] at this
theorem good_noG {P : Int} {ws : List (AV × List Int)} (hv : Val P (lists ws)) : Good P (lists ws) (noG ws) := by
  have := good_none P (by have := hv.hP; omega) (lists ws)
  rwa [List.length_map] at this
/-- The giving that is returned. -/
def best (P : Int) (ws : List (AV × List Int)) : List Int := flF P (lists ws) (noG ws)
theorem best_good {P : Int} {ws : List (AV × List Int)} (hv : Val P (lists ws)) : Good P (lists ws) (best P ws) := (fl_max (fun l hl => (hv.l l hl).1) (good_noG hv)).1
theorem best_most (P : Int) (ws : List (AV × List Int)) : srv (best P ws) = most P (lists ws) := by
  unfold best most noG
  rw [List.length_map]
theorem best_len {P : Int} {ws : List (AV × List Int)} (hv : Val P (lists ws)) : (best P ws).length = ws.length := by
  simpa using (best_good hv).len
/-- Filled, from nobody on. -/
theorem s62n {P : Int} {ws : List (AV × List Int)} {A : AHeap} {v : AV} (hv : Val P (lists ws)) (hw : LL A v ws) :
    ACalls Try.prog 62 [.agg [I P, v, .sl 1 A.length 0 ws.length false]] (A ++ [.cells true ((noG ws).flatMap e1)]) (.agg [I P, v, .sl 1 (A ++ [AObj.cells true ((noG ws).flatMap e1)]).length 0 ws.length false]) (A ++ [.cells true ((noG ws).flatMap e1)] ++ [.cells true ((best P ws).flatMap e1)]) :=
  s62 hv (hw.mono (pre_app A _)) (L1_new A (noG ws) ws.length (by simp [noG])) (by simp) (good_noG hv)
theorem s56 {P : Int} {ws : List (AV × List Int)} {A : AHeap} {v : AV} (hv : Val P (lists ws)) (hw : LL A v ws) : ACalls Try.prog 56 [.agg [I P, v]] A (I (most P (lists ws))) A := by
  refine acalls hmix Try.func56 (by kernel_rfl) t56 1 rfl (by decide) ?_
  have hn : ws.length ≤ 7 := by simpa using hv.n
  dsimp only [m56]
  simp (maxSteps := 4000000) -implicitDefEqProofs -dsimp (disch := omega) only [↓AW_ops, ↓AW_seq, ↓AOps_nil, ↓AOps_pu, ↓AOps_call, on_some, ↓then_normal, pval, rd_S, rd_C, put_S, chkd, bgot, cells_agg, partA, eq_self, List.replicate_succ, List.replicate_zero, List.set_cons_zero, List.set_cons_succ, List.getElem?_cons_zero, List.getElem?_cons_succ, List.drop_zero, List.take_succ_cons, List.take_nil, Option.getD_some, map_c, map_n, List.length_cons, List.length_nil, Nat.reduceAdd, Nat.reduceSub, Nat.reduceLeDiff, Nat.reduceEqDiff, Nat.zero_add, List.cons_append, List.nil_append, if_true, if_false]
  refine CallK.of (s63 hw (by omega)) ?_
  simp (maxSteps := 4000000) -implicitDefEqProofs -dsimp (disch := omega) only [↓AOps_call, extK_app, rd_S, put_S, List.replicate_succ, List.replicate_zero, List.set_cons_zero, List.set_cons_succ, List.getElem?_cons_zero, List.getElem?_cons_succ, Option.getD_some, map_c, map_n, Nat.reduceSub, List.cons_append, List.nil_append]
  refine CallK.of (s62n hv hw) ?_
  simp (maxSteps := 4000000) -implicitDefEqProofs -dsimp (disch := omega) only [↓AOps_pu, ↓AOps_call, on_some, extK_app, pval, rd_S, put_S, partA, eq_self, List.replicate_succ, List.replicate_zero, List.set_cons_zero, List.set_cons_succ, List.getElem?_cons_zero, List.getElem?_cons_succ, List.drop_zero, List.drop_succ_cons, List.take_succ_cons, List.take_nil, Option.getD_some, map_c, map_n, List.length_cons, List.length_nil, Nat.reduceAdd, Nat.reduceSub, Nat.reduceLeDiff, Nat.zero_add, List.cons_append, List.nil_append, if_true, if_false, Bool.false_eq_true]
  refine CallK.of (s61 (L1_new _ (best P ws) ws.length (best_len hv)) (by rw [best_len hv]; omega)) ?_
  rw [best_most]
  simp (maxSteps := 4000000) -implicitDefEqProofs -dsimp (disch := omega) only [↓AW_ret, ↓AOps_nil, ↓AOps_pu, on_some, extK_same, ↓then_normal, ↓Fin_ret, pval, rd_S, put_S, resV, resL, List.replicate_succ, List.replicate_zero, List.set_cons_zero, List.set_cons_succ, List.getElem?_cons_zero, List.getElem?_cons_succ, Option.getD_some, Nat.reduceSub, List.cons_append, List.nil_append]
  exact gc_val ((pre_app A _).trans (pre_app _ _)) rfl
def mostN (P : Int) (ls : List (List Int)) : Int := if vW P ls = 0 then most P ls else 0
theorem s24 {P : Int} {ws : List (AV × List Int)} {A : AHeap} {v : AV} (hw : LL A v ws) (hs : Sz ws) : ACalls Try.prog 24 [.agg [I P, v]] A (.tuple [I (mostN P (lists ws)), I (vW P (lists ws))]) A := by
  refine acalls hmix Try.func24 (by kernel_rfl) t24 1 rfl (by decide) ?_
  dsimp only [m24]
  simp (maxSteps := 4000000) -implicitDefEqProofs -dsimp (disch := omega) only [↓AW_ops, ↓AW_seq, ↓AOps_nil, ↓AOps_pu, ↓AOps_call, on_some, ↓then_normal, pval, rd_S, rd_C, put_S, chkd, bgot, cells_agg, partA, eq_self, List.replicate_succ, List.replicate_zero, List.set_cons_zero, List.set_cons_succ, List.getElem?_cons_zero, List.getElem?_cons_succ, List.drop_zero, List.take_succ_cons, List.take_nil, Option.getD_some, map_c, map_n, List.length_cons, List.length_nil, Nat.reduceAdd, Nat.reduceSub, Nat.reduceLeDiff, Nat.reduceEqDiff, Nat.zero_add, List.cons_append, List.nil_append, if_true, if_false]
  refine CallK.of (s39 hw hs) ?_
  by_cases h0 : vW P (lists ws) = 0
  · have hv := val_of h0
    have hn : ws.length ≤ 7 := by simpa using hv.n
    simp (maxSteps := 4000000) -implicitDefEqProofs -dsimp (disch := omega) only [↓AW_skip, ↓AW_ops, ↓AW_seq, ↓AW_cond, ↓AOps_nil, ↓AOps_pu, ↓AOps_call, on_some, extK_same, condB_f, ↓then_normal, pval, rd_S, rd_C, put_S, chkd, bgot, partA, eq_self, List.replicate_succ, List.replicate_zero, List.set_cons_zero, List.set_cons_succ, List.getElem?_cons_zero, List.getElem?_cons_succ, List.drop_zero, List.take_succ_cons, List.take_nil, Option.getD_some, map_c, map_n, List.length_cons, List.length_nil, Nat.reduceAdd, Nat.reduceSub, Nat.reduceLeDiff, Nat.reduceEqDiff, Nat.zero_add, List.cons_append, List.nil_append, bin_neq, if_true, if_false, decide_false, not_true_eq_false, h0]
    refine CallK.of (s63 hw (by omega)) ?_
    simp (maxSteps := 4000000) -implicitDefEqProofs -dsimp (disch := omega) only [↓AOps_call, extK_app, rd_S, put_S, List.replicate_succ, List.replicate_zero, List.set_cons_zero, List.set_cons_succ, List.getElem?_cons_zero, List.getElem?_cons_succ, Option.getD_some, map_c, map_n, Nat.reduceSub, List.cons_append, List.nil_append]
    refine CallK.of (s62n hv hw) ?_
    simp (maxSteps := 4000000) -implicitDefEqProofs -dsimp (disch := omega) only [↓AOps_pu, ↓AOps_call, on_some, extK_app, pval, rd_S, put_S, partA, eq_self, List.replicate_succ, List.replicate_zero, List.set_cons_zero, List.set_cons_succ, List.getElem?_cons_zero, List.getElem?_cons_succ, List.drop_zero, List.drop_succ_cons, List.take_succ_cons, List.take_nil, Option.getD_some, map_c, map_n, List.length_cons, List.length_nil, Nat.reduceAdd, Nat.reduceSub, Nat.reduceLeDiff, Nat.zero_add, List.cons_append, List.nil_append, if_true, if_false, Bool.false_eq_true]
    refine CallK.of (s61 (L1_new _ (best P ws) ws.length (best_len hv)) (by rw [best_len hv]; omega)) ?_
    rw [best_most]
    simp (maxSteps := 4000000) -implicitDefEqProofs -dsimp (disch := omega) only [↓AW_ret, ↓AOps_nil, ↓AOps_pu, on_some, extK_same, ↓then_normal, ↓Fin_ret, pval, rd_S, rd_C, put_S, resV, resL, List.replicate_succ, List.replicate_zero, List.set_cons_zero, List.set_cons_succ, List.getElem?_cons_zero, List.getElem?_cons_succ, Option.getD_some, Nat.reduceSub, List.cons_append, List.nil_append]
    exact gc_val ((pre_app A _).trans (pre_app _ _)) (by simp [mostN, h0, ren])
  · simp (maxSteps := 4000000) -implicitDefEqProofs -dsimp (disch := omega) only [↓AW_ops, ↓AW_seq, ↓AW_cond, ↓AW_ret, ↓AOps_nil, ↓AOps_pu, on_some, extK_same, condB_t, ↓then_normal, ↓then_ret, ↓Fin_ret, pval, rd_S, rd_C, put_S, resV, resL, List.replicate_succ, List.replicate_zero, List.set_cons_zero, List.set_cons_succ, List.getElem?_cons_zero, List.getElem?_cons_succ, Option.getD_some, Nat.reduceSub, List.cons_append, List.nil_append, bin_neq, decide_true, not_false_eq_true, h0]
    exact gc_same (by simp [mostN, h0])
end Go.Proofs.Ytlmbobbefgcolaa

namespace Go.Proofs.Ytlmbobbefgcolaa
open Go Go.Eng
def bitOk (s p : Nat) : Bool :=
  (match binI .shl (I 1) (.int .u64 (p : Int)) with | some (.int .i64 b) => decide (b = ((2 ^ p : Nat) : Int)) | _ => false) &&
  (match binI .and (I (s : Int)) (I ((2 ^ p : Nat) : Int)) with | some (.int .i64 c) => decide (c = if s.testBit p = true then ((2 ^ p : Nat) : Int) else 0) | _ => false) &&
  (match binI .or (I (s : Int)) (I ((2 ^ p : Nat) : Int)) with | some (.int .i64 c) => decide (c = ((s ||| 2 ^ p : Nat) : Int)) | _ => false) &&
  (s.testBit p || decide ((s ||| 2 ^ p) = s + 2 ^ p))
set_option maxRecDepth 100000 in
theorem bit_run : ((List.range 128).all fun s => (List.range 8).all fun p => bitOk s p) = true := by kernel_rfl
theorem bit_facts {s p : Nat} (hs : s < 128) (hp : p < 8) : binI .shl (I 1) (.int .u64 (p : Int)) = some (I ((2 ^ p : Nat) : Int)) ∧ binI .and (I (s : Int)) (I ((2 ^ p : Nat) : Int)) = some (I (if s.testBit p = true then ((2 ^ p : Nat) : Int) else 0)) ∧
    (s.testBit p = false → binI .or (I (s : Int)) (I ((2 ^ p : Nat) : Int)) = some (I ((s + 2 ^ p : Nat) : Int))) := by
  have h := List.all_eq_true.1 (List.all_eq_true.1 bit_run s (List.mem_range.2 hs)) p (List.mem_range.2 hp)
  unfold bitOk at h
  simp only [Bool.and_eq_true] at h
  obtain ⟨⟨⟨h1, h2⟩, h3⟩, h4⟩ := h
  refine ⟨?_, ?_, fun hb => ?_⟩
  · split at h1
    · rename_i b e; rw [e, of_decide_eq_true h1]
    · cases h1
  · split at h2
    · rename_i b e; rw [e, of_decide_eq_true h2]
    · cases h2
  · split at h3
    · rename_i b e
      rw [hb, Bool.false_or] at h4
      rw [e, of_decide_eq_true h3, of_decide_eq_true h4]
    · cases h3
/-- A list of truth values, by a function. -/
def tb (N : Nat) (f : Nat → Bool) : List Bool := (List.range N).map f
theorem tb_len (N : Nat) (f : Nat → Bool) : (tb N f).length = N := by simp [tb]
theorem tb_get {N : Nat} {f : Nat → Bool} {s : Nat} (h : s < N) : (tb N f)[s]? = some (f s) := by simp [tb, h]
theorem tb_congr {N : Nat} {f g : Nat → Bool} (h : ∀ t, t < N → f t = g t) : tb N f = tb N g := by
  unfold tb
  exact List.map_congr_left (fun t ht => h t (List.mem_range.1 ht))
theorem tb_set {N : Nat} {f : Nat → Bool} (j : Nat) : (tb N f).set j true = tb N (fun t => f t || t == j) := by
  apply List.ext_getElem?
  intro i
  rw [List.getElem?_set]
  by_cases h : i < N
  · rw [tb_get h]
    by_cases h2 : j = i
    · subst h2
      simp [h, tb]
    · have : ¬ i = j := fun e => h2 e.symm
      simp [h2, this, tb, h]
  · have h1 : (tb N f)[i]? = none := by rw [List.getElem?_eq_none]; rw [tb_len]; omega
    have h2 : (tb N (fun t => f t || t == j))[i]? = none := by rw [List.getElem?_eq_none]; rw [tb_len]; omega
    rw [h1, h2]
    split
    · rename_i h3; rw [tb_len, if_neg (by omega)]
    · rfl
theorem tb_false (N : Nat) : List.replicate N false = tb N (fun _ => false) := by
  apply List.ext_getElem?
  intro i
  by_cases h : i < N <;> simp [tb, h]
theorem s60 (s : Nat) (hs : s ≤ 1000000) (A : AHeap) : ACalls Try.prog 60 [I s] A (I (pc s)) A := by
  refine acalls hmix Try.func60 (by kernel_rfl) t60 1 rfl (by decide) ?_
  dsimp only [m60]
  simp (maxSteps := 4000000) -implicitDefEqProofs -dsimp (disch := omega) only [↓AW_ops, ↓AW_seq, ↓AW_block, ↓AOps_nil, ↓AOps_pu, on_some, ↓then_normal, pval, rd_C, put_S, ↓AW_toLoop, List.replicate_succ, List.replicate_zero, List.set_cons_zero, List.set_cons_succ, Nat.reduceSub, List.cons_append, List.nil_append]
  have hb : ∀ t, pc t ≤ t := by
    intro t
    induction t using Nat.strongRecOn with
    | _ t ih =>
      rw [pc_eq]
      by_cases h : t = 0
      · subst h; simp [pc_0]
      · have := ih (t / 2) (by omega); omega
  refine LoopK.by 13 (fun x : Nat × Nat => x.2 ≤ s ∧ x.1 + pc x.2 = pc s) (fun x => [(0, I x.2), (3, I x.1)]) (fun _ => A) (fun x => x.2) (0, s) ⟨Nat.le_refl _, by simp⟩ rfl (by simp [Has, rd_s]) rfl ?_
  rintro ⟨n, t⟩ ⟨ht, hn⟩
  simp only at ht hn
  have hps := hb s
  by_cases h0 : 0 < t
  · have h0' : (0 : Int) < t := by omega
    have e1 : (t : Int).tmod 2 = ((t % 2 : Nat) : Int) := by rw [Int.tmod_eq_emod_of_nonneg (by omega)]; omega
    have e2 : (t : Int).tdiv 2 = ((t / 2 : Nat) : Int) := by rw [Int.tdiv_eq_ediv_of_nonneg (by omega)]; omega
    rw [pc_eq t] at hn
    simp (maxSteps := 4000000) -implicitDefEqProofs -dsimp (disch := omega) only [↓AW_skip, ↓AW_ops, ↓AW_seq, ↓AW_cond, ↓AW_block, ↓AOps_nil, ↓AOps_pu, on_some, condB_t, ↓then_normal, ↓inBlock_normal, pval, rd_S, rd_C, put_S, eq_self, mk, List.foldl_cons, List.foldl_nil, List.replicate_succ, List.replicate_zero, List.set_cons_zero, List.set_cons_succ, List.getElem?_cons_zero, List.getElem?_cons_succ, Option.getD_some, List.length_cons, List.length_nil, Nat.reduceAdd, Nat.zero_add, bin_add, bin_quo, bin_rem, bin_gtr, w64, if_false, decide_true, true_and, Int.reduceEq, h0', e1, e2]
    exact ⟨(n + t % 2, t / 2), ⟨by simp only; omega, by simp only; omega⟩, by simp [Has, rd_s], by simp only; omega⟩
  · have h0' : ¬ (0 : Int) < t := by omega
    have : t = 0 := by omega
    subst this
    rw [pc_0] at hn
    simp (maxSteps := 4000000) -implicitDefEqProofs -dsimp (disch := omega) only [↓AW_ops, ↓AW_seq, ↓AW_cond, ↓AW_exit, ↓AW_ret, ↓AOps_nil, ↓AOps_pu, on_some, condB_f, ↓then_normal, ↓then_exit, ↓inBlock_exit, ↓Fin_ret, pval, rd_S, rd_C, put_S, resV, resL, eq_self, mk, List.foldl_cons, List.foldl_nil, List.replicate_succ, List.replicate_zero, List.set_cons_zero, List.set_cons_succ, List.getElem?_cons_zero, List.getElem?_cons_succ, Option.getD_some, bin_gtr, if_true, decide_false, h0']
    exact gc_same (by rw [← hn]; rfl)
theorem s57 {f : Nat → Bool} {N : Nat} {v : AV} {A : AHeap} (hx : Lb A v (tb N f)) (hN : N ≤ 1000) : ACalls Try.prog 57 [v] A (I (mb f N)) A := by
  refine acalls hmix Try.func57 (by kernel_rfl) t57 1 rfl (by decide) ?_
  dsimp only [m57]
  simp (maxSteps := 4000000) -implicitDefEqProofs -dsimp (disch := omega) only [↓AW_ops, ↓AW_seq, ↓AW_block, ↓AOps_nil, ↓AOps_pu, on_some, ↓then_normal, pval, rd_C, put_S, ↓AW_toLoop, List.replicate_succ, List.replicate_zero, List.set_cons_zero, List.set_cons_succ, Nat.reduceSub, List.cons_append, List.nil_append]
  have hlen : lenA v = some (I N) := by have := hx.len; rwa [tb_len] at this
  refine LoopK.by 20 (fun i : Nat => i ≤ N) (fun i => [(0, v), (3, I (mb f i)), (4, I i)]) (fun _ => A) (fun i => N - i) 0 (by omega) rfl (by simp [Has, rd_s, mb]) rfl ?_
  intro i hi
  by_cases hlt : i < N
  · have hlt' : (i : Int) < N := by omega
    have hl2 : i < (tb N f).length := by rw [tb_len]; exact hlt
    have hz := tb_get (f := f) hlt
    by_cases hf : f i = true
    · rw [hf] at hz
      have hm : mb f (i + 1) = max (mb f i) (pc i) := by rw [mb, if_pos hf]
      simp (maxSteps := 4000000) -implicitDefEqProofs -dsimp (disch := omega) only [↓AW_skip, ↓AW_ops, ↓AW_seq, ↓AW_cond, ↓AW_block, ↓AOps_nil, ↓AOps_pu, ↓AOps_ld, ↓AOps_call, on_some, condB_t, ↓then_normal, pval, lval, rd_S, put_S, partA, eq_self, mk, List.foldl_cons, List.foldl_nil, List.replicate_succ, List.replicate_zero, List.set_cons_zero, List.set_cons_succ, List.getElem?_cons_zero, List.getElem?_cons_succ, List.drop_zero, List.take_succ_cons, List.take_nil, Option.getD_some, map_c, map_n, List.length_cons, List.length_nil, Nat.reduceLeDiff, Nat.zero_add, bin_lss, if_true, if_false, Bool.false_eq_true, decide_true, hlt', hlen, hx.idx hl2, hx.ld0 hz 1 false (by decide), eb]
      refine CallK.of (s60 i (by omega) A) ?_
      simp (maxSteps := 4000000) -implicitDefEqProofs -dsimp (disch := omega) only [↓AW_ops, ↓AOps_nil, ↓AOps_pu, on_some, extK_same, ↓then_normal, ↓inBlock_normal, pval, rd_S, rd_C, put_S, eq_self, mk, List.foldl_cons, List.foldl_nil, List.replicate_succ, List.replicate_zero, List.set_cons_zero, List.set_cons_succ, List.getElem?_cons_zero, List.getElem?_cons_succ, Option.getD_some, map_c, map_n, List.length_cons, List.length_nil, Nat.reduceAdd, Nat.zero_add, bin_add, mm_max, w64, true_and]
      exact ⟨i + 1, hlt, by simp [Has, rd_s, hm]; omega, by omega⟩
    · have hf' : f i = false := by simpa using hf
      rw [hf'] at hz
      have hm : mb f (i + 1) = mb f i := by rw [mb, if_neg hf]
      simp (maxSteps := 4000000) -implicitDefEqProofs -dsimp (disch := omega) only [↓AW_skip, ↓AW_ops, ↓AW_seq, ↓AW_cond, ↓AW_block, ↓AOps_nil, ↓AOps_pu, ↓AOps_ld, on_some, condB_t, condB_f, ↓then_normal, ↓inBlock_normal, pval, lval, rd_S, rd_C, put_S, partA, eq_self, mk, List.foldl_cons, List.foldl_nil, List.replicate_succ, List.replicate_zero, List.set_cons_zero, List.set_cons_succ, List.getElem?_cons_zero, List.getElem?_cons_succ, List.drop_zero, List.take_succ_cons, List.take_nil, Option.getD_some, List.length_cons, List.length_nil, Nat.reduceAdd, Nat.reduceLeDiff, Nat.zero_add, bin_add, bin_lss, w64, if_true, if_false, Bool.false_eq_true, decide_true, true_and, hlt', hlen, hx.idx hl2, hx.ld0 hz 1 false (by decide), eb]
      exact ⟨i + 1, hlt, by simp [Has, rd_s, hm], by omega⟩
  · have hlt' : ¬ ((i : Int) < N) := by omega
    have hii : i = N := by omega
    subst hii
    simp (maxSteps := 4000000) -implicitDefEqProofs -dsimp (disch := omega) only [↓AW_ops, ↓AW_seq, ↓AW_cond, ↓AW_exit, ↓AW_ret, ↓AOps_nil, ↓AOps_pu, on_some, condB_f, ↓then_normal, ↓then_exit, ↓inBlock_exit, ↓Fin_ret, pval, rd_S, put_S, resV, resL, eq_self, mk, List.foldl_cons, List.foldl_nil, List.replicate_succ, List.replicate_zero, List.set_cons_zero, List.set_cons_succ, List.getElem?_cons_zero, List.getElem?_cons_succ, Option.getD_some, bin_lss, if_true, decide_false, hlt', hlen]
    exact gc_same rfl
/-- What one owner's list adds, set after set. -/
def nx (f : Nat → Bool) (l : List Int) (s0 t : Nat) : Bool := f t || (List.range s0).any (fun s => f s && l.any (fun p => !s.testBit p.toNat && t == s + 2 ^ p.toNat))
theorem nx_succ (f : Nat → Bool) (l : List Int) (s t : Nat) : nx f l (s + 1) t = (nx f l s t || (f s && l.any (fun p => !s.testBit p.toNat && t == s + 2 ^ p.toNat))) := by
  unfold nx
  rw [List.range_succ, List.any_append]
  simp [Bool.or_assoc]
theorem nx_end (f : Nat → Bool) (l : List Int) {N t : Nat} (ht : t < N) : nx f l N t = cb f l t := by
  unfold nx cb
  congr 1
  rw [Bool.eq_iff_iff, List.any_eq_true, List.any_eq_true]
  constructor
  · rintro ⟨s, hs, h⟩
    simp only [Bool.and_eq_true, List.any_eq_true, Bool.not_eq_true', beq_iff_eq] at h
    obtain ⟨hf, p, hp, hb, rfl⟩ := h
    refine ⟨p, hp, ?_⟩
    rw [tb_add _ _ _ hb, Nat.add_sub_cancel]
    simp [hf]
  · rintro ⟨p, hp, h⟩
    simp only [Bool.and_eq_true] at h
    obtain ⟨s, h1, h2⟩ := tb_sub _ _ h.1
    have h3 : t - 2 ^ p.toNat = s := by omega
    rw [h3] at h
    have h4 := Nat.two_pow_pos p.toNat
    refine ⟨s, List.mem_range.2 (by omega), ?_⟩
    simp only [Bool.and_eq_true, List.any_eq_true, Bool.not_eq_true', beq_iff_eq]
    exact ⟨h.2, p, hp, h1, h2⟩
theorem app_fresh {α : Type} {es : Nat} {e : α → List AV} {B : AHeap} {y : AV} {ys : List α} (hy : Ls es e B y ys) {n : Nat} (hn : B[n]? = some (.cells true [])) (h0 : 0 < ys.length) (hl : ys.length ≤ lim) :
    appA es B (.sl es n 0 0 true) y = some (.sl es B.length 0 ys.length false, B ++ [.cells true (ys.flatMap e)]) := by
  unfold appA
  rw [hy.hc]
  have : ys.length ≠ 0 := by omega
  simp [this, hn, hl]
theorem OL_base {α : Type} {es : Nat} {e : α → List AV} {A B H : AHeap} {n : Nat} {v : AV} {xs : List α} (hp : A <+: B) (h : OL es e B H n v xs) : OL es e A H n v xs := ⟨h.he, hp.trans h.pre, Nat.le_trans hp.length_le h.new, h.ob, h.v⟩
theorem flat_eb (b : Bool) : ∀ y ∈ eb b, flat y = true := by simp [eb, flat]
set_option maxHeartbeats 1000000 in
theorem s58 {P : Int} {ws : List (AV × List Int)} {A : AHeap} {v : AV} (hv : Val P (lists ws)) (hw : LL A v ws) (wo : Int) :
    ACalls Try.prog 58 [.agg [I P, v], I wo] A (.sl 1 A.length 0 (2 ^ P.toNat) false) (A ++ [.cells true ((tb (2 ^ P.toNat) (cF (lists ws) wo ws.length)).flatMap eb)]) := by
  refine acalls hmix Try.func58 (by kernel_rfl) t58 2 rfl (by decide) ?_
  have hP := hv.hP
  have hn : ws.length ≤ 7 := by simpa using hv.n
  have hls : ∀ l ∈ lists ws, ∀ p ∈ l, inP P p := fun l hl => (hv.l l hl).1
  obtain ⟨p', hp', hpn⟩ : ∃ p' : Nat, P = (p' : Int) ∧ P.toNat = p' := ⟨P.toNat, by omega, rfl⟩
  rw [hpn]
  have hp7 : p' ≤ 7 := by omega
  have hpow : 2 ^ p' ≤ 128 := by
    have : 2 ^ p' ≤ 2 ^ 7 := Nat.pow_le_pow_right (by omega) hp7
    omega
  have hpow0 : 0 < 2 ^ p' := Nat.pow_pos (by omega)
  have hshl := (bit_facts (s := 0) (p := p') (by omega) (by omega)).1
  have hcv := u64w P (by omega) (by omega)
  rw [hp'] at hcv ⊢
  generalize hN : 2 ^ p' = N at *
  have hN0 : (0 : Int) ≤ (N : Int) := by omega
  have hNl : (N : Int) ≤ (lim : Int) := by simp [lim]; omega
  dsimp only [m58]
  simp (maxSteps := 4000000) -implicitDefEqProofs -dsimp (disch := omega) only [↓AW_ops, ↓AW_seq, ↓AOps_nil, ↓AOps_pu, ↓AOps_ha, on_some, extK_app, ↓then_normal, pval, hval_mks, rd_S, rd_C, put_S, chkd, isAdr, bgot, cells_agg, partA, beq_self_eq_true, eq_self, List.replicate_succ, List.replicate_zero, List.set_cons_zero, List.set_cons_succ, List.getElem?_cons_zero, List.getElem?_cons_succ, List.drop_zero, List.take_zero, List.take_succ_cons, Option.getD_some, List.length_cons, List.length_nil, Nat.reduceAdd, Nat.reduceSub, Nat.reduceLeDiff, Nat.zero_add, List.cons_append, List.nil_append, if_true, if_false, Bool.false_eq_true, and_true, hcv, hshl, hN0, hNl, Int.le_refl, Int.toNat_natCast]
  rw [repl_false]
  have hmk := OL.new_mk eb_len A (List.replicate N false) true
  rw [List.length_replicate] at hmk
  have hst := hmk.st (i := 0) (by simp; omega) (B true) true rfl
  rw [Nat.zero_mul, Nat.add_zero] at hst
  have hOL := hmk.set 0 true
  have h0N : 0 < (List.replicate N false).length := by simp; omega
  generalize hvv : AV.sl 1 A.length 0 N true = vv at *
  simp (maxSteps := 4000000) -implicitDefEqProofs -dsimp (disch := omega) only [↓AW_ops, ↓AW_seq, ↓AW_block, ↓AOps_nil, ↓AOps_pu, ↓AOps_ha, on_some, extK_false, ↓then_normal, pval, hval_st, rd_S, rd_C, put_S, putS_none, ↓AW_toLoop, List.replicate_succ, List.replicate_zero, List.set_cons_zero, List.set_cons_succ, List.getElem?_cons_zero, List.getElem?_cons_succ, Option.getD_some, Option.map_some, Nat.reduceSub, Nat.reduceMul, Nat.add_zero, List.cons_append, List.nil_append, hmk.ls.idxI (k := .i64) (i := 0) (by omega) (by omega), Int.toNat_zero, hst]
  have hset : (List.replicate N false).set 0 true = tb N (cF (lists ws) wo 0) := by
    rw [tb_false, tb_set]
    refine tb_congr (fun t _ => ?_)
    simp [cF]
  rw [hset] at hOL ⊢
  refine LoopK.by 74 (fun x : Nat × AV × Nat × AHeap => x.1 ≤ ws.length ∧ OL 1 eb A x.2.2.2 x.2.2.1 x.2.1 (tb N (cF (lists ws) wo x.1))) (fun x => [(1, I wo), (2, .agg [I (p' : Int), v]), (5, x.2.1), (6, I x.1)]) (fun x => x.2.2.2) (fun x => ws.length - x.1) (0, vv, A.length, _) ⟨by simp only; omega, hOL⟩ rfl (by simp [Has, rd_s]) rfl ?_
  rintro ⟨i, vc, nc, H⟩ ⟨hi, hc⟩
  simp only at hi hc
  have hwH := hw.mono hc.pre
  by_cases hlt : i < ws.length
  · obtain ⟨x, hz⟩ : ∃ z, ws[i]? = some z := ⟨_, List.getElem?_eq_getElem hlt⟩
    have hlt' : (i : Int) < ws.length := by omega
    have hm := List.mem_of_getElem? hz
    have hlx := lst_at hz
    have hxP := hls x.2 (List.mem_map.2 ⟨x, hm, rfl⟩)
    have hxl := hv.len (List.mem_map.2 ⟨x, hm, rfl⟩ : x.2 ∈ lists ws)
    by_cases hwo : (i : Int) = wo
    · subst hwo
      simp (maxSteps := 4000000) -implicitDefEqProofs -dsimp (disch := omega) only [↓AW_skip, ↓AW_ops, ↓AW_seq, ↓AW_cond, ↓AW_block, ↓AW_exit, ↓AW_ret, ↓AOps_nil, ↓AOps_pu, on_some, condB_t, ↓then_normal, ↓then_exit, ↓inBlock_exit, ↓Fin_ret, pval, rd_S, rd_C, put_S, resV, resL, chkd, isAdr, bgot, cells_agg, partA, eq_self, mk, List.foldl_cons, List.foldl_nil, List.replicate_succ, List.replicate_zero, List.set_cons_zero, List.set_cons_succ, List.getElem?_cons_zero, List.getElem?_cons_succ, List.drop_zero, List.drop_succ_cons, List.take_succ_cons, List.take_nil, Option.getD_some, List.length_cons, List.length_nil, Nat.reduceAdd, Nat.reduceLeDiff, Nat.zero_add, bin_add, bin_eql, bin_lss, w64, if_true, if_false, Bool.false_eq_true, decide_true, true_and, reduceCtorEq, hlt', hwH.ls.len]
      refine ⟨(i + 1, vc, nc, H), ⟨hlt, ?_⟩, by simp [Has, rd_s], rfl, by simp only; omega⟩
      simp only
      have : tb N (cF (lists ws) i (i + 1)) = tb N (cF (lists ws) i i) := tb_congr (fun t _ => by rw [cF, if_pos rfl])
      rw [this]; exact hc
    · generalize hfi : cF (lists ws) wo i = f at *
      have pB := pre_app H [.cells true []]
      have hcB := hc.ls.mono pB
      have happ := app_fresh hcB (get_new H (.cells true [])) (by rw [tb_len]; exact hpow0) (by rw [tb_len]; simp [lim]; omega)
      rw [tb_len] at happ
      have hlc : lenA vc = some (I N) := by have := hc.ls.len; rwa [tb_len] at this
      have hO2 := OL.new_mk eb_len (H ++ [.cells true []]) (tb N f) false
      rw [tb_len] at hO2
      simp (maxSteps := 4000000) -implicitDefEqProofs -dsimp (disch := omega) only [↓AW_skip, ↓AW_ops, ↓AW_seq, ↓AW_cond, ↓AW_block, ↓AOps_nil, ↓AOps_pu, ↓AOps_ha, on_some, extK_app, condB_t, condB_f, ↓then_normal, pval, hval_blds, hval_app, rd_S, rd_C, put_S, ↓AW_toLoop, chkd, isAdr, bgot, cells_agg, partA, fillA, repl, eq_self, mk, List.foldl_cons, List.foldl_nil, List.replicate_succ, List.replicate_zero, List.set_cons_zero, List.set_cons_succ, List.getElem?_cons_zero, List.getElem?_cons_succ, List.drop_zero, List.drop_succ_cons, List.take_succ_cons, List.take_nil, Option.getD_some, map_n, List.length_cons, List.length_nil, Nat.reduceAdd, Nat.reduceLeDiff, Nat.zero_add, bin_eql, bin_lss, if_true, if_false, Bool.false_eq_true, decide_true, decide_false, hlt', hwH.ls.len, hwo, List.replicate_zero, repl, happ]
      have hwB := hwH.mono pB
      generalize hBB : H ++ [AObj.cells true []] = Bh at *
      generalize hvn : AV.sl 1 Bh.length 0 N false = vn at *
      have h0 : tb N f = tb N (nx f x.2 0) := tb_congr (fun t _ => by simp [nx])
      rw [h0] at hO2 ⊢
      refine LoopK.by 74 (fun y : Nat × AHeap => y.1 ≤ N ∧ OL 1 eb Bh y.2 Bh.length vn (tb N (nx f x.2 y.1))) (fun y => [(1, I wo), (2, .agg [I (p' : Int), v]), (5, vc), (6, I i), (7, vn), (8, I y.1)]) (fun y => y.2) (fun y => N - y.1) (0, _) ⟨by simp only; omega, hO2⟩ rfl (by simp [Has, rd_s]) rfl ?_
      rintro ⟨s, Hs⟩ ⟨hs, ho⟩
      simp only at hs ho
      by_cases hsN : s < N
      · have hsN' : (s : Int) < N := by omega
        have hsl : s < (tb N f).length := by rw [tb_len]; exact hsN
        have hgs := tb_get (f := f) hsN
        simp (maxSteps := 4000000) -implicitDefEqProofs -dsimp (disch := omega) only [↓AW_skip, ↓AW_ops, ↓AW_seq, ↓AW_cond, ↓AW_block, ↓AOps_nil, ↓AOps_pu, on_some, condB_t, ↓then_normal, pval, rd_S, rd_C, put_S, ↓AW_toLoop, mk, List.foldl_cons, List.foldl_nil, List.replicate_succ, List.replicate_zero, List.set_cons_zero, List.set_cons_succ, List.getElem?_cons_zero, List.getElem?_cons_succ, Option.getD_some, bin_lss, decide_true, hsN', hlc]
        refine LoopK.by 74 (fun y : Nat × AHeap => y.1 ≤ x.2.length ∧ (f s = false → y.1 = 0) ∧ OL 1 eb Bh y.2 Bh.length vn (tb N (fun t => nx f x.2 s t || (x.2.take y.1).any (fun p => !s.testBit p.toNat && t == s + 2 ^ p.toNat)))) (fun y => [(1, I wo), (2, .agg [I (p' : Int), v]), (5, vc), (6, I i), (7, vn), (8, I s), (9, I y.1)]) (fun y => y.2) (fun y => x.2.length - y.1) (0, Hs) ⟨by simp only; omega, fun _ => rfl, by simpa using ho⟩ rfl (by simp [Has, rd_s]) rfl ?_
        rintro ⟨k, Hk⟩ ⟨hk, hk0, hok⟩
        simp only at hk hk0 hok
        have hwk := hwB.mono hok.pre
        have hck := hcB.mono hok.pre
        have hxk := hwk.inn x hm
        by_cases hltk : k < x.2.length
        · have hltk' : (k : Int) < x.2.length := by omega
          obtain ⟨p, hzp⟩ : ∃ p, x.2[k]? = some p := ⟨_, List.getElem?_eq_getElem hltk⟩
          have hpp := hxP p (List.mem_of_getElem? hzp)
          by_cases hf : f s = true
          · rw [hf] at hgs
            obtain ⟨pn, hpe, hpt⟩ : ∃ pn : Nat, p = (pn : Int) ∧ p.toNat = pn := ⟨p.toNat, by have := hpp.1; omega, rfl⟩
            have hpn7 : pn < p' := by have := hpp.2; omega
            obtain ⟨b1, b2, b3⟩ := bit_facts (s := s) (p := pn) (by omega) (by omega)
            have hcvp := u64w p hpp.1 (by have := hpp.2; omega)
            have hstep : ∀ t, ((x.2.take (k + 1)).any (fun p => !s.testBit p.toNat && t == s + 2 ^ p.toNat)) = ((x.2.take k).any (fun p => !s.testBit p.toNat && t == s + 2 ^ p.toNat) || (!s.testBit pn && t == s + 2 ^ pn)) := fun t => by
              rw [List.take_add_one, hzp, List.any_append]
              simp [hpt]
            rw [hpe] at hcvp
            by_cases hb : s.testBit pn = true
            · rw [if_pos hb] at b2
              have hne : ¬ ((2 ^ pn : Nat) : Int) = 0 := by have : 0 < 2 ^ pn := Nat.pow_pos (by omega); omega
              simp (maxSteps := 4000000) -implicitDefEqProofs -dsimp (disch := omega) only [↓AW_skip, ↓AW_ops, ↓AW_seq, ↓AW_cond, ↓AW_block, ↓AOps_nil, ↓AOps_pu, ↓AOps_ld, ↓AOps_guard, on_some, guardB_tt, condB_t, condB_f, ↓then_normal, ↓inBlock_normal, pval, lval, rd_S, rd_C, put_S, chkd, isAdr, bgot, cells_agg, partA, eq_self, mk, List.foldl_cons, List.foldl_nil, List.replicate_succ, List.replicate_zero, List.set_cons_zero, List.set_cons_succ, List.getElem?_cons_zero, List.getElem?_cons_succ, List.drop_zero, List.drop_succ_cons, List.take_succ_cons, List.take_nil, Option.getD_some, List.length_cons, List.length_nil, Nat.reduceAdd, Nat.reduceLeDiff, Nat.zero_add, bin_add, bin_eql, bin_lss, w64, if_true, if_false, Bool.false_eq_true, decide_true, decide_false, Go.Eng.e1, true_and, hltk', hwk.ls.idx hlt, hwk.ls.ld0 hz 1 false (by decide), e0, hck.idx hsl, hck.ld0 hgs 1 false (by decide), eb, hxk.len, hxk.idx hltk, hxk.ld0 hzp 1 false (by decide), hpe, hcvp, b1, b2, hne]
              refine ⟨(k + 1, Hk), ⟨hltk, (fun h => by rw [hf] at h; cases h), ?_⟩, by simp [Has, rd_s], rfl, by simp only; omega⟩
              simp only
              have : tb N (fun t => nx f x.2 s t || (x.2.take (k + 1)).any (fun p => !s.testBit p.toNat && t == s + 2 ^ p.toNat)) = tb N (fun t => nx f x.2 s t || (x.2.take k).any (fun p => !s.testBit p.toNat && t == s + 2 ^ p.toNat)) := tb_congr (fun t _ => by rw [hstep t, hb]; simp)
              rw [this]; exact hok
            · have hb' : s.testBit pn = false := by simpa using hb
              rw [if_neg hb] at b2
              have b3' := b3 hb'
              have hsum : s + 2 ^ pn < N := by
                have h5 : s + 2 ^ pn < 2 ^ p' := by
                  refine Nat.lt_pow_two_of_testBit _ (fun q hq => ?_)
                  rw [tb_add _ _ _ hb']
                  have : s.testBit q = false := Nat.testBit_lt_two_pow (Nat.lt_of_lt_of_le (by rw [hN]; exact hsN) (Nat.pow_le_pow_right (by omega) hq))
                  rw [this]
                  simp; omega
                rw [hN] at h5; exact h5
              have hstk := hok.st (i := s + 2 ^ pn) (by rw [tb_len]; exact hsum) (B true) true rfl
              have hidx := hok.ls.idx (k := .i64) (i := s + 2 ^ pn) (by rw [tb_len]; exact hsum)
              simp (maxSteps := 4000000) -implicitDefEqProofs -dsimp (disch := omega) only [↓AW_skip, ↓AW_ops, ↓AW_seq, ↓AW_cond, ↓AW_block, ↓AOps_nil, ↓AOps_pu, ↓AOps_ld, ↓AOps_ha, ↓AOps_guard, on_some, extK_false, guardB_tt, condB_t, ↓then_normal, ↓inBlock_normal, pval, lval, hval_st, rd_S, rd_C, put_S, putS_none, chkd, isAdr, bgot, cells_agg, partA, eq_self, mk, List.foldl_cons, List.foldl_nil, List.replicate_succ, List.replicate_zero, List.set_cons_zero, List.set_cons_succ, List.getElem?_cons_zero, List.getElem?_cons_succ, List.drop_zero, List.drop_succ_cons, List.take_succ_cons, List.take_nil, Option.getD_some, Option.map_some, List.length_cons, List.length_nil, Nat.reduceAdd, Nat.reduceLeDiff, Nat.zero_add, bin_add, bin_eql, bin_lss, w64, if_true, if_false, Bool.false_eq_true, decide_true, Go.Eng.e1, true_and, hltk', hwk.ls.idx hlt, hwk.ls.ld0 hz 1 false (by decide), e0, hck.idx hsl, hck.ld0 hgs 1 false (by decide), eb, hxk.len, hxk.idx hltk, hxk.ld0 hzp 1 false (by decide), hpe, hcvp, b1, b2, b3', hidx, hstk]
              refine ⟨(k + 1, _), ⟨hltk, (fun h => by rw [hf] at h; cases h), ?_⟩, by simp [Has, rd_s], rfl, by simp only; omega⟩
              simp only
              have : tb N (fun t => nx f x.2 s t || (x.2.take (k + 1)).any (fun p => !s.testBit p.toNat && t == s + 2 ^ p.toNat)) = (tb N (fun t => nx f x.2 s t || (x.2.take k).any (fun p => !s.testBit p.toNat && t == s + 2 ^ p.toNat))).set (s + 2 ^ pn) true := by
                rw [tb_set]
                exact tb_congr (fun t _ => by rw [hstep t, hb']; simp [Bool.or_assoc])
              rw [this]; exact hok.set _ _
          · have hf' : f s = false := by simpa using hf
            have hk00 := hk0 hf'
            rw [hf'] at hgs
            simp (maxSteps := 4000000) -implicitDefEqProofs -dsimp (disch := omega) only [↓AW_ops, ↓AW_seq, ↓AW_cond, ↓AW_exit, ↓AW_ret, ↓AOps_nil, ↓AOps_pu, ↓AOps_ld, ↓AOps_guard, on_some, guardB_tt, condB_f, ↓then_normal, ↓then_exit, ↓inBlock_normal, ↓inBlock_exit, ↓Fin_ret, pval, lval, rd_S, rd_C, put_S, resV, resL, chkd, isAdr, bgot, cells_agg, partA, eq_self, mk, List.foldl_cons, List.foldl_nil, List.replicate_succ, List.replicate_zero, List.set_cons_zero, List.set_cons_succ, List.getElem?_cons_zero, List.getElem?_cons_succ, List.drop_zero, List.drop_succ_cons, List.take_succ_cons, List.take_nil, Option.getD_some, List.length_cons, List.length_nil, Nat.reduceAdd, Nat.reduceLeDiff, Nat.reduceEqDiff, Nat.zero_add, bin_add, bin_lss, w64, if_true, if_false, Bool.false_eq_true, decide_true, true_and, reduceCtorEq, hltk', hwk.ls.idx hlt, hwk.ls.ld0 hz 1 false (by decide), e0, hxk.len, hck.idx hsl, hck.ld0 hgs 1 false (by decide), eb]
            refine ⟨(s + 1, Hk), ⟨hsN, ?_⟩, by simp [Has, rd_s], rfl, by simp only; omega⟩
            simp only
            have : tb N (nx f x.2 (s + 1)) = tb N (fun t => nx f x.2 s t || (x.2.take k).any (fun p => !s.testBit p.toNat && t == s + 2 ^ p.toNat)) := tb_congr (fun t _ => by rw [nx_succ, hf', hk00]; simp)
            rw [this]; exact hok
        · have hltk' : ¬ ((k : Int) < x.2.length) := by omega
          rw [List.take_of_length_le (by omega)] at hok
          simp (maxSteps := 4000000) -implicitDefEqProofs -dsimp (disch := omega) only [↓AW_ops, ↓AW_seq, ↓AW_cond, ↓AW_exit, ↓AW_ret, ↓AOps_nil, ↓AOps_pu, ↓AOps_ld, ↓AOps_guard, on_some, guardB_ft, skipS_some, condB_f, ↓then_normal, ↓then_exit, ↓inBlock_normal, ↓inBlock_exit, ↓Fin_ret, pval, lval, rd_S, rd_C, put_S, resV, resL, chkd, isAdr, bgot, cells_agg, partA, eq_self, mk, List.foldl_cons, List.foldl_nil, List.replicate_succ, List.replicate_zero, List.set_cons_zero, List.set_cons_succ, List.getElem?_cons_zero, List.getElem?_cons_succ, List.drop_zero, List.drop_succ_cons, List.take_succ_cons, List.take_nil, Option.getD_some, List.length_cons, List.length_nil, Nat.reduceAdd, Nat.reduceLeDiff, Nat.reduceEqDiff, Nat.zero_add, bin_add, bin_lss, w64, if_true, if_false, Bool.false_eq_true, decide_false, true_and, reduceCtorEq, hltk', hwk.ls.idx hlt, hwk.ls.ld0 hz 1 false (by decide), e0, hxk.len]
          refine ⟨(s + 1, Hk), ⟨hsN, ?_⟩, by simp [Has, rd_s], rfl, by simp only; omega⟩
          simp only
          by_cases hf : f s = true
          · have : tb N (nx f x.2 (s + 1)) = tb N (fun t => nx f x.2 s t || x.2.any (fun p => !s.testBit p.toNat && t == s + 2 ^ p.toNat)) := tb_congr (fun t _ => by rw [nx_succ, hf]; simp)
            rw [this]; exact hok
          · have hf' : f s = false := by simpa using hf
            have hk00 := hk0 hf'
            have hxe : x.2 = [] := List.eq_nil_of_length_eq_zero (by omega)
            have : tb N (nx f x.2 (s + 1)) = tb N (fun t => nx f x.2 s t || x.2.any (fun p => !s.testBit p.toNat && t == s + 2 ^ p.toNat)) := tb_congr (fun t _ => by rw [nx_succ, hf', hxe]; simp)
            rw [this]; exact hok
      · have hsN' : ¬ ((s : Int) < N) := by omega
        have hsn : s = N := by omega
        subst hsn
        simp (maxSteps := 4000000) -implicitDefEqProofs -dsimp (disch := omega) only [↓AW_ops, ↓AW_seq, ↓AW_cond, ↓AW_exit, ↓AW_ret, ↓AOps_nil, ↓AOps_pu, on_some, condB_f, ↓then_normal, ↓then_exit, ↓inBlock_normal, ↓inBlock_exit, ↓Fin_ret, pval, rd_S, rd_C, put_S, resV, resL, eq_self, mk, List.foldl_cons, List.foldl_nil, List.replicate_succ, List.replicate_zero, List.set_cons_zero, List.set_cons_succ, List.getElem?_cons_zero, List.getElem?_cons_succ, Option.getD_some, List.length_cons, List.length_nil, Nat.reduceAdd, Nat.reduceEqDiff, Nat.zero_add, bin_add, bin_lss, w64, if_true, if_false, decide_false, true_and, reduceCtorEq, hsN', hlc]
        refine ⟨(i + 1, vn, Bh.length, Hs), ⟨hlt, ?_⟩, by simp [Has, rd_s], rfl, by simp only; omega⟩
        simp only
        have : tb s (cF (lists ws) wo (i + 1)) = tb s (nx f x.2 s) := tb_congr (fun t ht => by rw [cF, if_neg hwo, nx_end f x.2 ht, hlx, hfi])
        rw [this]
        exact OL_base (hc.pre.trans pB) ho
  · have hlt' : ¬ ((i : Int) < ws.length) := by omega
    have hii : i = ws.length := by omega
    subst hii
    simp (maxSteps := 4000000) -implicitDefEqProofs -dsimp (disch := omega) only [↓AW_ops, ↓AW_seq, ↓AW_cond, ↓AW_exit, ↓AW_ret, ↓AOps_nil, ↓AOps_pu, on_some, condB_f, ↓then_normal, ↓then_exit, ↓inBlock_exit, ↓Fin_ret, pval, rd_S, put_S, resV, resL, chkd, isAdr, bgot, cells_agg, partA, eq_self, mk, List.foldl_cons, List.foldl_nil, List.replicate_succ, List.replicate_zero, List.set_cons_zero, List.set_cons_succ, List.getElem?_cons_zero, List.getElem?_cons_succ, List.drop_zero, List.drop_succ_cons, List.take_succ_cons, List.take_nil, Option.getD_some, List.length_cons, List.length_nil, Nat.reduceAdd, Nat.reduceLeDiff, Nat.zero_add, bin_lss, if_true, if_false, Bool.false_eq_true, decide_false, hlt', hwH.ls.len]
    have := OL_gcS hc flat_eb
    rwa [tb_len] at this
end Go.Proofs.Ytlmbobbefgcolaa

namespace Go.Proofs.Ytlmbobbefgcolaa
open Go Go.Eng
theorem drp_none (ls : List (List Int)) : drp ls (-1) = ls := by unfold drp; rw [if_neg (by omega)]
end Go.Proofs.Ytlmbobbefgcolaa

namespace Go.Proofs.Ytlmbobbefgcolaa
open Go Go.Eng
theorem e0_len (x : AV × List Int) : (e0 x).length = 1 := rfl
theorem s55 {ws : List (AV × List Int)} {v : AV} {A : AHeap} (hw : LL A v ws) (h0 : 0 < ws.length) (hl : ws.length ≤ 1000) : ACalls Try.prog 55 [v] A (.sl 1 (A.length + 1) 0 ws.length false) (A ++ [.cells true [], .cells true (ws.flatMap e0)]) := by
  refine acalls hmix Try.func55 (by kernel_rfl) t55 1 rfl (by decide) ?_
  rcases hw.ls.inv with ⟨rfl, rfl⟩ | ⟨n, off, full, rw, l, rfl, h1, h2, h3⟩
  · simp at h0
  · have happ := app_fresh (hw.ls.mono (pre_app A [.cells true []])) (get_new A (.cells true [])) h0 (by simp [lim]; omega)
    rw [List.length_append, List.length_singleton] at happ
    dsimp only [m55]
    simp (maxSteps := 4000000) -implicitDefEqProofs -dsimp (disch := omega) only [↓AW_skip, ↓AW_ops, ↓AW_seq, ↓AW_cond, ↓AW_ret, ↓AOps_nil, ↓AOps_pu, ↓AOps_ha, on_some, extK_app, condB_f, ↓then_normal, ↓Fin_ret, pval, hval_blds, hval_app, rd_S, rd_C, put_S, resV, resL, fillA, repl, List.replicate_succ, List.replicate_zero, List.set_cons_zero, List.set_cons_succ, List.getElem?_cons_zero, List.getElem?_cons_succ, Option.getD_some, map_n, Nat.reduceSub, List.cons_append, List.nil_append, List.replicate_zero, repl, happ]
    exact gc_same_all rfl (by simp)
def sureB (P : Int) (ls : List (List Int)) (i : Int) : Bool := decide (most P (drp ls i) < most P ls)
def sureN (P : Int) (ls : List (List Int)) (n : Nat) : List Int := (nums n).filter (sureB P ls)
theorem sureN_succ (P : Int) (ls : List (List Int)) (n : Nat) : sureN P ls (n + 1) = sureN P ls n ++ if sureB P ls n = true then [(n : Int)] else [] := by
  unfold sureN
  rw [nums_succ, List.filter_append]
  simp only [List.filter_cons, List.filter_nil]
theorem sureN_le (P : Int) (ls : List (List Int)) (n : Nat) : (sureN P ls n).length ≤ n := by
  have := List.length_filter_le (sureB P ls) (nums n)
  simp only [nums, List.length_map, List.length_range] at this
  exact this
def sureL (P : Int) (ls : List (List Int)) : List Int := if vW P ls = 0 then sureN P ls ls.length else []
theorem val_drp {P : Int} {ls : List (List Int)} (h : Val P ls) (i : Int) : Val P (drp ls i) := by
  refine ⟨h.hP, by rw [drp_len]; exact h.n, fun l hl => ?_⟩
  unfold drp at hl
  split at hl
  · rcases List.mem_or_eq_of_mem_set hl with h1 | rfl
    · exact h.l l h1
    · exact ⟨by simp, by simp⟩
  · exact h.l l hl
theorem lists_set (ws : List (AV × List Int)) (i : Nat) : lists (ws.set i (.nilS, [])) = drp (lists ws) i := by
  unfold drp
  rw [if_pos (by omega), Int.toNat_natCast]
  exact List.map_set
theorem s19 {P : Int} {ws : List (AV × List Int)} {v : AV} {A : AHeap} (hw : LL A v ws) (hs : Sz ws) : ACalls Try.prog 19 [.agg [I P, v]] A (.tuple [outV 1 A (sureL P (lists ws)).length, I (vW P (lists ws))]) (outH A ((sureL P (lists ws)).flatMap e1) (sureL P (lists ws)).length) := by
  refine acalls hmix Try.func19 (by kernel_rfl) t19 1 rfl (by decide) ?_
  dsimp only [m19]
  simp (maxSteps := 4000000) -implicitDefEqProofs -dsimp (disch := omega) only [↓AW_ops, ↓AW_seq, ↓AOps_nil, ↓AOps_pu, ↓AOps_call, on_some, ↓then_normal, pval, rd_S, rd_C, put_S, chkd, bgot, cells_agg, partA, eq_self, List.replicate_succ, List.replicate_zero, List.set_cons_zero, List.set_cons_succ, List.getElem?_cons_zero, List.getElem?_cons_succ, List.drop_zero, List.take_succ_cons, List.take_nil, Option.getD_some, map_c, map_n, List.length_cons, List.length_nil, Nat.reduceAdd, Nat.reduceSub, Nat.reduceLeDiff, Nat.reduceEqDiff, Nat.zero_add, List.cons_append, List.nil_append, if_true, if_false]
  refine CallK.of (s39 hw hs) ?_
  by_cases h0 : vW P (lists ws) = 0
  · have hv := val_of h0
    have hn : ws.length ≤ 7 := by simpa using hv.n
    have hL : sureL P (lists ws) = sureN P (lists ws) ws.length := by unfold sureL; rw [if_pos h0, List.length_map]
    rw [hL, h0]
    simp (maxSteps := 4000000) -implicitDefEqProofs -dsimp (disch := omega) only [↓AW_skip, ↓AW_ops, ↓AW_seq, ↓AW_cond, ↓AW_block, ↓AOps_nil, ↓AOps_pu, on_some, extK_same, condB_f, ↓then_normal, pval, rd_S, rd_C, put_S, ↓AW_toLoop, chkd, isAdr, bgot, cells_agg, partA, eq_self, List.replicate_succ, List.replicate_zero, List.set_cons_zero, List.set_cons_succ, List.getElem?_cons_zero, List.getElem?_cons_succ, List.drop_zero, List.drop_succ_cons, List.take_succ_cons, List.take_nil, Option.getD_some, List.length_cons, List.length_nil, Nat.reduceAdd, Nat.reduceSub, Nat.reduceLeDiff, Nat.zero_add, List.cons_append, List.nil_append, bin_neq, if_true, if_false, Bool.false_eq_true, decide_false, not_true_eq_false, hw.ls.len]
    refine LoopK.by 40 (fun x : Nat × AV × AHeap => x.1 ≤ ws.length ∧ AccL 1 e1 A x.2.2 x.2.1 (sureN P (lists ws) x.1)) (fun x => [(1, .agg [I P, v]), (5, x.2.1), (15, I ws.length), (16, I x.1)]) (fun x => x.2.2) (fun x => ws.length - x.1) (0, .nilS, A) ⟨by simp only; omega, AccL.nil (List.prefix_refl _)⟩ rfl (by simp [Has, rd_s]) rfl ?_
    rintro ⟨i, u, A1⟩ ⟨hi, hu⟩
    simp only at hi hu
    by_cases hlt : i < ws.length
    · have hlt' : (i : Int) < ws.length := by omega
      have hw1 := hw.mono hu.pre
      simp (maxSteps := 4000000) -implicitDefEqProofs -dsimp (disch := omega) only [↓AW_skip, ↓AW_ops, ↓AW_seq, ↓AW_cond, ↓AW_block, ↓AOps_nil, ↓AOps_pu, ↓AOps_call, on_some, condB_t, ↓then_normal, pval, rd_S, put_S, chkd, isAdr, bgot, cells_agg, partA, eq_self, mk, List.foldl_cons, List.foldl_nil, List.replicate_succ, List.replicate_zero, List.set_cons_zero, List.set_cons_succ, List.getElem?_cons_zero, List.getElem?_cons_succ, List.drop_zero, List.drop_succ_cons, List.take_zero, List.take_succ_cons, List.take_nil, Option.getD_some, map_c, map_n, List.length_cons, List.length_nil, Nat.reduceAdd, Nat.reduceLeDiff, Nat.zero_add, bin_lss, if_true, if_false, Bool.false_eq_true, decide_true, hlt']
      refine CallK.of (s55 hw1 (by omega) (by omega)) ?_
      have hOL : OL 1 e0 A1 (A1 ++ [.cells true [], .cells true (ws.flatMap e0)]) (A1.length + 1) (.sl 1 (A1.length + 1) 0 ws.length false) ws := ⟨e0_len, pre_app _ _, by omega, by rw [List.getElem?_append_right (by omega), Nat.add_sub_cancel_left]; rfl, false, rfl⟩
      generalize hA2 : A1 ++ [AObj.cells true [], AObj.cells true (ws.flatMap e0)] = A2 at *
      have hst := hOL.st hlt .nilS (.nilS, []) rfl
      have hset := hOL.set i ((.nilS, []) : AV × List Int)
      have hidx := hOL.ls.idx (k := .i64) hlt
      generalize hvv : AV.sl 1 (A1.length + 1) 0 ws.length false = vv at *
      have hcell : vv.cells? = some [vv] := by rw [← hvv]; rfl
      simp (maxSteps := 4000000) -implicitDefEqProofs -dsimp (disch := omega) only [↓AW_ops, ↓AW_seq, ↓AOps_nil, ↓AOps_pu, ↓AOps_ha, ↓AOps_call, on_some, extK_false, ↓then_normal, pval, hval_st, rd_S, rd_C, put_S, putS_none, chkd, isAdr, bput, bgot, cells_agg, cells_int, splice, partA, fillA, eq_self, mk, List.foldl_cons, List.foldl_nil, List.replicate_succ, List.replicate_zero, List.set_cons_zero, List.set_cons_succ, List.getElem?_cons_zero, List.getElem?_cons_succ, List.drop_zero, List.drop_succ_cons, List.drop_nil, List.take_zero, List.take_succ_cons, List.take_nil, Option.getD_some, Option.map_some, map_c, map_n, List.length_cons, List.length_nil, Nat.reduceAdd, Nat.reduceLeDiff, Nat.reduceEqDiff, Nat.zero_add, List.cons_append, List.nil_append, List.append_nil, if_true, if_false, Bool.false_eq_true, and_true, ne_eq, not_true_eq_false, hcell, hidx, hst]
      generalize hA3 : A2.set (A1.length + 1) (.cells true ((ws.set i (.nilS, [])).flatMap e0)) = A3 at *
      have hw3 : LL A3 vv (ws.set i (.nilS, [])) := by
        refine ⟨hset.ls, fun x hx => ?_⟩
        rcases List.mem_or_eq_of_mem_set hx with h | rfl
        · exact ((hw1.mono hset.pre).inn x h)
        · exact L1_nil _
      refine CallK.of (s56 (by rw [lists_set]; exact val_drp hv i) hw3) ?_
      rw [lists_set]
      simp (maxSteps := 4000000) -implicitDefEqProofs -dsimp (disch := omega) only [↓AOps_pu, ↓AOps_call, on_some, extK_same, pval, rd_S, put_S, putS_none, chkd, bgot, partA, eq_self, mk, List.foldl_cons, List.foldl_nil, List.replicate_succ, List.replicate_zero, List.set_cons_zero, List.set_cons_succ, List.getElem?_cons_zero, List.getElem?_cons_succ, List.drop_zero, List.take_succ_cons, List.take_nil, Option.getD_some, map_c, map_n, List.length_cons, List.length_nil, Nat.reduceAdd, Nat.reduceLeDiff, Nat.reduceEqDiff, Nat.zero_add, if_true, if_false]
      refine CallK.of (s56 hv (hw1.mono hset.pre)) ?_
      have hu3 := hu.mono hset.pre
      have hple := sureN_le P (lists ws) i
      by_cases hlt2 : most P (drp (lists ws) i) < most P (lists ws)
      · have hb : sureB P (lists ws) i = true := decide_eq_true hlt2
        have hlt3 : ((most P (drp (lists ws) i) : Nat) : Int) < ((most P (lists ws) : Nat) : Int) := by omega
        obtain ⟨v4, A4, happ, h4⟩ := hu3.push e1_len (i : Int) (by simp [lim]; omega)
        simp only [Go.Eng.e1] at happ
        simp (maxSteps := 4000000) -implicitDefEqProofs -dsimp (disch := omega) only [↓AW_ops, ↓AW_cond, ↓AOps_nil, ↓AOps_pu, ↓AOps_ha, on_some, extK_false, extK_app, extK_same, condB_t, ↓then_normal, ↓inBlock_normal, pval, hval_blds, hval_app, rd_S, rd_C, put_S, putS_none, cells_int, splice, fillA, repl, eq_self, mk, List.foldl_cons, List.foldl_nil, List.replicate_succ, List.replicate_zero, List.set_cons_zero, List.set_cons_succ, List.getElem?_cons_zero, List.getElem?_cons_succ, List.drop_succ_cons, List.drop_nil, List.take_zero, Option.getD_some, map_c, map_n, List.length_cons, List.length_nil, Nat.reduceAdd, Nat.reduceLeDiff, Nat.zero_add, List.nil_append, List.append_nil, bin_add, bin_lss, w64, if_true, decide_true, true_and, and_true, hlt3, happ]
        refine ⟨(i + 1, v4, A4), ⟨hlt, ?_⟩, by simp [Has, rd_s], rfl, by simp only; omega⟩
        simp only
        rw [sureN_succ, if_pos hb]
        exact h4
      · have hb : ¬ sureB P (lists ws) i = true := by unfold sureB; simpa using hlt2
        have hlt3 : ¬ ((most P (drp (lists ws) i) : Nat) : Int) < ((most P (lists ws) : Nat) : Int) := by omega
        simp (maxSteps := 4000000) -implicitDefEqProofs -dsimp (disch := omega) only [↓AW_skip, ↓AW_ops, ↓AW_cond, ↓AOps_nil, ↓AOps_pu, on_some, extK_same, condB_f, ↓then_normal, ↓inBlock_normal, pval, rd_S, rd_C, put_S, putS_none, eq_self, mk, List.foldl_cons, List.foldl_nil, List.replicate_succ, List.replicate_zero, List.set_cons_zero, List.set_cons_succ, List.getElem?_cons_zero, List.getElem?_cons_succ, Option.getD_some, List.length_cons, List.length_nil, Nat.reduceAdd, Nat.zero_add, bin_add, bin_lss, w64, decide_false, true_and, hlt3]
        refine ⟨(i + 1, u, A3), ⟨hlt, ?_⟩, by simp [Has, rd_s], rfl, by simp only; omega⟩
        simp only
        rw [sureN_succ, if_neg hb, List.append_nil]
        exact hu3
    · have hlt' : ¬ ((i : Int) < ws.length) := by omega
      have hii : i = ws.length := by omega
      subst hii
      simp (maxSteps := 4000000) -implicitDefEqProofs -dsimp (disch := omega) only [↓AW_ops, ↓AW_seq, ↓AW_cond, ↓AW_exit, ↓AW_ret, ↓AOps_nil, ↓AOps_pu, on_some, condB_f, ↓then_normal, ↓then_exit, ↓inBlock_exit, ↓Fin_ret, pval, rd_S, rd_C, put_S, resV, resL, eq_self, mk, List.foldl_cons, List.foldl_nil, List.replicate_succ, List.replicate_zero, List.set_cons_zero, List.set_cons_succ, List.getElem?_cons_zero, List.getElem?_cons_succ, Option.getD_some, bin_lss, if_true, decide_false, hlt']
      exact hu.gc2 flat_e1 (I 0) rfl
  · have hL : sureL P (lists ws) = [] := by unfold sureL; rw [if_neg h0]
    rw [hL]
    simp (maxSteps := 4000000) -implicitDefEqProofs -dsimp (disch := omega) only [↓AW_ops, ↓AW_seq, ↓AW_cond, ↓AW_ret, ↓AOps_nil, ↓AOps_pu, on_some, extK_same, condB_t, ↓then_normal, ↓then_ret, ↓Fin_ret, pval, rd_S, rd_C, put_S, resV, resL, List.replicate_succ, List.replicate_zero, List.set_cons_zero, List.set_cons_succ, List.getElem?_cons_zero, List.getElem?_cons_succ, Option.getD_some, List.length_nil, Nat.reduceSub, List.cons_append, List.nil_append, bin_neq, decide_true, not_false_eq_true, h0]
    exact gc_same_all rfl rfl
theorem s20 {P : Int} {ws : List (AV × List Int)} {v : AV} {A : AHeap} (hw : LL A v ws) (hs : Sz ws) : ACalls Try.prog 20 [.agg [I P, v]] A (.tuple [outV 1 A (sureL P (lists ws)).length, I (vW P (lists ws))]) (outH A ((sureL P (lists ws)).flatMap e1) (sureL P (lists ws)).length) := by
  refine acalls hmix Try.func20 (by kernel_rfl) t20 1 rfl (by decide) ?_
  dsimp only [m20]
  simp (maxSteps := 4000000) -implicitDefEqProofs -dsimp (disch := omega) only [↓AW_ops, ↓AW_seq, ↓AOps_nil, ↓AOps_pu, ↓AOps_call, on_some, ↓then_normal, pval, rd_S, rd_C, put_S, chkd, bgot, cells_agg, partA, eq_self, List.replicate_succ, List.replicate_zero, List.set_cons_zero, List.set_cons_succ, List.getElem?_cons_zero, List.getElem?_cons_succ, List.drop_zero, List.take_succ_cons, List.take_nil, Option.getD_some, map_c, map_n, List.length_cons, List.length_nil, Nat.reduceAdd, Nat.reduceSub, Nat.reduceLeDiff, Nat.reduceEqDiff, Nat.zero_add, List.cons_append, List.nil_append, if_true, if_false]
  refine CallK.of (s40 hw hs) ?_
  by_cases h0 : vW P (lists ws) = 0
  · have hv := val_of h0
    have hP := hv.hP
    have hls : ∀ l ∈ lists ws, ∀ p ∈ l, inP P p := fun l hl => (hv.l l hl).1
    have hn : ws.length ≤ 7 := by simpa using hv.n
    have hpow : 2 ^ P.toNat ≤ 128 := by
      have : 2 ^ P.toNat ≤ 2 ^ 7 := Nat.pow_le_pow_right (by omega) (by omega)
      omega
    have hL : sureL P (lists ws) = sureN P (lists ws) ws.length := by unfold sureL; rw [if_pos h0, List.length_map]
    rw [hL, h0]
    have key : ∀ (B : AHeap) (wo : Int), Lb (B ++ [.cells true ((tb (2 ^ P.toNat) (cF (lists ws) wo ws.length)).flatMap eb)]) (.sl 1 B.length 0 (2 ^ P.toNat) false) (tb (2 ^ P.toNat) (cF (lists ws) wo ws.length)) := fun B wo => by
      have := (OL.new_mk eb_len B (tb (2 ^ P.toNat) (cF (lists ws) wo ws.length)) false).ls
      rwa [tb_len] at this
    have hmb : ∀ wo, mb (cF (lists ws) wo ws.length) (2 ^ P.toNat) = most P (drp (lists ws) wo) := fun wo => by
      have := mb_most (by omega) hls wo
      rwa [List.length_map] at this
    simp (maxSteps := 4000000) -implicitDefEqProofs -dsimp (disch := omega) only [↓AW_skip, ↓AW_ops, ↓AW_seq, ↓AW_cond, ↓AW_block, ↓AOps_nil, ↓AOps_pu, on_some, extK_same, condB_f, ↓then_normal, pval, rd_S, rd_C, put_S, ↓AW_toLoop, eq_self, List.replicate_succ, List.replicate_zero, List.set_cons_zero, List.set_cons_succ, List.getElem?_cons_zero, List.getElem?_cons_succ, Option.getD_some, Nat.reduceSub, List.cons_append, List.nil_append, bin_neq, decide_false, not_true_eq_false]
    refine LoopK.by 32 (fun x : Nat × AV × AHeap => x.1 ≤ ws.length ∧ AccL 1 e1 A x.2.2 x.2.1 (sureN P (lists ws) x.1)) (fun x => [(1, .agg [I P, v]), (5, x.2.1), (6, I x.1)]) (fun x => x.2.2) (fun x => ws.length - x.1) (0, .nilS, A) ⟨by simp only; omega, AccL.nil (List.prefix_refl _)⟩ rfl (by simp [Has, rd_s]) rfl ?_
    rintro ⟨i, u, A1⟩ ⟨hi, hu⟩
    simp only at hi hu
    have hw1 := hw.mono hu.pre
    by_cases hlt : i < ws.length
    · have hlt' : (i : Int) < ws.length := by omega
      simp (maxSteps := 4000000) -implicitDefEqProofs -dsimp (disch := omega) only [↓AW_skip, ↓AW_ops, ↓AW_seq, ↓AW_cond, ↓AW_block, ↓AOps_nil, ↓AOps_pu, ↓AOps_call, on_some, condB_t, ↓then_normal, pval, rd_S, put_S, chkd, isAdr, bgot, cells_agg, partA, eq_self, mk, List.foldl_cons, List.foldl_nil, List.replicate_succ, List.replicate_zero, List.set_cons_zero, List.set_cons_succ, List.getElem?_cons_zero, List.getElem?_cons_succ, List.drop_zero, List.drop_succ_cons, List.take_succ_cons, List.take_nil, Option.getD_some, map_c, map_n, List.length_cons, List.length_nil, Nat.reduceAdd, Nat.reduceLeDiff, Nat.reduceEqDiff, Nat.zero_add, bin_lss, if_true, if_false, Bool.false_eq_true, decide_true, hlt', hw1.ls.len]
      refine CallK.of (s58 hv hw1 i) ?_
      have k1 := key A1 i
      have p1 := pre_app A1 [.cells true ((tb (2 ^ P.toNat) (cF (lists ws) i ws.length)).flatMap eb)]
      generalize A1 ++ [AObj.cells true ((tb (2 ^ P.toNat) (cF (lists ws) i ws.length)).flatMap eb)] = A2 at *
      simp (maxSteps := 4000000) -implicitDefEqProofs -dsimp (disch := omega) only [↓AOps_call, rd_S, put_S, mk, List.foldl_cons, List.foldl_nil, List.replicate_succ, List.replicate_zero, List.set_cons_zero, List.set_cons_succ, List.getElem?_cons_zero, List.getElem?_cons_succ, Option.getD_some, map_c, map_n, extK_of p1]
      refine CallK.of (s57 k1 (by omega)) ?_
      rw [hmb]
      simp (maxSteps := 4000000) -implicitDefEqProofs -dsimp (disch := omega) only [↓AOps_pu, ↓AOps_call, on_some, extK_same, pval, rd_S, rd_C, put_S, chkd, bgot, partA, eq_self, mk, List.foldl_cons, List.foldl_nil, List.replicate_succ, List.replicate_zero, List.set_cons_zero, List.set_cons_succ, List.getElem?_cons_zero, List.getElem?_cons_succ, List.drop_zero, List.take_succ_cons, List.take_nil, Option.getD_some, map_c, map_n, List.length_cons, List.length_nil, Nat.reduceAdd, Nat.reduceLeDiff, Nat.reduceEqDiff, Nat.zero_add, if_true, if_false, Int.reduceNeg]
      refine CallK.of (s58 hv (hw1.mono p1) (-1)) ?_
      have k2 := key A2 (-1)
      have p2 := p1.trans (pre_app A2 [.cells true ((tb (2 ^ P.toNat) (cF (lists ws) (-1) ws.length)).flatMap eb)])
      have p3 := pre_app A2 [.cells true ((tb (2 ^ P.toNat) (cF (lists ws) (-1) ws.length)).flatMap eb)]
      generalize A2 ++ [AObj.cells true ((tb (2 ^ P.toNat) (cF (lists ws) (-1) ws.length)).flatMap eb)] = A3 at *
      simp (maxSteps := 4000000) -implicitDefEqProofs -dsimp (disch := omega) only [↓AOps_call, rd_S, put_S, mk, List.foldl_cons, List.foldl_nil, List.replicate_succ, List.replicate_zero, List.set_cons_zero, List.set_cons_succ, List.getElem?_cons_zero, List.getElem?_cons_succ, Option.getD_some, map_c, map_n, extK_of p3]
      refine CallK.of (s57 k2 (by omega)) ?_
      rw [hmb, drp_none]
      have hu3 := hu.mono p2
      have hple := sureN_le P (lists ws) i
      by_cases hlt2 : most P (drp (lists ws) i) < most P (lists ws)
      · have hb : sureB P (lists ws) i = true := decide_eq_true hlt2
        have hlt3 : ((most P (drp (lists ws) i) : Nat) : Int) < ((most P (lists ws) : Nat) : Int) := by omega
        obtain ⟨v4, A4, happ, h4⟩ := hu3.push e1_len (i : Int) (by simp [lim]; omega)
        simp only [Go.Eng.e1] at happ
        simp (maxSteps := 4000000) -implicitDefEqProofs -dsimp (disch := omega) only [↓AW_ops, ↓AW_cond, ↓AOps_nil, ↓AOps_pu, ↓AOps_ha, on_some, extK_false, extK_app, extK_same, condB_t, ↓then_normal, ↓inBlock_normal, pval, hval_blds, hval_app, rd_S, rd_C, put_S, cells_int, splice, fillA, repl, eq_self, mk, List.foldl_cons, List.foldl_nil, List.replicate_succ, List.replicate_zero, List.set_cons_zero, List.set_cons_succ, List.getElem?_cons_zero, List.getElem?_cons_succ, List.drop_succ_cons, List.drop_nil, List.take_zero, Option.getD_some, map_c, map_n, List.length_cons, List.length_nil, Nat.reduceAdd, Nat.reduceLeDiff, Nat.zero_add, List.nil_append, List.append_nil, bin_add, bin_lss, w64, if_true, decide_true, true_and, and_true, hlt3, happ]
        refine ⟨(i + 1, v4, A4), ⟨hlt, ?_⟩, by simp [Has, rd_s], rfl, by simp only; omega⟩
        simp only
        rw [sureN_succ, if_pos hb]
        exact h4
      · have hb : ¬ sureB P (lists ws) i = true := by unfold sureB; simpa using hlt2
        have hlt3 : ¬ ((most P (drp (lists ws) i) : Nat) : Int) < ((most P (lists ws) : Nat) : Int) := by omega
        simp (maxSteps := 4000000) -implicitDefEqProofs -dsimp (disch := omega) only [↓AW_skip, ↓AW_ops, ↓AW_cond, ↓AOps_nil, ↓AOps_pu, on_some, extK_same, condB_f, ↓then_normal, ↓inBlock_normal, pval, rd_S, rd_C, put_S, eq_self, mk, List.foldl_cons, List.foldl_nil, List.replicate_succ, List.replicate_zero, List.set_cons_zero, List.set_cons_succ, List.getElem?_cons_zero, List.getElem?_cons_succ, Option.getD_some, List.length_cons, List.length_nil, Nat.reduceAdd, Nat.zero_add, bin_add, bin_lss, w64, decide_false, true_and, hlt3]
        refine ⟨(i + 1, u, A3), ⟨hlt, ?_⟩, by simp [Has, rd_s], rfl, by simp only; omega⟩
        simp only
        rw [sureN_succ, if_neg hb, List.append_nil]
        exact hu3
    · have hlt' : ¬ ((i : Int) < ws.length) := by omega
      have hii : i = ws.length := by omega
      subst hii
      simp (maxSteps := 4000000) -implicitDefEqProofs -dsimp (disch := omega) only [↓AW_ops, ↓AW_seq, ↓AW_cond, ↓AW_exit, ↓AW_ret, ↓AOps_nil, ↓AOps_pu, on_some, condB_f, ↓then_normal, ↓then_exit, ↓inBlock_exit, ↓Fin_ret, pval, rd_S, rd_C, put_S, resV, resL, chkd, isAdr, bgot, cells_agg, partA, eq_self, mk, List.foldl_cons, List.foldl_nil, List.replicate_succ, List.replicate_zero, List.set_cons_zero, List.set_cons_succ, List.getElem?_cons_zero, List.getElem?_cons_succ, List.drop_zero, List.drop_succ_cons, List.take_succ_cons, List.take_nil, Option.getD_some, List.length_cons, List.length_nil, Nat.reduceAdd, Nat.reduceLeDiff, Nat.zero_add, bin_lss, if_true, if_false, Bool.false_eq_true, decide_false, hlt', hw1.ls.len]
      exact hu.gc2 flat_e1 (I 0) rfl
  · have hL : sureL P (lists ws) = [] := by unfold sureL; rw [if_neg h0]
    rw [hL]
    simp (maxSteps := 4000000) -implicitDefEqProofs -dsimp (disch := omega) only [↓AW_ops, ↓AW_seq, ↓AW_cond, ↓AW_ret, ↓AOps_nil, ↓AOps_pu, on_some, extK_same, condB_t, ↓then_normal, ↓then_ret, ↓Fin_ret, pval, rd_S, rd_C, put_S, resV, resL, List.replicate_succ, List.replicate_zero, List.set_cons_zero, List.set_cons_succ, List.getElem?_cons_zero, List.getElem?_cons_succ, Option.getD_some, List.length_nil, Nat.reduceSub, List.cons_append, List.nil_append, bin_neq, decide_true, not_false_eq_true, h0]
    exact gc_same_all rfl rfl
end Go.Proofs.Ytlmbobbefgcolaa

namespace Go.Proofs.Ytlmbobbefgcolaa
open Go Go.Eng
/-- Cells that are cleared. -/
def clA (es : Nat) (zero : List AV) (x : AV) (H : AHeap) : Option AHeap :=
  match x with
    | .nilS => some H
    | .sl es' n off len _ => if len = 0 then some H else if es' = es then match H[n]? with
        | some (.cells true l) => if off + len * es ≤ l.length then some (H.set n (.cells true (splice l off (repl zero len)))) else none
        | _ => none
      else none
    | _ => none
theorem hval_clr (es : Nat) (zero : List AV) (x : Opd) (S : List AV) (H : AHeap) : hval (.clr es zero x) S H = (clA es zero (rd S x) H).map (fun H' => (undefA, H')) := by
  simp only [hval, clA]
  cases rd S x with
  | sl es' n off len full =>
    simp only
    by_cases h0 : len = 0
    · simp [h0]
    · by_cases h1 : es' = es
      · simp only [h0, h1, if_true, if_false]
        cases H[n]? with
        | none => rfl
        | some o =>
          cases o with
          | cells rw l =>
            cases rw
            · rfl
            · simp only
              split <;> rfl
          | _ => rfl
      · simp [h0, h1]
  | nilS => rfl
  | _ => rfl
theorem OL_clr {A H : AHeap} {n : Nat} {v : AV} {xs : List Int} (h : OL 1 e1 A H n v xs) (i : Nat) (hi : i ≤ xs.length) (full : Bool) :
    clA 1 [.int .i64 0] (.sl 1 n (i * 1) (xs.length - i) full) H = some (H.set n (.cells true ((xs.take i ++ List.replicate (xs.length - i) 0).flatMap e1))) := by
  have hl := flatMap_length e1_len xs
  unfold clA
  by_cases h0 : xs.length - i = 0
  · have : i = xs.length := by omega
    simp only [h0, if_true]
    rw [List.replicate_zero, List.append_nil, List.take_of_length_le (by omega), set_same h.ob]
  · simp only [h0, if_false, if_true, h.ob]
    rw [if_pos (by omega), repl_zero]
    congr 2
    congr 1
    unfold splice
    have h1 := flat_take e1_len xs i hi
    rw [h1, flatMap_length e1_len, List.length_replicate, List.flatMap_append, List.append_assoc]
    congr 1
    rw [List.drop_of_length_le (by omega), List.append_nil]
theorem s91 {x p : Int} {A : AHeap} {a : Nat} (h : ldA 1 false (.ptr a 0) A = some (I p)) : ACalls Try.prog 91 [I x, .ptr a 0] A (B (decide (x = p))) A := by
  refine acalls hmix Try.func91 (by kernel_rfl) t91 2 rfl (by decide) ?_
  dsimp only [m91]
  simp (maxSteps := 4000000) -implicitDefEqProofs -dsimp (disch := omega) only [↓AW_ops, ↓AW_seq, ↓AW_ret, ↓AOps_nil, ↓AOps_pu, ↓AOps_ld, on_some, ↓then_normal, ↓Fin_ret, pval, lval, rd_S, rd_C, put_S, resV, resL, List.replicate_succ, List.replicate_zero, List.set_cons_zero, List.set_cons_succ, List.getElem?_cons_zero, List.getElem?_cons_succ, Option.getD_some, Nat.reduceSub, List.cons_append, List.nil_append, bin_eql, h]
  exact gc_same rfl
def without (l : List Int) (p : Int) : List Int := l.filter (fun x => !decide (x = p))
theorem without_take {l : List Int} {j : Nat} {z p : Int} (h : l[j]? = some z) : without (l.take (j + 1)) p = without (l.take j) p ++ if z = p then [] else [z] := by
  unfold without
  rw [List.take_add_one, h, List.filter_append]
  by_cases hz : z = p <;> simp [hz]
theorem without_le (l : List Int) (p : Int) : (without l p).length ≤ l.length := List.length_filter_le _ _
set_option maxHeartbeats 1000000 in
theorem s90 {A H : AHeap} {n a : Nat} {full : Bool} {xs : List Int} {p : Int} (h : OL 1 e1 A H n (.sl 1 n 0 xs.length full) xs) (hl : xs.length ≤ 1000) (ha : a ≠ n) (hp : ldA 1 false (.ptr a 0) H = some (I p)) :
    ACalls Try.prog 90 [.sl 1 n 0 xs.length full, .fn 91 [.ptr a 0]] H (.sl 1 n 0 (without xs p).length (full && ((without xs p).length == xs.length))) (H.set n (.cells true ((without xs p ++ List.replicate (xs.length - (without xs p).length) 0).flatMap e1))) := by
  refine acalls hmix Try.func90 (by kernel_rfl) t90 2 rfl (by decide) ?_
  have hpk : ∀ ys : List Int, ldA 1 false (.ptr a 0) (H.set n (.cells true (ys.flatMap e1))) = some (I p) := fun ys => by
    unfold ldA at hp ⊢
    simp only at hp ⊢
    rw [List.getElem?_set_ne (Ne.symm ha)]
    exact hp
  have hln : ∀ k, lenA (.sl 1 n 0 k full) = some (I k) := fun k => rfl
  dsimp only [m90]
  simp (maxSteps := 4000000) -implicitDefEqProofs -dsimp (disch := omega) only [↓AW_ops, ↓AW_seq, ↓AOps_nil, ↓AOps_pu, ↓AOps_call, on_some, ↓then_normal, pval, rd_S, rd_C, put_S, List.replicate_succ, List.replicate_zero, List.set_cons_zero, List.set_cons_succ, List.getElem?_cons_zero, List.getElem?_cons_succ, Option.getD_some, map_c, map_n, Nat.reduceSub, List.cons_append, List.nil_append]
  refine CallK.of (c_IndexFunc h.ls (by omega) 91 [.ptr a 0] (fun x => decide (x = p)) (fun x _ => s91 hp)) ?_
  by_cases hmem : p ∈ xs
  · obtain ⟨i0, hi0, hf, hz0⟩ := fpos_in hmem
    have hfe : fpos (fun x => decide (x = p)) xs = i0 := by
      rw [← hf]; congr 1; funext y; rw [decide_eq_decide]; exact ⟨fun e => e.symm, fun e => e.symm⟩
    rw [hfe]
    have hne : ¬ (i0 : Int) = -1 := by omega
    have hpre : ∀ y ∈ xs.take i0, y ≠ p := fun y hy e => by
      have h2 : xs.findIdx? (fun y => decide (p = y)) = some i0 := by
        unfold fpos at hf
        cases hh : xs.findIdx? (fun y => decide (p = y)) with
        | none => rw [hh] at hf; simp at hf
        | some k => rw [hh] at hf; simp at hf; congr 1; omega
      rw [List.findIdx?_eq_some_iff_getElem] at h2
      obtain ⟨_, _, h3⟩ := h2
      obtain ⟨j, hj, he⟩ := List.mem_take_iff_getElem.1 hy
      have := h3 j (by omega)
      rw [he, e] at this
      simp at this
    have hw0 : without (xs.take i0) p = xs.take i0 := by
      unfold without
      rw [List.filter_eq_self]
      intro y hy
      simp [hpre y hy]
    have hw1 : without (xs.take (i0 + 1)) p = xs.take i0 := by rw [without_take hz0, if_pos rfl, hw0, List.append_nil]
    simp (maxSteps := 4000000) -implicitDefEqProofs -dsimp (disch := omega) only [↓AW_skip, ↓AW_ops, ↓AW_seq, ↓AW_cond, ↓AW_block, ↓AOps_nil, ↓AOps_pu, on_some, extK_same, condB_f, ↓then_normal, pval, rd_S, rd_C, put_S, ↓AW_toLoop, List.replicate_succ, List.replicate_zero, List.set_cons_zero, List.set_cons_succ, List.getElem?_cons_zero, List.getElem?_cons_succ, Option.getD_some, Nat.reduceSub, List.cons_append, List.nil_append, bin_add, bin_eql, w64, decide_false, Int.reduceNeg, hne]
    refine LoopK.by 42 (fun x : Nat × Nat × List Int => (x.2.1 ≤ xs.length ∧ x.1 < x.2.1) ∧ x.2.2.length = xs.length ∧ x.2.2.take x.1 = without (xs.take x.2.1) p ∧ x.2.2.drop x.2.1 = xs.drop x.2.1) (fun x => [(0, .sl 1 n 0 xs.length full), (1, .fn 91 [.ptr a 0]), (5, I x.1), (6, I x.2.1)]) (fun x => H.set n (.cells true (x.2.2.flatMap e1))) (fun x => xs.length - x.2.1) (i0, i0 + 1, xs) ⟨by simp only; omega, rfl, hw1.symm, rfl⟩ rfl (by simp [Has, rd_s]) (by simp only; rw [set_same h.ob]) ?_
    rintro ⟨i, j, ys⟩ ⟨⟨hj, hij⟩, hyl, hyt, hyd⟩
    simp only at hj hij hyl hyt hyd
    have ho := OL_setAll h ys hyl
    have hwl : (without (xs.take j) p).length = i := by rw [← hyt, List.length_take]; omega
    by_cases hlt : j < xs.length
    · have hlt' : (j : Int) < xs.length := by omega
      obtain ⟨z, hz⟩ : ∃ z, xs[j]? = some z := ⟨_, List.getElem?_eq_getElem hlt⟩
      have hzy : ys[j]? = some z := by
        have : (ys.drop j)[0]? = (xs.drop j)[0]? := by rw [hyd]
        rw [List.getElem?_drop, List.getElem?_drop, Nat.add_zero] at this
        rw [this]; exact hz
      have hjy : j < ys.length := by omega
      have hiy : i < ys.length := by omega
      simp (maxSteps := 4000000) -implicitDefEqProofs -dsimp (disch := omega) only [↓AW_skip, ↓AW_ops, ↓AW_seq, ↓AW_cond, ↓AW_block, ↓AOps_nil, ↓AOps_pu, ↓AOps_ld, ↓AOps_callv, on_some, CallF_fn, condB_t, ↓then_normal, pval, lval, rd_S, put_S, partA, eq_self, mk, List.foldl_cons, List.foldl_nil, List.replicate_succ, List.replicate_zero, List.set_cons_zero, List.set_cons_succ, List.getElem?_cons_zero, List.getElem?_cons_succ, List.drop_zero, List.take_succ_cons, List.take_nil, Option.getD_some, map_c, map_n, List.length_cons, List.length_nil, Nat.reduceLeDiff, Nat.zero_add, List.cons_append, List.nil_append, bin_lss, if_true, if_false, Bool.false_eq_true, decide_true, Go.Eng.e1, hlt', hln, ho.ls.idx hjy, ho.ls.ld0 hzy 1 false (by decide)]
      refine CallK.of (s91 (hpk ys)) ?_
      by_cases hzp : z = p
      · simp (maxSteps := 4000000) -implicitDefEqProofs -dsimp (disch := omega) only [↓AW_skip, ↓AW_ops, ↓AW_cond, ↓AOps_nil, ↓AOps_pu, on_some, extK_same, condB_f, ↓then_normal, ↓inBlock_normal, pval, rd_S, rd_C, put_S, eq_self, mk, List.foldl_cons, List.foldl_nil, List.replicate_succ, List.replicate_zero, List.set_cons_zero, List.set_cons_succ, List.getElem?_cons_zero, List.getElem?_cons_succ, Option.getD_some, List.length_cons, List.length_nil, Nat.reduceAdd, Nat.zero_add, bin_add, w64, Bool.not_true, decide_true, true_and, hzp]
        refine ⟨(i, j + 1, ys), ⟨⟨hlt, by simp only; omega⟩, hyl, ?_, ?_⟩, by simp [Has, rd_s], rfl, by simp only; omega⟩
        · simp only; rw [without_take hz, if_pos hzp, List.append_nil]; exact hyt
        · simp only
          rw [← List.drop_drop, ← List.drop_drop, hyd]
      · have hst := ho.st hiy (I z) z rfl
        rw [List.set_set] at hst
        simp (maxSteps := 4000000) -implicitDefEqProofs -dsimp (disch := omega) only [↓AW_ops, ↓AW_seq, ↓AW_cond, ↓AOps_nil, ↓AOps_pu, ↓AOps_ha, on_some, extK_false, extK_same, condB_t, ↓then_normal, ↓inBlock_normal, pval, hval_st, rd_S, rd_C, put_S, putS_none, eq_self, mk, List.foldl_cons, List.foldl_nil, List.replicate_succ, List.replicate_zero, List.set_cons_zero, List.set_cons_succ, List.getElem?_cons_zero, List.getElem?_cons_succ, Option.getD_some, Option.map_some, List.length_cons, List.length_nil, Nat.reduceAdd, Nat.zero_add, bin_add, w64, Bool.not_false, decide_false, true_and, hzp, ho.ls.idx hiy, hst]
        refine ⟨(i + 1, j + 1, ys.set i z), ⟨⟨hlt, by simp only; omega⟩, by simp [hyl], ?_, ?_⟩, by simp [Has, rd_s], rfl, by simp only; omega⟩
        · simp only
          rw [without_take hz, if_neg hzp, ← hyt, List.take_add_one, List.getElem?_set_self hiy, Option.toList_some, List.take_set_of_le (Nat.le_refl _)]
        · simp only
          rw [List.drop_set_of_lt (by omega), ← List.drop_drop, ← List.drop_drop, hyd]
    · have hlt' : ¬ ((j : Int) < xs.length) := by omega
      have hjj : j = xs.length := by omega
      rw [show xs.take j = xs from List.take_of_length_le (by omega)] at hyt hwl
      have hs1 : slcA 1 (.sl 1 n 0 xs.length full) (some (I i)) none none = some (.sl 1 n (i * 1) (xs.length - i) full) := by
        have : i ≤ xs.length := by omega
        simp [slcA, bnd, this]
      have hs2 : slcA 1 (.sl 1 n 0 xs.length full) none (some (I i)) none = some (.sl 1 n 0 i (full && (i == xs.length))) := by
        have : i ≤ xs.length := by omega
        simp [slcA, bnd, this]
      have hc := OL_clr ho i (by omega) full
      rw [hyl, List.set_set, hyt] at hc
      simp (maxSteps := 4000000) -implicitDefEqProofs -dsimp (disch := omega) only [↓AW_ops, ↓AW_seq, ↓AW_cond, ↓AW_exit, ↓AW_ret, ↓AOps_nil, ↓AOps_pu, ↓AOps_ha, on_some, extK_false, condB_f, ↓then_normal, ↓then_exit, ↓inBlock_exit, ↓Fin_ret, pval, rd_S, put_S, putS_none, resV, resL, eq_self, mk, List.foldl_cons, List.foldl_nil, List.replicate_succ, List.replicate_zero, List.set_cons_zero, List.set_cons_succ, List.getElem?_cons_zero, List.getElem?_cons_succ, Option.getD_some, Option.map_some, Option.map_none, bin_lss, if_true, decide_false, hlt', hln, hs1, hval_clr, hc, hs2]
      exact gc_same_all (by rw [hwl]) (by rw [hwl])
  · have hfe : fpos (fun x => decide (x = p)) xs = -1 := fpos_none (fun y hy => by
      rw [decide_eq_false_iff_not]; rintro rfl; exact hmem hy)
    rw [hfe]
    have hw : without xs p = xs := by
      unfold without
      rw [List.filter_eq_self]
      intro y hy
      have : y ≠ p := by rintro rfl; exact hmem hy
      simp [this]
    simp (maxSteps := 4000000) -implicitDefEqProofs -dsimp (disch := omega) only [↓AW_ops, ↓AW_seq, ↓AW_cond, ↓AW_ret, ↓AOps_nil, ↓AOps_pu, on_some, extK_same, condB_t, ↓then_normal, ↓then_ret, ↓Fin_ret, pval, rd_S, rd_C, put_S, resV, resL, eq_self, List.replicate_succ, List.replicate_zero, List.set_cons_zero, List.set_cons_succ, List.getElem?_cons_zero, List.getElem?_cons_succ, Option.getD_some, Nat.reduceSub, List.cons_append, List.nil_append, bin_eql, decide_true, Int.reduceNeg]
    refine gc_same_all (by rw [hw]; simp) ?_
    rw [hw, Nat.sub_self, List.replicate_zero, List.append_nil, set_same h.ob]
end Go.Proofs.Ytlmbobbefgcolaa

namespace Go.Proofs.Ytlmbobbefgcolaa
open Go Go.Eng
theorem s83n (A : AHeap) : ACalls Try.prog 83 [.nilS] A .nilS A := by
  refine acalls hmix Try.func83 (by kernel_rfl) t83 1 rfl (by decide) ?_
  dsimp only [m83]
  simp (maxSteps := 4000000) -implicitDefEqProofs -dsimp (disch := omega) only [↓AW_ops, ↓AW_seq, ↓AW_cond, ↓AW_ret, ↓AOps_nil, ↓AOps_pu, on_some, condB_t, ↓then_normal, ↓then_ret, ↓Fin_ret, pval, rd_S, rd_C, put_S, resV, resL, List.replicate_succ, List.replicate_zero, List.set_cons_zero, List.set_cons_succ, List.getElem?_cons_zero, List.getElem?_cons_succ, Option.getD_some, Nat.reduceSub, List.cons_append, List.nil_append, Bool.not_false]
  exact gc_same rfl
end Go.Proofs.Ytlmbobbefgcolaa

namespace Go.Eng
open Go
section
variable {P : Program} {α : Type}
theorem AOps_ex : ∀ (l : List MOp) {Q : α → List AV → AHeap → Prop} {S : List AV} {H : AHeap}, AOps P l (fun S H => ∃ x, Q x S H) S H → ∃ x, AOps P l (Q x) S H := by
  intro l
  induction l with
  | nil => intro Q S H h; exact h
  | cons o r ih =>
    intro Q S H h
    simp only [AOps] at h ⊢
    split at h
    · exact h.elim
    · rename_i t _
      cases t with
      | true =>
        simp only [if_true] at h ⊢
        obtain ⟨v, H1, h1, h2, h3⟩ := h
        obtain ⟨x, hx⟩ := ih h3
        exact ⟨x, v, H1, h1, h2, hx⟩
      | false =>
        simp only [Bool.false_eq_true, if_false] at h ⊢
        exact ih h
/-- A loop with a rank. -/
def LoopR (P : Program) (a : MCode) (Q : Post) (k : Nat) (S : List AV) (H : AHeap) : Prop :=
  ∃ (J : Nat → List AV → AHeap → Prop), J k S H ∧ ∀ k S H, J k S H → AW P a (MX.then (fun S' H' => ∃ k' S'', k' < k ∧ Forget S' S'' ∧ J k' S'' H') Q) S H
/-- One round, and then loops of a smaller rank. -/
theorem LoopR_step {a : MCode} {Q : Post} {k : Nat} {S : List AV} {H : AHeap} (h : AW P a (MX.then (fun S' H' => ∃ k' S'', k' < k ∧ Forget S' S'' ∧ LoopR P a Q k' S'' H') Q) S H) : LoopR P a Q k S H := by
  refine ⟨fun j S1 H1 => (j = k ∧ S1 = S ∧ H1 = H) ∨ (j < k ∧ LoopR P a Q j S1 H1), .inl ⟨rfl, rfl, rfl⟩, ?_⟩
  rintro j S1 H1 (⟨rfl, rfl, rfl⟩ | ⟨hj, J, h1, h2⟩)
  · refine AW_mono (fun e S' H' h' => ?_) h
    cases e with
    | normal =>
      obtain ⟨k', S'', g1, g2, g3⟩ := h'
      exact ⟨k', S'', g1, g2, .inr ⟨g1, g3⟩⟩
    | exit id => exact h'
    | ret => exact h'
  · refine AW_mono (fun e S' H' h' => ?_) (h2 j S1 H1 h1)
    cases e with
    | normal =>
      obtain ⟨k', S'', g1, g2, g3⟩ := h'
      exact ⟨k', S'', g1, g2, .inr ⟨by omega, J, g3, h2⟩⟩
    | exit id => exact h'
    | ret => exact h'
theorem AW_ex : ∀ {m : MCode} {Q : α → Post} {S : List AV} {H : AHeap}, AW P m (fun e S H => ∃ x, Q x e S H) S H → ∃ x, AW P m (Q x) S H := by
  intro m
  induction m with
  | skip => intro Q S H h; exact h
  | ops l => intro Q S H h; exact AOps_ex l h
  | seq a b iha ihb =>
    intro Q S H h
    refine iha (Q := fun x => MX.then (AW P b (Q x)) (Q x)) (AW_mono (fun e S H h => ?_) h)
    cases e with
    | normal => exact ihb h
    | exit id => exact h
    | ret => exact h
  | cond c a b iha ihb =>
    intro Q S H h
    simp only [AW] at h ⊢
    split at h
    · split at h
      · rename_i ht
        obtain ⟨x, hx⟩ := iha h
        exact ⟨x, by rw [if_pos ht]; exact hx⟩
      · rename_i ht
        obtain ⟨x, hx⟩ := ihb h
        exact ⟨x, by rw [if_neg ht]; exact hx⟩
    · exact h.elim
  | block id a iha =>
    intro Q S H h
    refine iha (Q := fun x => MX.inBlock id (Q x)) (AW_mono (fun e S H h => ?_) h)
    cases e with
    | normal => exact h
    | exit id' =>
      simp only [MX.inBlock] at h ⊢
      split at h
      · rename_i hi
        obtain ⟨x, hx⟩ := h
        exact ⟨x, by rw [if_pos hi]; exact hx⟩
      · rename_i hi
        obtain ⟨x, hx⟩ := h
        exact ⟨x, by rw [if_neg hi]; exact hx⟩
    | ret => exact h
  | loop a iha =>
    intro Q S H h
    obtain ⟨J, ⟨k0, S0, hf, hJ⟩, hstep⟩ := h
    have key : ∀ k S H, J k S H → ∃ x, LoopR P a (Q x) k S H := by
      intro k
      induction k using Nat.strongRecOn with
      | _ k ih =>
        intro S H hj
        have h1 := hstep k S H hj
        have h2 : ∃ x, AW P a (MX.then (fun S' H' => ∃ k' S'', k' < k ∧ Forget S' S'' ∧ LoopR P a (Q x) k' S'' H') (Q x)) S H := by
          refine iha (Q := fun x => MX.then (fun S' H' => ∃ k' S'', k' < k ∧ Forget S' S'' ∧ LoopR P a (Q x) k' S'' H') (Q x)) (AW_mono (fun e S' H' h' => ?_) h1)
          cases e with
          | normal =>
            obtain ⟨k', S'', g1, g2, g3⟩ := h'
            obtain ⟨x, hx⟩ := ih k' g1 S'' H' g3
            exact ⟨x, k', S'', g1, g2, hx⟩
          | exit id => exact h'
          | ret => exact h'
        obtain ⟨x, hx⟩ := h2
        exact ⟨x, LoopR_step hx⟩
    obtain ⟨x, J', h1, h2⟩ := key k0 S0 H hJ
    exact ⟨x, J', ⟨k0, S0, hf, h1⟩, h2⟩
  | exit id => intro Q S H h; exact h
  | cut a iha =>
    intro Q S H h
    obtain ⟨S0, h0, h1⟩ := h
    obtain ⟨x, hx⟩ := iha h1
    exact ⟨x, S0, h0, hx⟩
  | ret => intro Q S H h; exact h
  | fail => intro Q S H h; exact h.elim
theorem AW_false : ∀ {m : MCode} {S : List AV} {H : AHeap}, ¬ AW P m (fun _ _ _ => False) S H := by
  intro m S H h
  have h2 : AW P m (fun e S H => ∃ x : Empty, (fun (_ : Empty) (_ : MX) (_ : List AV) (_ : AHeap) => True) x e S H) S H := AW_mono (fun _ _ _ h => h.elim) h
  obtain ⟨x, _⟩ := AW_ex h2
  exact x.elim
/-- The end of a function, where what it hands back need not be known ahead. -/
def FinR (res : List PAct) (H : AHeap) (R : AV → AHeap → Prop) : Post := fun e S H1 => ∃ x : AV × AHeap, Fin res H x.1 x.2 e S H1 ∧ R x.1 x.2
theorem FinR_ret (res : List PAct) (H : AHeap) (R : AV → AHeap → Prop) (S : List AV) (H1 : AHeap) : FinR res H R .ret S H1 = on (resV res S) (fun v1 => ∃ v H', GC H v1 H1 v H' ∧ R v H') ⟨⟩ := by
  apply propext
  unfold FinR
  simp only [Fin_ret]
  unfold on
  cases resV res S with
  | none => simp
  | some v1 =>
    constructor
    · rintro ⟨x, h1, h2⟩; exact ⟨_, _, h1, h2⟩
    · rintro ⟨v, H', h1, h2⟩; exact ⟨(v, H'), h1, h2⟩
/-- A function's contract, where the result is told by what it is like. -/
theorem acallsR (hm : P.follows .mixedOrders = true) {f : FuncId} {fn : Func} (hf : P.funcs[f]? = some fn) (hn : (fn.name == "runtime.NumGoroutine") = false) {bx cs : List Nat} {m : MFun} (ht : trF P bx cs fn = some m) {args : List AV} {H : AHeap} (R : AV → AHeap → Prop) (n : Nat)
    (hl : args.length = n) (hb : m.bx.all (fun d => decide (n ≤ d)) = true) (hA : AW P m.body (FinR m.res H R) (args ++ List.replicate (m.nt - n) .junk) H) : ∃ v H', ACalls P f args H v H' ∧ R v H' := by
  obtain ⟨x, hx⟩ := AW_ex (Q := fun (x : AV × AHeap) e S H1 => Fin m.res H x.1 x.2 e S H1 ∧ R x.1 x.2) hA
  have hR : R x.1 x.2 := by
    refine Classical.byContradiction (fun hn => ?_)
    have : AW P m.body (fun _ _ _ => False) (args ++ List.replicate (m.nt - n) .junk) H := AW_mono (fun _ _ _ h => hn h.2) hx
    exact AW_false this
  exact ⟨x.1, x.2, acalls hm hf hn ht n hl hb (AW_mono (fun _ _ _ h => h.1) hx), hR⟩
end
end Go.Eng

namespace Go.Eng
open Go
theorem AccL_push2 {α : Type} {es : Nat} {e : α → List AV} {H H1 : AHeap} {v : AV} {xs : List α} (h : AccL es e H H1 v xs) (he : ∀ x, (e x).length = es) (h0 : 0 < es) (x : α) (hl : xs.length + 1 ≤ lim) :
    ∃ v' H2, appA es (H1 ++ [.cells true (e x)]) v (.sl es H1.length 0 1 true) = some (v', H2) ∧ AccL es e H H2 v' (xs ++ [x]) ∧
      (∀ k o, H1[k]? = some o → (∀ n len, v = .sl es n 0 len false → k ≠ n) → H2[k]? = some o) ∧ ∃ n len, v' = .sl es n 0 len false ∧ H1.length ≤ n := by
  obtain ⟨v', H2, happ, hacc⟩ := h.push he x hl
  refine ⟨v', H2, happ, hacc, ?_⟩
  have hc := slCells_new (es := es) H1 (e x) (he x)
  rcases h.2.2 with ⟨h3, rfl⟩ | ⟨h3, n, rfl, h5, h6⟩
  · unfold appA at happ
    rw [hc] at happ
    simp [lim] at happ
    obtain ⟨rfl, rfl⟩ := happ
    refine ⟨fun k o hk _ => ?_, _, _, rfl, by simp⟩
    have hlt := (List.getElem?_eq_some_iff.1 hk).1
    first
      | (rw [List.getElem?_append_left hlt]; exact hk)
      | (rw [List.getElem?_append_left (by rw [List.length_append]; omega), List.getElem?_append_left hlt]; exact hk)
  · have hlt := (List.getElem?_eq_some_iff.1 h6).1
    have hget : (H1 ++ [AObj.cells true (e x)])[n]? = some (.cells true (xs.flatMap e)) := by rw [List.getElem?_append_left hlt]; exact h6
    have hfl := flatMap_length he xs
    unfold appA at happ
    rw [hc] at happ
    simp only [hget, Nat.one_ne_zero, if_false, if_true, true_and] at happ
    rw [if_pos hl, if_pos (by omega)] at happ
    simp only [Bool.false_eq_true, if_false, Option.some.injEq, Prod.mk.injEq] at happ
    obtain ⟨rfl, rfl⟩ := happ
    refine ⟨fun k o hk hne => ?_, _, _, rfl, by simp⟩
    have hk1 := (List.getElem?_eq_some_iff.1 hk).1
    have hkn := hne n xs.length rfl
    rw [List.getElem?_append_left (by simp; omega), List.getElem?_set_ne (Ne.symm hkn), List.getElem?_append_left hk1]
    exact hk
theorem AccL_base0 {α : Type} {es : Nat} {e : α → List AV} {A0 A H : AHeap} {v : AV} {xs : List α} (hp : A0 <+: A) (h : AccL es e A H v xs) : AccL es e A0 H v xs := by
  obtain ⟨h1, h2, h3⟩ := h
  refine ⟨hp.trans h1, h2, ?_⟩
  rcases h3 with h4 | ⟨h0, n, h4, h5, h6⟩
  · exact .inl h4
  · exact .inr ⟨h0, n, h4, Nat.le_trans hp.length_le h5, h6⟩
end Go.Eng

namespace Go.Proofs.Ytlmbobbefgcolaa
open Go Go.Eng
/-- The wishes without a place, which keeps its number. -/
def wop (ls : List (List Int)) (p : Int) : List (List Int) := ls.map (fun l => without l p)
theorem nil_of {xs : List Int} {A : AHeap} (h : L1 A .nilS xs) : xs = [] := by
  have := h.hc
  simp [slCells] at this
  exact List.eq_nil_of_length_eq_zero this.1.symm
theorem c_IndexFunc_nil (A : AHeap) (f : FuncId) (cap : List AV) : ACalls Try.prog 87 [.nilS, .fn f cap] A (I (-1)) A :=
  c_IndexFunc (L1_nil A) (by simp) f cap (fun _ => false) (by simp)
theorem s90n (A : AHeap) (f : FuncId) (cap : List AV) : ACalls Try.prog 90 [.nilS, .fn f cap] A .nilS A := by
  refine acalls hmix Try.func90 (by kernel_rfl) t90 2 rfl (by decide) ?_
  dsimp only [m90]
  simp (maxSteps := 4000000) -implicitDefEqProofs -dsimp (disch := omega) only [↓AW_ops, ↓AW_seq, ↓AOps_nil, ↓AOps_pu, ↓AOps_call, on_some, ↓then_normal, pval, rd_S, rd_C, put_S, List.replicate_succ, List.replicate_zero, List.set_cons_zero, List.set_cons_succ, List.getElem?_cons_zero, List.getElem?_cons_succ, Option.getD_some, map_c, map_n, Nat.reduceSub, List.cons_append, List.nil_append]
  refine CallK.of (c_IndexFunc_nil A f cap) ?_
  simp (maxSteps := 4000000) -implicitDefEqProofs -dsimp (disch := omega) only [↓AW_ops, ↓AW_seq, ↓AW_cond, ↓AW_ret, ↓AOps_nil, ↓AOps_pu, on_some, extK_same, condB_t, ↓then_normal, ↓then_ret, ↓Fin_ret, pval, rd_S, rd_C, put_S, resV, resL, eq_self, List.replicate_succ, List.replicate_zero, List.set_cons_zero, List.set_cons_succ, List.getElem?_cons_zero, List.getElem?_cons_succ, Option.getD_some, Nat.reduceSub, List.cons_append, List.nil_append, bin_eql, decide_true, Int.reduceNeg]
  exact gc_same rfl
/-- Where the rows of a list of lists stand: each in an object of its own that the call has made, with more cells behind. -/
structure NR (A H : AHeap) (u : AV) (x : AV × List Int) : Prop where
  row : (x.1 = .nilS ∧ x.2 = []) ∨ ∃ n full cs, x.1 = .sl 1 n 0 x.2.length full ∧ A.length ≤ n ∧ H[n]? = some (.cells true (x.2.flatMap e1 ++ cs)) ∧ nm u ≠ n
theorem NR.l1 {A H : AHeap} {u : AV} {x : AV × List Int} (h : NR A H u x) : L1 H x.1 x.2 := by
  rcases h.row with ⟨h1, h2⟩ | ⟨n, full, cs, h1, _, h3, _⟩
  · rw [h1, h2]; exact L1_nil _
  · rw [h1]
    refine ⟨e1_len, ?_⟩
    have hl := flatMap_length e1_len x.2
    simp only [slCells, cellsAt, h3, if_true, Nat.zero_add]
    rw [if_pos (by rw [List.length_append]; omega)]
    simp only [List.drop_zero, Option.map_some, Option.some.injEq, Prod.mk.injEq, true_and]
    rw [← hl, List.take_left]
/-- Rows stand in different objects. -/
def Apart (ws : List (AV × List Int)) : Prop := ws.Pairwise (fun x y => x.1 = .nilS ∨ y.1 = .nilS ∨ nm x.1 ≠ nm y.1)
/-- A list of lists that the call has made. -/
structure NL (A H : AHeap) (u : AV) (ws : List (AV × List Int)) : Prop where
  acc : AccL 1 e0 A H u ws
  rows : ∀ x ∈ ws, NR A H u x
  apart : Apart ws
theorem NL.ll {A H : AHeap} {u : AV} {ws : List (AV × List Int)} (h : NL A H u ws) : LL H u ws := ⟨AccL_ls h.acc e0_len, fun x hx => (h.rows x hx).l1⟩
theorem NL.nil {A H : AHeap} (h : A <+: H) : NL A H .nilS [] := ⟨AccL.nil h, by simp, List.Pairwise.nil⟩
/-- One row more. -/
theorem NL.push {A H : AHeap} {u : AV} {ws : List (AV × List Int)} (h : NL A H u ws) (x : AV × List Int) (hx : (x.1 = .nilS ∧ x.2 = [] ∧ True) ∨ ∃ n full cs, x.1 = .sl 1 n 0 x.2.length full ∧ A.length ≤ n ∧ H[n]? = some (.cells true (x.2.flatMap e1 ++ cs)) ∧ nm u ≠ n ∧ ∀ y ∈ ws, y.1 = .nilS ∨ nm y.1 ≠ n) (hl : ws.length + 1 ≤ lim) :
    ∃ v' H2, appA 1 (H ++ [.cells true [x.1]]) u (.sl 1 H.length 0 1 true) = some (v', H2) ∧ NL A H2 v' (ws ++ [x]) := by
  obtain ⟨v', H2, h1, h2, h3, n', len', h4, h5⟩ := AccL_push2 h.acc e0_len (by omega) x hl
  have hold : ∀ (y : AV × List Int), NR A H u y → NR A H2 v' y := by
    intro y hy
    refine ⟨?_⟩
    rcases hy.row with h6 | ⟨n, full, cs, g1, g2, g3, g4⟩
    · exact .inl h6
    · have hn := (List.getElem?_eq_some_iff.1 g3).1
      refine .inr ⟨n, full, cs, g1, g2, h3 n _ g3 (fun k len hk hnk => ?_), ?_⟩
      · rw [hk] at g4; exact g4 hnk.symm
      · rw [h4]; simp only [nm]; omega
  have hxr : NR A H u x := by
    refine ⟨?_⟩
    rcases hx with ⟨a, b, _⟩ | ⟨n, full, cs, g1, g2, g3, g4, _⟩
    · exact .inl ⟨a, b⟩
    · exact .inr ⟨n, full, cs, g1, g2, g3, g4⟩
  refine ⟨v', H2, h1, h2, fun y hy => ?_, ?_⟩
  · rcases List.mem_append.1 hy with hy | hy
    · exact hold y (h.rows y hy)
    · have : y = x := by simpa using hy
      rw [this]; exact hold x hxr
  · unfold Apart
    rw [List.pairwise_append]
    refine ⟨h.apart, by simp, fun a ha b hb => ?_⟩
    have : b = x := by simpa using hb
    subst this
    rcases hx with ⟨g1, _⟩ | ⟨n, full, cs, g1, _, _, _, g5⟩
    · exact .inr (.inl g1)
    · rcases g5 a ha with g | g
      · exact .inl g
      · refine .inr (.inr ?_)
        rw [g1]; exact g
theorem NL.mono {A H H' : AHeap} {u : AV} {ws : List (AV × List Int)} (h : NL A H u ws) (hp : H <+: H') : NL A H' u ws := by
  refine ⟨h.acc.mono hp, fun x hx => ⟨?_⟩, h.apart⟩
  rcases (h.rows x hx).row with h6 | ⟨n, full, cs, g1, g2, g3, g4⟩
  · exact .inl h6
  · exact .inr ⟨n, full, cs, g1, g2, pre_get hp g3, g4⟩
theorem NL.lt {A H : AHeap} {u : AV} {ws : List (AV × List Int)} (h : NL A H u ws) : (∀ y ∈ ws, y.1 = .nilS ∨ nm y.1 < H.length) ∧ (ws = [] ∨ nm u < H.length) := by
  refine ⟨fun y hy => ?_, ?_⟩
  · rcases (h.rows y hy).row with ⟨h6, _⟩ | ⟨n, full, cs, g1, g2, g3, g4⟩
    · exact .inl h6
    · right; rw [g1]; exact (List.getElem?_eq_some_iff.1 g3).1
  · rcases h.acc.2.2 with ⟨h3, _⟩ | ⟨h3, n, h4, h5, h6⟩
    · exact .inl (List.eq_nil_of_length_eq_zero h3)
    · right; rw [h4]; exact (List.getElem?_eq_some_iff.1 h6).1
theorem NL.base {A0 A H : AHeap} {u : AV} {ws : List (AV × List Int)} (hp : A0 <+: A) (h : NL A H u ws) : NL A0 H u ws := by
  refine ⟨AccL_base0 hp h.acc, fun x hx => ⟨?_⟩, h.apart⟩
  rcases (h.rows x hx).row with h6 | ⟨n, full, cs, g1, g2, g3, g4⟩
  · exact .inl h6
  · exact .inr ⟨n, full, cs, g1, Nat.le_trans hp.length_le g2, g3, g4⟩
theorem Ls_cells {α : Type} {es : Nat} {e : α → List AV} {A : AHeap} {u : AV} {xs : List α} (h : Ls es e A u xs) : u.cells? = some [u] := by
  rcases h.inv with ⟨rfl, _⟩ | ⟨n, off, full, rw, l, rfl, _⟩ <;> rfl
theorem wop_take {ls : List (List Int)} {i : Nat} {l : List Int} (p : Int) (h : ls[i]? = some l) : wop (ls.take (i + 1)) p = wop (ls.take i) p ++ [without l p] := by
  unfold wop
  rw [List.take_add_one, h, List.map_append]; rfl
theorem nm_ne_nil {A H : AHeap} {u : AV} {ws : List (AV × List Int)} (h : NL A H u ws) {n : Nat} (hn : H.length ≤ n) (hu : 0 < A.length) : nm u ≠ n := by
  rcases h.acc.2.2 with ⟨_, h4⟩ | ⟨_, m, h4, _, h6⟩
  · rw [h4]; simp only [nm]
    have := h.acc.1.length_le
    omega
  · rw [h4]; have := (List.getElem?_eq_some_iff.1 h6).1; simp only [nm]; omega
theorem s59 {P p : Int} {ws : List (AV × List Int)} {v : AV} {A : AHeap} (hw : LL A v ws) (hs : Sz ws) :
    ∃ r H', ACalls Try.prog 59 [.agg [I P, v], I p] A r H' ∧ ∃ v' ws', r = .agg [I P, v'] ∧ A <+: H' ∧ NL A H' v' ws' ∧ lists ws' = wop (lists ws) p := by
  refine acallsR hmix Try.func59 (by kernel_rfl) t59 _ 2 rfl (by decide) ?_
  have hs1 := hs.1
  have hpA := pre_app A [AObj.cells true [I p]]
  dsimp only [m59]
  simp (maxSteps := 4000000) -implicitDefEqProofs -dsimp (disch := omega) only [↓AW_ops, ↓AW_seq, ↓AW_block, ↓AOps_nil, ↓AOps_pu, ↓AOps_ha, on_some, extK_app, ↓then_normal, pval, hval_newv, rd_S, rd_C, put_S, ↓AW_toLoop, chkd, isAdr, bput, bgot, cells_agg, cells_int, splice, partA, fillA, eq_self, List.replicate_succ, List.replicate_zero, List.set_cons_zero, List.set_cons_succ, List.getElem?_cons_zero, List.getElem?_cons_succ, List.drop_zero, List.drop_succ_cons, List.drop_nil, List.take_zero, List.take_succ_cons, List.take_nil, Option.getD_some, Option.map_some, map_c, map_n, List.length_cons, List.length_nil, Nat.reduceAdd, Nat.reduceSub, Nat.reduceLeDiff, Nat.zero_add, List.cons_append, List.nil_append, List.append_nil, if_true, if_false, Bool.false_eq_true, and_true, ne_eq, not_true_eq_false, hw.ls.len]
  refine LoopK.by 29 (fun x : Nat × AV × AHeap × List (AV × List Int) => (x.1 ≤ ws.length ∧ x.2.2.2.length = x.1) ∧ (A ++ [.cells true [I p]]) <+: x.2.2.1 ∧ NL (A ++ [.cells true [I p]]) x.2.2.1 x.2.1 x.2.2.2 ∧ lists x.2.2.2 = wop ((lists ws).take x.1) p)
    (fun x => [(3, .ptr A.length 0), (4, .agg [.int .i64 0, .nilS]), (5, .agg [I P, x.2.1]), (12, v), (13, I ws.length), (14, I x.1)]) (fun x => x.2.2.1) (fun x => ws.length - x.1) (0, .nilS, A ++ [.cells true [I p]], []) ⟨⟨by simp only; omega, rfl⟩, List.prefix_refl _, NL.nil (List.prefix_refl _), by simp [wop]⟩ rfl (by simp [Has, rd_s]) rfl ?_
  rintro ⟨i, u, H1, ws1⟩ ⟨⟨hi, hwl⟩, hp1, hnl, hli⟩
  simp only at hi hwl hp1 hnl hli
  have hw1 := hw.mono (hpA.trans hp1)
  by_cases hlt : i < ws.length
  · obtain ⟨x, hz⟩ : ∃ z, ws[i]? = some z := ⟨_, List.getElem?_eq_getElem hlt⟩
    have hlt' : (i : Int) < ws.length := by omega
    have hm := List.mem_of_getElem? hz
    have hx := hw1.inn x hm
    have hx2 := hs.2 x hm
    have hld : ldA 1 false (.ptr A.length 0) H1 = some (I p) := ld_mono hp1 (ld_new A _ _)
    have hA0 : 0 < (A ++ [AObj.cells true [I p]]).length := by simp
    have hAl : A.length < H1.length := by have := hp1.length_le; simp at this; omega
    have hwt := wop_take p (ws_get hz)
    have hll : (lists ws).length = ws.length := by simp
    by_cases hn : x.1 = .nilS
    · have hxe : x.2 = [] := nil_of (by rw [← hn]; exact hx)
      obtain ⟨v3, H3, happ, h3⟩ := hnl.push (.nilS, []) (.inl ⟨rfl, rfl, trivial⟩) (by simp [lim]; omega)
      simp only at happ
      have h83 := s83n H1
      simp (maxSteps := 4000000) -implicitDefEqProofs -dsimp (disch := omega) only [↓AW_skip, ↓AW_ops, ↓AW_seq, ↓AW_cond, ↓AW_block, ↓AOps_nil, ↓AOps_pu, ↓AOps_ld, ↓AOps_call, on_some, condB_t, ↓then_normal, pval, lval, rd_S, put_S, chkd, isAdr, bgot, cells_agg, partA, eq_self, mk, List.foldl_cons, List.foldl_nil, List.replicate_succ, List.replicate_zero, List.set_cons_zero, List.set_cons_succ, List.getElem?_cons_zero, List.getElem?_cons_succ, List.drop_zero, List.drop_succ_cons, List.take_succ_cons, List.take_nil, Option.getD_some, map_c, map_n, List.length_cons, List.length_nil, Nat.reduceAdd, Nat.reduceLeDiff, Nat.zero_add, bin_lss, if_true, if_false, Bool.false_eq_true, decide_true, hlt', hw1.ls.idx hlt, hw1.ls.ld0 hz 1 false (by decide), e0, hn]
      refine CallK.of (h83) ?_
      simp (maxSteps := 4000000) -implicitDefEqProofs -dsimp (disch := omega) only [↓AOps_pu, ↓AOps_call, on_some, extK_same, pval, rd_S, put_S, mk, List.foldl_cons, List.foldl_nil, List.replicate_succ, List.replicate_zero, List.set_cons_zero, List.set_cons_succ, List.getElem?_cons_zero, List.getElem?_cons_succ, Option.getD_some, map_c, map_n]
      have hc3 := Ls_cells (AccL_ls h3.acc e0_len)
      refine CallK.of (s90n H1 91 [.ptr A.length 0]) ?_
      simp (maxSteps := 4000000) -implicitDefEqProofs -dsimp (disch := omega) only [↓AW_ops, ↓AOps_nil, ↓AOps_pu, ↓AOps_ha, on_some, extK_false, extK_app, extK_same, ↓then_normal, ↓inBlock_normal, pval, hval_blds, hval_app, rd_S, rd_C, put_S, chkd, isAdr, bput, cells_agg, cells_nilS, splice, fillA, repl, eq_self, mk, List.foldl_cons, List.foldl_nil, List.replicate_succ, List.replicate_zero, List.set_cons_zero, List.set_cons_succ, List.getElem?_cons_zero, List.getElem?_cons_succ, List.drop_succ_cons, List.drop_nil, List.take_zero, List.take_succ_cons, Option.getD_some, map_c, map_n, List.length_cons, List.length_nil, Nat.reduceAdd, Nat.reduceLeDiff, Nat.zero_add, List.cons_append, List.nil_append, List.append_nil, bin_add, w64, if_true, if_false, true_and, and_true, ne_eq, not_true_eq_false, happ, hc3]
      refine ⟨(i + 1, v3, H3, ws1 ++ [(.nilS, [])]), ⟨⟨hlt, by simp [hwl]⟩, h3.acc.1, h3, ?_⟩, by simp [Has, rd_s], rfl, by simp only; omega⟩
      simp only [lists, List.map_append, List.map_cons, List.map_nil]
      rw [show List.map Prod.snd ws1 = wop ((lists ws).take i) p from hli, hwt, hxe]
      rfl
    · simp (maxSteps := 4000000) -implicitDefEqProofs -dsimp (disch := omega) only [↓AW_skip, ↓AW_ops, ↓AW_seq, ↓AW_cond, ↓AW_block, ↓AOps_nil, ↓AOps_pu, ↓AOps_ld, ↓AOps_call, on_some, condB_t, ↓then_normal, pval, lval, rd_S, put_S, chkd, isAdr, bgot, cells_agg, partA, eq_self, mk, List.foldl_cons, List.foldl_nil, List.replicate_succ, List.replicate_zero, List.set_cons_zero, List.set_cons_succ, List.getElem?_cons_zero, List.getElem?_cons_succ, List.drop_zero, List.drop_succ_cons, List.take_succ_cons, List.take_nil, Option.getD_some, map_c, map_n, List.length_cons, List.length_nil, Nat.reduceAdd, Nat.reduceLeDiff, Nat.zero_add, bin_lss, if_true, if_false, Bool.false_eq_true, decide_true, hlt', hw1.ls.idx hlt, hw1.ls.ld0 hz 1 false (by decide), e0]
      refine CallK.of (s83 hx hn (by omega)) ?_
      have hOL := OL.new_mk e1_len H1 x.2 false
      have h90 := s90 (p := p) hOL (by omega) (show A.length ≠ H1.length by omega) (ld_mono (pre_app _ _) hld)
      rw [set_new] at h90
      have hwle := without_le x.2 p
      obtain ⟨f', hf'⟩ : ∃ f', (false && ((without x.2 p).length == x.2.length)) = f' := ⟨_, rfl⟩
      rw [hf'] at h90
      have hp3 := pre_app H1 [AObj.cells true ((without x.2 p ++ List.replicate (x.2.length - (without x.2 p).length) 0).flatMap Go.Eng.e1)]
      obtain ⟨v3, H3, happ, h3⟩ := (hnl.mono hp3).push (.sl 1 H1.length 0 (without x.2 p).length f', without x.2 p) (.inr ⟨H1.length, f', (List.replicate (x.2.length - (without x.2 p).length) 0).flatMap Go.Eng.e1, rfl, hp1.length_le, by rw [get_new, List.flatMap_append], nm_ne_nil hnl (Nat.le_refl _) hA0, fun y hy => (hnl.lt.1 y hy).imp id (fun h => by omega)⟩) (by simp [lim]; omega)
      simp only at happ
      simp (maxSteps := 4000000) -implicitDefEqProofs -dsimp (disch := omega) only [↓AOps_pu, ↓AOps_call, on_some, extK_app, pval, rd_S, put_S, mk, List.foldl_cons, List.foldl_nil, List.replicate_succ, List.replicate_zero, List.set_cons_zero, List.set_cons_succ, List.getElem?_cons_zero, List.getElem?_cons_succ, Option.getD_some, map_c, map_n]
      have hc3 := Ls_cells (AccL_ls h3.acc e0_len)
      refine CallK.of (h90) ?_
      simp (maxSteps := 4000000) -implicitDefEqProofs -dsimp (disch := omega) only [↓AW_ops, ↓AOps_nil, ↓AOps_pu, ↓AOps_ha, on_some, extK_false, extK_app, ↓then_normal, ↓inBlock_normal, pval, hval_blds, hval_app, rd_S, rd_C, put_S, chkd, isAdr, bput, cells_agg, cells_sl, splice, fillA, repl, eq_self, mk, List.foldl_cons, List.foldl_nil, List.replicate_succ, List.replicate_zero, List.set_cons_zero, List.set_cons_succ, List.getElem?_cons_zero, List.getElem?_cons_succ, List.drop_succ_cons, List.drop_nil, List.take_zero, List.take_succ_cons, Option.getD_some, map_c, map_n, List.length_cons, List.length_nil, Nat.reduceAdd, Nat.reduceLeDiff, Nat.zero_add, List.cons_append, List.nil_append, List.append_nil, bin_add, w64, if_true, if_false, true_and, and_true, ne_eq, not_true_eq_false, happ, hc3]
      refine ⟨(i + 1, v3, H3, ws1 ++ [(.sl 1 H1.length 0 (without x.2 p).length f', without x.2 p)]), ⟨⟨hlt, by simp [hwl]⟩, h3.acc.1, h3, ?_⟩, by simp [Has, rd_s], rfl, by simp only; omega⟩
      simp only [lists, List.map_append, List.map_cons, List.map_nil]
      rw [show List.map Prod.snd ws1 = wop ((lists ws).take i) p from hli, hwt]
  · have hlt' : ¬ ((i : Int) < ws.length) := by omega
    rw [List.take_of_length_le (by simp; omega)] at hli
    simp (maxSteps := 4000000) -implicitDefEqProofs -dsimp (disch := omega) only [↓AW_ops, ↓AW_seq, ↓AW_cond, ↓AW_exit, ↓AW_ret, ↓AOps_nil, ↓AOps_pu, on_some, condB_f, ↓then_normal, ↓then_exit, ↓inBlock_exit, ↓FinR_ret, pval, rd_S, put_S, resV, resL, chkd, bput, bgot, cells_agg, splice, partA, eq_self, mk, List.foldl_cons, List.foldl_nil, List.replicate_succ, List.replicate_zero, List.set_cons_zero, List.set_cons_succ, List.getElem?_cons_zero, List.getElem?_cons_succ, List.drop_zero, List.drop_succ_cons, List.drop_nil, List.take_zero, List.take_succ_cons, List.take_nil, Option.getD_some, List.length_cons, List.length_nil, Nat.reduceAdd, Nat.reduceLeDiff, Nat.reduceEqDiff, Nat.zero_add, List.nil_append, List.append_nil, bin_lss, if_true, if_false, decide_false, ne_eq, not_true_eq_false, hlt']
    exact ⟨_, _, gc_all, u, ws1, rfl, hpA.trans hp1, hnl.base hpA, hli⟩
end Go.Proofs.Ytlmbobbefgcolaa

namespace Go.Proofs.Ytlmbobbefgcolaa
open Go Go.Eng
theorem lst_wop {ls : List (List Int)} {p : Int} {k : Nat} : lst (wop ls p) k = without (lst ls k) p := by
  rw [lst_nat, lst_nat, wop, List.getElem?_map]
  cases ls[k]? <;> simp [without]
theorem mem_without {l : List Int} {p q : Int} : q ∈ without l p ↔ q ∈ l ∧ q ≠ p := by
  unfold without
  rw [List.mem_filter]
  simp
theorem wop_len (ls : List (List Int)) (p : Int) : (wop ls p).length = ls.length := by simp [wop]
theorem wop_in {P : Int} {ls : List (List Int)} (hls : ∀ l ∈ ls, ∀ p ∈ l, inP P p) (p : Int) : ∀ l ∈ wop ls p, ∀ q ∈ l, inP P q := by
  intro l hl q hq
  obtain ⟨l', hl', rfl⟩ := List.mem_map.1 hl
  exact hls l' hl' q (mem_without.1 hq).1
theorem val_wop {P : Int} {ls : List (List Int)} (h : Val P ls) (p : Int) : Val P (wop ls p) := by
  refine ⟨h.hP, by rw [wop_len]; exact h.n, fun l hl => ?_⟩
  obtain ⟨l', hl', rfl⟩ := List.mem_map.1 hl
  refine ⟨fun q hq => (h.l l' hl').1 q (mem_without.1 hq).1, ?_⟩
  exact (h.l l' hl').2.filter _
theorem has_of_mem {g : List Int} {p : Int} (h : p ∈ g) : ∃ k, k < g.length ∧ has g k = p := by
  obtain ⟨k, hk, e⟩ := List.mem_iff_getElem.1 h
  exact ⟨k, hk, by rw [has_get (List.getElem?_eq_getElem hk), e]⟩
/-- A giving of the wishes without a place is one that does not give it. -/
theorem good_wop {P : Int} {ls : List (List Int)} {p : Int} (hp : 0 ≤ p) {g : List Int} : Good P (wop ls p) g ↔ Good P ls g ∧ p ∉ g := by
  constructor
  · intro h
    have hl := wop_len ls p
    refine ⟨⟨by rw [h.len, hl], fun k hk => h.rng k (by rw [hl]; exact hk), fun k hk h0 => ?_, fun a b ha hb => h.inj a b (by rw [hl]; exact ha) (by rw [hl]; exact hb)⟩, fun hm => ?_⟩
    · have := h.wish k (by rw [hl]; exact hk) h0
      rw [lst_wop] at this
      exact (mem_without.1 this).1
    · obtain ⟨k, hk, e⟩ := has_of_mem hm
      rw [h.len] at hk
      have := h.wish k hk (by rw [e]; exact hp)
      rw [lst_wop, e] at this
      exact (mem_without.1 this).2 rfl
  · rintro ⟨h, hm⟩
    have hl := wop_len ls p
    refine ⟨by rw [h.len, hl], fun k hk => h.rng k (by rw [← hl]; exact hk), fun k hk h0 => ?_, fun a b ha hb => h.inj a b (by rw [← hl]; exact ha) (by rw [← hl]; exact hb)⟩
    rw [hl] at hk
    rw [lst_wop]
    refine mem_without.2 ⟨h.wish k hk h0, fun e => hm ?_⟩
    have := has_mem (g := g) (k := k) (by rw [h.len]; exact hk)
    rwa [e] at this
/-- A place is needed if fewer are served without it. -/
def needB (P : Int) (ls : List (List Int)) (p : Int) : Bool := decide (most P (wop ls p) < most P ls)
theorem need_iff {P : Int} {ls : List (List Int)} (hv : Val P ls) {p : Int} (hp : 0 ≤ p) : needB P ls p = true ↔ ∀ g, Good P ls g → srv g = most P ls → p ∈ g := by
  have hP : 0 ≤ P := by have := hv.hP; omega
  have hin : ∀ l ∈ ls, ∀ q ∈ l, inP P q := fun l hl => (hv.l l hl).1
  have hin2 : ∀ l ∈ wop ls p, ∀ q ∈ l, inP P q := wop_in hin p
  unfold needB
  rw [decide_eq_true_iff]
  constructor
  · intro h g hg hs
    refine Classical.byContradiction fun hm => ?_
    have := (most_spec hP hin2).2 g ((good_wop hp).2 ⟨hg, hm⟩)
    omega
  · intro h
    obtain ⟨⟨g, hg, e⟩, _⟩ := most_spec hP hin2
    obtain ⟨h1, h2⟩ := (good_wop hp).1 hg
    have h3 := (most_spec hP hin).2 g h1
    rcases Nat.lt_or_ge (most P (wop ls p)) (most P ls) with h4 | h4
    · exact h4
    · exact absurd (h g h1 (by omega)) h2
/-- The same, in the document's words. -/
theorem need_bits {P : Int} {ls : List (List Int)} (hv : Val P ls) {p : Nat} : needB P ls p = true ↔ ∀ s, s < 2 ^ P.toNat → cF ls (-1) ls.length s = true → pc s = most P ls → s.testBit p = true := by
  have hP : 0 ≤ P := by have := hv.hP; omega
  have hin : ∀ l ∈ ls, ∀ q ∈ l, inP P q := fun l hl => (hv.l l hl).1
  have h0 : ∀ l ∈ ls, ∀ q ∈ l, 0 ≤ q := fun l hl q hq => (hin l hl q hq).1
  have hdr : drp ls (-1) = ls := drp_none ls
  have hpg : ∀ g, Pre ls (-1) ls.length g ↔ Good P ls g := fun g => by
    have := pre_good (wo := -1) (g := g) hin hP
    rwa [hdr] at this
  rw [need_iff hv (by omega)]
  constructor
  · intro h s _ hc hs
    obtain ⟨g, hg, rfl⟩ := (cF_iff h0 _ _).1 hc
    obtain ⟨b1, b2⟩ := mask_bits _ g hg
    exact (b1 p).2 (h g ((hpg g).1 hg) (by rw [← b2]; exact hs))
  · intro h g hg hs
    have hpre := (hpg g).2 hg
    obtain ⟨b1, b2⟩ := mask_bits _ g hpre
    exact (b1 p).1 (h (mask g) (mask_lt hin hpre) ((cF_iff h0 _ _).2 ⟨g, hpre, rfl⟩) (by rw [b2]; exact hs))
def needN (P : Int) (ls : List (List Int)) (n : Nat) : List Int := (nums n).filter (needB P ls)
theorem needN_succ (P : Int) (ls : List (List Int)) (n : Nat) : needN P ls (n + 1) = needN P ls n ++ if needB P ls n = true then [(n : Int)] else [] := by
  unfold needN
  rw [nums_succ, List.filter_append]
  simp only [List.filter_cons, List.filter_nil]
theorem needN_le (P : Int) (ls : List (List Int)) (n : Nat) : (needN P ls n).length ≤ n := by
  have := List.length_filter_le (needB P ls) (nums n)
  simp only [nums, List.length_map, List.length_range] at this
  exact this
def needL (P : Int) (ls : List (List Int)) : List Int := if vW P ls = 0 then needN P ls P.toNat else []
theorem s21 {P : Int} {ws : List (AV × List Int)} {v : AV} {A : AHeap} (hw : LL A v ws) (hs : Sz ws) : ACalls Try.prog 21 [.agg [I P, v]] A (.tuple [outV 1 A (needL P (lists ws)).length, I (vW P (lists ws))]) (outH A ((needL P (lists ws)).flatMap e1) (needL P (lists ws)).length) := by
  refine acalls hmix Try.func21 (by kernel_rfl) t21 1 rfl (by decide) ?_
  dsimp only [m21]
  simp (maxSteps := 4000000) -implicitDefEqProofs -dsimp (disch := omega) only [↓AW_ops, ↓AW_seq, ↓AOps_nil, ↓AOps_pu, ↓AOps_call, on_some, ↓then_normal, pval, rd_S, rd_C, put_S, chkd, bgot, cells_agg, partA, eq_self, List.replicate_succ, List.replicate_zero, List.set_cons_zero, List.set_cons_succ, List.getElem?_cons_zero, List.getElem?_cons_succ, List.drop_zero, List.take_succ_cons, List.take_nil, Option.getD_some, map_c, map_n, List.length_cons, List.length_nil, Nat.reduceAdd, Nat.reduceSub, Nat.reduceLeDiff, Nat.reduceEqDiff, Nat.zero_add, List.cons_append, List.nil_append, if_true, if_false]
  refine CallK.of (s39 hw hs) ?_
  by_cases h0 : vW P (lists ws) = 0
  · have hv := val_of h0
    have hP := hv.hP
    obtain ⟨N, hN⟩ : ∃ N : Nat, P = N := ⟨P.toNat, by omega⟩
    have hL : needL P (lists ws) = needN P (lists ws) N := by unfold needL; rw [if_pos h0, hN, Int.toNat_natCast]
    rw [hL, h0]
    simp (maxSteps := 4000000) -implicitDefEqProofs -dsimp (disch := omega) only [↓AW_skip, ↓AW_ops, ↓AW_seq, ↓AW_cond, ↓AW_block, ↓AOps_nil, ↓AOps_pu, on_some, extK_same, condB_f, ↓then_normal, pval, rd_S, rd_C, put_S, ↓AW_toLoop, chkd, isAdr, bgot, cells_agg, partA, eq_self, List.replicate_succ, List.replicate_zero, List.set_cons_zero, List.set_cons_succ, List.getElem?_cons_zero, List.getElem?_cons_succ, List.drop_zero, List.take_zero, List.take_succ_cons, Option.getD_some, List.length_cons, List.length_nil, Nat.reduceAdd, Nat.reduceSub, Nat.reduceLeDiff, Nat.zero_add, List.cons_append, List.nil_append, bin_neq, if_true, if_false, Bool.false_eq_true, decide_false, not_true_eq_false]
    refine LoopK.by 30 (fun x : Nat × AV × AHeap => x.1 ≤ N ∧ AccL 1 e1 A x.2.2 x.2.1 (needN P (lists ws) x.1)) (fun x => [(1, .agg [I P, v]), (5, x.2.1), (13, I P), (14, I x.1)]) (fun x => x.2.2) (fun x => N - x.1) (0, .nilS, A) ⟨by simp only; omega, AccL.nil (List.prefix_refl _)⟩ rfl (by simp [Has, rd_s]) rfl ?_
    rintro ⟨i, u, A1⟩ ⟨hi, hu⟩
    simp only at hi hu
    by_cases hlt : i < N
    · have hlt' : (i : Int) < P := by omega
      have hw1 := hw.mono hu.pre
      simp (maxSteps := 4000000) -implicitDefEqProofs -dsimp (disch := omega) only [↓AW_skip, ↓AW_ops, ↓AW_seq, ↓AW_cond, ↓AW_block, ↓AOps_nil, ↓AOps_pu, ↓AOps_call, on_some, condB_t, ↓then_normal, pval, rd_S, put_S, chkd, bgot, partA, eq_self, mk, List.foldl_cons, List.foldl_nil, List.replicate_succ, List.replicate_zero, List.set_cons_zero, List.set_cons_succ, List.getElem?_cons_zero, List.getElem?_cons_succ, List.drop_zero, List.take_succ_cons, List.take_nil, Option.getD_some, map_c, map_n, List.length_cons, List.length_nil, Nat.reduceAdd, Nat.reduceLeDiff, Nat.reduceEqDiff, Nat.zero_add, bin_lss, if_true, if_false, decide_true, hlt']
      obtain ⟨r, A2, hcall, v', ws', rfl, hp2, hnl, hli⟩ := s59 (P := P) (p := (i : Int)) hw1 hs
      refine CallK.of hcall ?_
      simp (maxSteps := 4000000) -implicitDefEqProofs -dsimp (disch := omega) only [↓AOps_call, extK_false, rd_S, put_S, mk, List.foldl_cons, List.foldl_nil, List.replicate_succ, List.replicate_zero, List.set_cons_zero, List.set_cons_succ, List.getElem?_cons_zero, List.getElem?_cons_succ, Option.getD_some, map_c, map_n]
      refine CallK.of (s56 (by rw [hli]; exact val_wop hv i) hnl.ll) ?_
      rw [hli]
      simp (maxSteps := 4000000) -implicitDefEqProofs -dsimp (disch := omega) only [↓AOps_pu, ↓AOps_call, on_some, extK_same, pval, rd_S, put_S, chkd, bgot, partA, eq_self, mk, List.foldl_cons, List.foldl_nil, List.replicate_succ, List.replicate_zero, List.set_cons_zero, List.set_cons_succ, List.getElem?_cons_zero, List.getElem?_cons_succ, List.drop_zero, List.take_succ_cons, List.take_nil, Option.getD_some, map_c, map_n, List.length_cons, List.length_nil, Nat.reduceAdd, Nat.reduceLeDiff, Nat.reduceEqDiff, Nat.zero_add, if_true, if_false]
      refine CallK.of (s56 hv (hw1.mono hp2)) ?_
      have hu2 := hu.mono hp2
      have hle := needN_le P (lists ws) i
      by_cases hlt2 : most P (wop (lists ws) i) < most P (lists ws)
      · have hb : needB P (lists ws) i = true := decide_eq_true hlt2
        have hlt3 : ((most P (wop (lists ws) i) : Nat) : Int) < ((most P (lists ws) : Nat) : Int) := by omega
        obtain ⟨v4, A4, happ, h4⟩ := hu2.push e1_len (i : Int) (by simp [lim]; omega)
        simp only [Go.Eng.e1] at happ
        simp (maxSteps := 4000000) -implicitDefEqProofs -dsimp (disch := omega) only [↓AW_ops, ↓AW_cond, ↓AOps_nil, ↓AOps_pu, ↓AOps_ha, on_some, extK_false, extK_app, extK_same, condB_t, ↓then_normal, ↓inBlock_normal, pval, hval_blds, hval_app, rd_S, rd_C, put_S, cells_int, splice, fillA, repl, eq_self, mk, List.foldl_cons, List.foldl_nil, List.replicate_succ, List.replicate_zero, List.set_cons_zero, List.set_cons_succ, List.getElem?_cons_zero, List.getElem?_cons_succ, List.drop_succ_cons, List.drop_nil, List.take_zero, Option.getD_some, map_c, map_n, List.length_cons, List.length_nil, Nat.reduceAdd, Nat.reduceLeDiff, Nat.zero_add, List.nil_append, List.append_nil, bin_add, bin_lss, w64, if_true, decide_true, true_and, and_true, hlt3, happ]
        refine ⟨(i + 1, v4, A4), ⟨hlt, ?_⟩, by simp [Has, rd_s], rfl, by simp only; omega⟩
        simp only
        rw [needN_succ, if_pos hb]
        exact h4
      · have hb : ¬ needB P (lists ws) i = true := by unfold needB; simpa using hlt2
        have hlt3 : ¬ ((most P (wop (lists ws) i) : Nat) : Int) < ((most P (lists ws) : Nat) : Int) := by omega
        simp (maxSteps := 4000000) -implicitDefEqProofs -dsimp (disch := omega) only [↓AW_skip, ↓AW_ops, ↓AW_cond, ↓AOps_nil, ↓AOps_pu, on_some, extK_same, condB_f, ↓then_normal, ↓inBlock_normal, pval, rd_S, rd_C, put_S, eq_self, mk, List.foldl_cons, List.foldl_nil, List.replicate_succ, List.replicate_zero, List.set_cons_zero, List.set_cons_succ, List.getElem?_cons_zero, List.getElem?_cons_succ, Option.getD_some, List.length_cons, List.length_nil, Nat.reduceAdd, Nat.zero_add, bin_add, bin_lss, w64, decide_false, true_and, hlt3]
        refine ⟨(i + 1, u, A2), ⟨hlt, ?_⟩, by simp [Has, rd_s], rfl, by simp only; omega⟩
        simp only
        rw [needN_succ, if_neg hb, List.append_nil]
        exact hu2
    · have hlt' : ¬ ((i : Int) < P) := by omega
      have hii : i = N := by omega
      subst hii
      simp (maxSteps := 4000000) -implicitDefEqProofs -dsimp (disch := omega) only [↓AW_ops, ↓AW_seq, ↓AW_cond, ↓AW_exit, ↓AW_ret, ↓AOps_nil, ↓AOps_pu, on_some, condB_f, ↓then_normal, ↓then_exit, ↓inBlock_exit, ↓Fin_ret, pval, rd_S, rd_C, put_S, resV, resL, eq_self, mk, List.foldl_cons, List.foldl_nil, List.replicate_succ, List.replicate_zero, List.set_cons_zero, List.set_cons_succ, List.getElem?_cons_zero, List.getElem?_cons_succ, Option.getD_some, bin_lss, if_true, decide_false, hlt']
      exact hu.gc2 flat_e1 (I 0) rfl
  · have hL : needL P (lists ws) = [] := by unfold needL; rw [if_neg h0]
    rw [hL]
    simp (maxSteps := 4000000) -implicitDefEqProofs -dsimp (disch := omega) only [↓AW_ops, ↓AW_seq, ↓AW_cond, ↓AW_ret, ↓AOps_nil, ↓AOps_pu, on_some, extK_same, condB_t, ↓then_normal, ↓then_ret, ↓Fin_ret, pval, rd_S, rd_C, put_S, resV, resL, List.replicate_succ, List.replicate_zero, List.set_cons_zero, List.set_cons_succ, List.getElem?_cons_zero, List.getElem?_cons_succ, Option.getD_some, List.length_nil, Nat.reduceSub, List.cons_append, List.nil_append, bin_neq, decide_true, not_false_eq_true, h0]
    exact gc_same_all rfl rfl
def shrOk (s p : Nat) : Bool := match binI .shr (I (s : Int)) (.int .u64 (p : Int)) with
  | some (.int .i64 a) => match binI .and (.int .i64 a) (I 1) with
    | some (.int .i64 b) => decide (b = if s.testBit p then 1 else 0)
    | _ => false
  | _ => false
set_option maxRecDepth 100000 in
theorem shr_run : ((List.range 128).all fun s => (List.range 8).all fun p => shrOk s p) = true := by kernel_rfl
theorem shr_facts {s p : Nat} (hs : s < 128) (hp : p < 8) : ∃ a : Int, binI .shr (I (s : Int)) (.int .u64 (p : Int)) = some (I a) ∧ binI .and (I a) (I 1) = some (I (if s.testBit p = true then 1 else 0)) := by
  have h := List.all_eq_true.1 (List.all_eq_true.1 shr_run s (List.mem_range.2 hs)) p (List.mem_range.2 hp)
  unfold shrOk at h
  split at h
  · rename_i a e1'
    split at h
    · rename_i b e2'
      exact ⟨a, e1', by rw [e2', of_decide_eq_true h]⟩
    · cases h
  · cases h
/-- One of the first n sets that are as large as can be leaves the place out. -/
def lacks (P : Int) (ls : List (List Int)) (p n : Nat) : Bool := (List.range n).any (fun s => cF ls (-1) ls.length s && decide (pc s = most P ls) && !s.testBit p)
theorem lacks_succ (P : Int) (ls : List (List Int)) (p n : Nat) : lacks P ls p (n + 1) = (lacks P ls p n || (cF ls (-1) ls.length n && decide (pc n = most P ls) && !n.testBit p)) := by
  unfold lacks
  rw [List.range_succ, List.any_append]
  simp
theorem lacks_need {P : Int} {ls : List (List Int)} (hv : Val P ls) (p : Nat) : (!lacks P ls p (2 ^ P.toNat)) = needB P ls p := by
  rw [Bool.eq_iff_iff, need_bits hv]
  unfold lacks
  simp only [Bool.not_eq_true', List.any_eq_false, List.mem_range, Bool.and_eq_true, decide_eq_true_eq]
  constructor
  · intro h s hs hc hp
    have := h s hs
    cases hb : s.testBit p with
    | true => rfl
    | false => exact absurd ⟨⟨hc, hp⟩, by rw [hb]⟩ this
  · intro h s hs hh
    have := h s hs hh.1.1 hh.1.2
    rw [this] at hh
    exact absurd hh.2 (by simp)
theorem s22 {P : Int} {ws : List (AV × List Int)} {v : AV} {A : AHeap} (hw : LL A v ws) (hs : Sz ws) : ACalls Try.prog 22 [.agg [I P, v]] A (.tuple [outV 1 A (needL P (lists ws)).length, I (vW P (lists ws))]) (outH A ((needL P (lists ws)).flatMap e1) (needL P (lists ws)).length) := by
  refine acalls hmix Try.func22 (by kernel_rfl) t22 1 rfl (by decide) ?_
  dsimp only [m22]
  simp (maxSteps := 4000000) -implicitDefEqProofs -dsimp (disch := omega) only [↓AW_ops, ↓AW_seq, ↓AOps_nil, ↓AOps_pu, ↓AOps_call, on_some, ↓then_normal, pval, rd_S, rd_C, put_S, chkd, bgot, cells_agg, partA, eq_self, List.replicate_succ, List.replicate_zero, List.set_cons_zero, List.set_cons_succ, List.getElem?_cons_zero, List.getElem?_cons_succ, List.drop_zero, List.take_succ_cons, List.take_nil, Option.getD_some, map_c, map_n, List.length_cons, List.length_nil, Nat.reduceAdd, Nat.reduceSub, Nat.reduceLeDiff, Nat.reduceEqDiff, Nat.zero_add, List.cons_append, List.nil_append, if_true, if_false]
  refine CallK.of (s40 hw hs) ?_
  by_cases h0 : vW P (lists ws) = 0
  · have hv := val_of h0
    have hP := hv.hP
    have hls : ∀ l ∈ lists ws, ∀ p ∈ l, inP P p := fun l hl => (hv.l l hl).1
    have hpow : 2 ^ P.toNat ≤ 128 := by
      have : 2 ^ P.toNat ≤ 2 ^ 7 := Nat.pow_le_pow_right (by omega) (by omega)
      omega
    have hL : needL P (lists ws) = needN P (lists ws) P.toNat := by unfold needL; rw [if_pos h0]
    rw [hL, h0]
    have hmb : mb (cF (lists ws) (-1) ws.length) (2 ^ P.toNat) = most P (lists ws) := by
      have := mb_most (by omega) hls (-1)
      rwa [List.length_map, drp_none] at this
    have hll : (lists ws).length = ws.length := by simp
    simp (maxSteps := 4000000) -implicitDefEqProofs -dsimp (disch := omega) only [↓AW_skip, ↓AW_ops, ↓AW_seq, ↓AW_cond, ↓AOps_nil, ↓AOps_pu, ↓AOps_call, on_some, extK_same, condB_f, ↓then_normal, pval, rd_S, rd_C, put_S, chkd, bgot, partA, eq_self, List.replicate_succ, List.replicate_zero, List.set_cons_zero, List.set_cons_succ, List.getElem?_cons_zero, List.getElem?_cons_succ, List.drop_zero, List.take_succ_cons, List.take_nil, Option.getD_some, map_c, map_n, List.length_cons, List.length_nil, Nat.reduceAdd, Nat.reduceSub, Nat.reduceLeDiff, Nat.reduceEqDiff, Nat.zero_add, List.cons_append, List.nil_append, bin_neq, if_true, if_false, decide_false, not_true_eq_false, Int.reduceNeg]
    refine CallK.of (s58 hv hw (-1)) ?_
    have p1 := pre_app A [.cells true ((tb (2 ^ P.toNat) (cF (lists ws) (-1) ws.length)).flatMap eb)]
    have k1 : Lb (A ++ [.cells true ((tb (2 ^ P.toNat) (cF (lists ws) (-1) ws.length)).flatMap eb)]) (.sl 1 A.length 0 (2 ^ P.toNat) false) (tb (2 ^ P.toNat) (cF (lists ws) (-1) ws.length)) := by
      have := (OL.new_mk eb_len A (tb (2 ^ P.toNat) (cF (lists ws) (-1) ws.length)) false).ls
      rwa [tb_len] at this
    generalize A ++ [AObj.cells true ((tb (2 ^ P.toNat) (cF (lists ws) (-1) ws.length)).flatMap eb)] = A1 at *
    generalize AV.sl 1 A.length 0 (2 ^ P.toNat) false = y1 at *
    have hlenP : lenA y1 = some (I ((2 ^ P.toNat : Nat) : Int)) := by have := k1.len; rwa [tb_len] at this
    simp (maxSteps := 4000000) -implicitDefEqProofs -dsimp (disch := omega) only [↓AW_ops, ↓AW_seq, ↓AW_block, ↓AOps_nil, ↓AOps_pu, on_some, extK_false, ↓then_normal, pval, rd_S, rd_C, put_S, ↓AW_toLoop, List.replicate_succ, List.replicate_zero, List.set_cons_zero, List.set_cons_succ, List.getElem?_cons_zero, List.getElem?_cons_succ, Option.getD_some, Nat.reduceSub, List.cons_append, List.nil_append]
    refine LoopK.by 54 (fun x : Nat × AV × AHeap => x.1 ≤ P.toNat ∧ AccL 1 e1 A1 x.2.2 x.2.1 (needN P (lists ws) x.1)) (fun x => [(1, .agg [I P, v]), (5, y1), (6, x.2.1), (7, I x.1)]) (fun x => x.2.2) (fun x => P.toNat - x.1) (0, .nilS, A1) ⟨by simp only; omega, AccL.nil (List.prefix_refl _)⟩ rfl (by simp [Has, rd_s]) rfl ?_
    rintro ⟨i, u, A2⟩ ⟨hi, hu⟩
    simp only at hi hu
    have k2 := k1.mono hu.pre
    by_cases hlt : i < P.toNat
    · have hlt' : (i : Int) < P := by omega
      simp (maxSteps := 4000000) -implicitDefEqProofs -dsimp (disch := omega) only [↓AW_skip, ↓AW_ops, ↓AW_seq, ↓AW_cond, ↓AW_block, ↓AOps_nil, ↓AOps_pu, on_some, condB_t, ↓then_normal, pval, rd_S, rd_C, put_S, ↓AW_toLoop, chkd, isAdr, bgot, cells_agg, partA, eq_self, mk, List.foldl_cons, List.foldl_nil, List.replicate_succ, List.replicate_zero, List.set_cons_zero, List.set_cons_succ, List.getElem?_cons_zero, List.getElem?_cons_succ, List.drop_zero, List.take_zero, List.take_succ_cons, Option.getD_some, List.length_cons, List.length_nil, Nat.reduceAdd, Nat.reduceLeDiff, Nat.zero_add, bin_lss, if_true, if_false, Bool.false_eq_true, decide_true, hlt']
      refine LoopK.by 54 (fun s : Nat => s ≤ 2 ^ P.toNat) (fun s => [(1, .agg [I P, v]), (5, y1), (6, u), (7, I i), (8, B (!lacks P (lists ws) i s)), (9, I s)]) (fun _ => A2) (fun s => 2 ^ P.toNat - s) 0 (Nat.zero_le _) rfl (by simp [Has, rd_s, lacks]) rfl ?_
      intro s hsl
      by_cases hlts : s < 2 ^ P.toNat
      · have hlts' : (s : Int) < ((2 ^ P.toNat : Nat) : Int) := by omega
        have hsx : s < (tb (2 ^ P.toNat) (cF (lists ws) (-1) ws.length)).length := by rw [tb_len]; exact hlts
        have hgx := tb_get (f := cF (lists ws) (-1) ws.length) hlts
        obtain ⟨a, ha1, ha2⟩ := shr_facts (s := s) (p := i) (by omega) (by omega)
        have hcv := u64w (i : Int) (by omega) (by omega)
        have hsucc := lacks_succ P (lists ws) i s
        rw [hll] at hsucc
        cases hc : cF (lists ws) (-1) ws.length s with
        | false =>
          rw [hc] at hgx hsucc
          simp only [Bool.false_and, Bool.or_false] at hsucc
          simp (maxSteps := 4000000) -implicitDefEqProofs -dsimp (disch := omega) only [↓AW_skip, ↓AW_ops, ↓AW_seq, ↓AW_cond, ↓AW_block, ↓AOps_nil, ↓AOps_pu, ↓AOps_ld, ↓AOps_guard, on_some, guardB_ft, skipS_some, condB_t, condB_f, ↓then_normal, ↓inBlock_normal, pval, lval, rd_S, rd_C, put_S, partA, eq_self, mk, List.foldl_cons, List.foldl_nil, List.replicate_succ, List.replicate_zero, List.set_cons_zero, List.set_cons_succ, List.getElem?_cons_zero, List.getElem?_cons_succ, List.drop_zero, List.take_succ_cons, List.take_nil, Option.getD_some, List.length_cons, List.length_nil, Nat.reduceAdd, Nat.reduceLeDiff, Nat.zero_add, bin_add, bin_lss, w64, if_true, if_false, Bool.false_eq_true, decide_true, true_and, hlts', hlenP, k2.idx hsx, k2.ld0 hgx 1 false (by decide), eb]
          exact ⟨s + 1, hlts, by simp [Has, rd_s, hsucc], by omega⟩
        | true =>
          rw [hc] at hgx hsucc
          simp only [Bool.true_and] at hsucc
          simp (maxSteps := 4000000) -implicitDefEqProofs -dsimp (disch := omega) only [↓AW_skip, ↓AW_ops, ↓AW_seq, ↓AW_cond, ↓AW_block, ↓AOps_nil, ↓AOps_pu, ↓AOps_ld, ↓AOps_call, ↓AOps_guard, on_some, guardB_tt, condB_t, ↓then_normal, pval, lval, rd_S, put_S, partA, eq_self, mk, List.foldl_cons, List.foldl_nil, List.replicate_succ, List.replicate_zero, List.set_cons_zero, List.set_cons_succ, List.getElem?_cons_zero, List.getElem?_cons_succ, List.drop_zero, List.take_succ_cons, List.take_nil, Option.getD_some, map_c, map_n, List.length_cons, List.length_nil, Nat.reduceLeDiff, Nat.zero_add, bin_lss, if_true, if_false, Bool.false_eq_true, decide_true, hlts', hlenP, k2.idx hsx, k2.ld0 hgx 1 false (by decide), eb]
          refine CallK.of (s60 s (by omega) A2) ?_
          simp (maxSteps := 4000000) -implicitDefEqProofs -dsimp (disch := omega) only [↓AOps_pu, ↓AOps_call, ↓AOps_guard, on_some, extK_same, guardB_tt, pval, rd_S, put_S, mk, List.foldl_cons, List.foldl_nil, List.replicate_succ, List.replicate_zero, List.set_cons_zero, List.set_cons_succ, List.getElem?_cons_zero, List.getElem?_cons_succ, Option.getD_some, map_c, map_n]
          refine CallK.of (s57 k2 (by omega)) ?_
          rw [hmb]
          by_cases hpc : pc s = most P (lists ws)
          · have hpc' : ((pc s : Nat) : Int) = ((most P (lists ws) : Nat) : Int) := by omega
            rw [decide_eq_true hpc, Bool.true_and] at hsucc
            cases hb : s.testBit i with
            | true =>
              rw [hb] at ha2 hsucc
              simp only [Bool.not_true, Bool.or_false] at hsucc
              simp only [if_true] at ha2
              simp (maxSteps := 4000000) -implicitDefEqProofs -dsimp (disch := omega) only [↓AW_skip, ↓AW_ops, ↓AW_cond, ↓AOps_nil, ↓AOps_pu, ↓AOps_guard, on_some, extK_same, guardB_tt, condB_f, ↓then_normal, ↓inBlock_normal, pval, rd_S, rd_C, put_S, eq_self, mk, List.foldl_cons, List.foldl_nil, List.replicate_succ, List.replicate_zero, List.set_cons_zero, List.set_cons_succ, List.getElem?_cons_zero, List.getElem?_cons_succ, Option.getD_some, List.length_cons, List.length_nil, Nat.reduceAdd, Nat.zero_add, bin_add, bin_eql, w64, if_true, decide_true, decide_false, true_and, Int.reduceEq, hpc', hcv, ha1, ha2]
              exact ⟨s + 1, hlts, by simp [Has, rd_s, hsucc], by omega⟩
            | false =>
              rw [hb] at ha2 hsucc
              simp only [Bool.not_false, Bool.or_true] at hsucc
              simp only [Bool.false_eq_true, if_false] at ha2
              simp (maxSteps := 4000000) -implicitDefEqProofs -dsimp (disch := omega) only [↓AW_ops, ↓AW_cond, ↓AOps_nil, ↓AOps_pu, ↓AOps_guard, on_some, extK_same, guardB_tt, condB_t, ↓then_normal, ↓inBlock_normal, pval, rd_S, rd_C, put_S, eq_self, mk, List.foldl_cons, List.foldl_nil, List.replicate_succ, List.replicate_zero, List.set_cons_zero, List.set_cons_succ, List.getElem?_cons_zero, List.getElem?_cons_succ, Option.getD_some, List.length_cons, List.length_nil, Nat.reduceAdd, Nat.zero_add, bin_add, bin_eql, w64, if_true, decide_true, true_and, hpc', hcv, ha1, ha2]
              exact ⟨s + 1, hlts, by simp [Has, rd_s, hsucc], by omega⟩
          · have hpc' : ¬ ((pc s : Nat) : Int) = ((most P (lists ws) : Nat) : Int) := by omega
            rw [decide_eq_false hpc, Bool.false_and, Bool.or_false] at hsucc
            simp (maxSteps := 4000000) -implicitDefEqProofs -dsimp (disch := omega) only [↓AW_skip, ↓AW_ops, ↓AW_cond, ↓AOps_nil, ↓AOps_pu, ↓AOps_guard, on_some, extK_same, guardB_tt, guardB_ft, skipS_some, condB_f, ↓then_normal, ↓inBlock_normal, pval, rd_S, rd_C, put_S, eq_self, mk, List.foldl_cons, List.foldl_nil, List.replicate_succ, List.replicate_zero, List.set_cons_zero, List.set_cons_succ, List.getElem?_cons_zero, List.getElem?_cons_succ, Option.getD_some, List.length_cons, List.length_nil, Nat.reduceAdd, Nat.zero_add, bin_add, bin_eql, w64, if_true, if_false, Bool.false_eq_true, decide_false, true_and, hpc']
            exact ⟨s + 1, hlts, by simp [Has, rd_s, hsucc], by omega⟩
      · have hlts' : ¬ ((s : Int) < ((2 ^ P.toNat : Nat) : Int)) := by omega
        have hse : s = 2 ^ P.toNat := by omega
        subst hse
        have hnb := lacks_need hv i
        have hle := needN_le P (lists ws) i
        rw [hnb]
        by_cases hb : needB P (lists ws) i = true
        · obtain ⟨v4, A4, happ, h4⟩ := hu.push e1_len (i : Int) (by simp [lim]; omega)
          simp only [Go.Eng.e1] at happ
          simp (maxSteps := 4000000) -implicitDefEqProofs -dsimp (disch := omega) only [↓AW_ops, ↓AW_seq, ↓AW_cond, ↓AW_exit, ↓AW_ret, ↓AOps_nil, ↓AOps_pu, ↓AOps_ha, on_some, extK_false, extK_app, condB_t, condB_f, ↓then_normal, ↓then_exit, ↓inBlock_normal, ↓inBlock_exit, ↓Fin_ret, pval, hval_blds, hval_app, rd_S, rd_C, put_S, resV, resL, cells_int, splice, fillA, repl, eq_self, mk, List.foldl_cons, List.foldl_nil, List.replicate_succ, List.replicate_zero, List.set_cons_zero, List.set_cons_succ, List.getElem?_cons_zero, List.getElem?_cons_succ, List.drop_succ_cons, List.drop_nil, List.take_zero, Option.getD_some, map_c, map_n, List.length_cons, List.length_nil, Nat.reduceAdd, Nat.reduceLeDiff, Nat.reduceEqDiff, Nat.zero_add, List.nil_append, List.append_nil, bin_add, bin_lss, w64, if_true, if_false, decide_false, true_and, and_true, reduceCtorEq, hlts', hlenP, hb, happ]
          refine ⟨(i + 1, v4, A4), ⟨hlt, ?_⟩, by simp [Has, rd_s], rfl, by simp only; omega⟩
          simp only
          rw [needN_succ, if_pos hb]
          exact h4
        · have hb' : needB P (lists ws) i = false := by simpa using hb
          simp (maxSteps := 4000000) -implicitDefEqProofs -dsimp (disch := omega) only [↓AW_skip, ↓AW_ops, ↓AW_seq, ↓AW_cond, ↓AW_exit, ↓AW_ret, ↓AOps_nil, ↓AOps_pu, on_some, condB_f, ↓then_normal, ↓then_exit, ↓inBlock_normal, ↓inBlock_exit, ↓Fin_ret, pval, rd_S, rd_C, put_S, resV, resL, eq_self, mk, List.foldl_cons, List.foldl_nil, List.replicate_succ, List.replicate_zero, List.set_cons_zero, List.set_cons_succ, List.getElem?_cons_zero, List.getElem?_cons_succ, Option.getD_some, List.length_cons, List.length_nil, Nat.reduceAdd, Nat.reduceEqDiff, Nat.zero_add, bin_add, bin_lss, w64, if_true, if_false, decide_false, true_and, reduceCtorEq, hlts', hlenP, hb']
          refine ⟨(i + 1, u, A2), ⟨hlt, ?_⟩, by simp [Has, rd_s], rfl, by simp only; omega⟩
          simp only
          rw [needN_succ, if_neg hb, List.append_nil]
          exact hu
    · have hlt' : ¬ ((i : Int) < P) := by omega
      have hii : i = P.toNat := by omega
      subst hii
      simp (maxSteps := 4000000) -implicitDefEqProofs -dsimp (disch := omega) only [↓AW_ops, ↓AW_seq, ↓AW_cond, ↓AW_exit, ↓AW_ret, ↓AOps_nil, ↓AOps_pu, on_some, condB_f, ↓then_normal, ↓then_exit, ↓inBlock_exit, ↓Fin_ret, pval, rd_S, rd_C, put_S, resV, resL, chkd, isAdr, bgot, cells_agg, partA, eq_self, mk, List.foldl_cons, List.foldl_nil, List.replicate_succ, List.replicate_zero, List.set_cons_zero, List.set_cons_succ, List.getElem?_cons_zero, List.getElem?_cons_succ, List.drop_zero, List.take_zero, List.take_succ_cons, Option.getD_some, List.length_cons, List.length_nil, Nat.reduceAdd, Nat.reduceLeDiff, Nat.zero_add, bin_lss, if_true, if_false, Bool.false_eq_true, decide_false, hlt']
      exact (AccL_base0 p1 hu).gc2 flat_e1 (I 0) rfl
  · have hL : needL P (lists ws) = [] := by unfold needL; rw [if_neg h0]
    rw [hL]
    simp (maxSteps := 4000000) -implicitDefEqProofs -dsimp (disch := omega) only [↓AW_ops, ↓AW_seq, ↓AW_cond, ↓AW_ret, ↓AOps_nil, ↓AOps_pu, on_some, extK_same, condB_t, ↓then_normal, ↓then_ret, ↓Fin_ret, pval, rd_S, rd_C, put_S, resV, resL, List.replicate_succ, List.replicate_zero, List.set_cons_zero, List.set_cons_succ, List.getElem?_cons_zero, List.getElem?_cons_succ, Option.getD_some, List.length_nil, Nat.reduceSub, List.cons_append, List.nil_append, bin_neq, decide_true, not_false_eq_true, h0]
    exact gc_same_all rfl rfl
theorem sureL_le {P : Int} {ls : List (List Int)} : (sureL P ls).length ≤ ls.length := by
  unfold sureL
  split
  · exact sureN_le P ls ls.length
  · simp
theorem needL_le {P : Int} {ls : List (List Int)} : (needL P ls).length ≤ 7 := by
  unfold needL
  split
  · rename_i h
    have h1 := needN_le P ls P.toNat
    have := vW_P7 h
    omega
  · simp
set_option maxRecDepth 100000 in
set_option maxHeartbeats 4000000 in
theorem s3 {P : Int} {ws : List (AV × List Int)} {v : AV} {A : AHeap} (hw : LL A v ws) (hl : ws.length ≤ 9223372036854775807) : ACalls Try.prog 3 [.agg [I P, v]] A (B true) A := by
  refine acalls hmix Try.func3 (by kernel_rfl) t3 1 rfl (by decide) ?_
  dsimp only [m3]
  simp (maxSteps := 4000000) -implicitDefEqProofs -dsimp (disch := omega) only [↓AW_ops, ↓AW_seq, ↓AOps_nil, ↓AOps_pu, ↓AOps_call, on_some, ↓then_normal, pval, rd_S, rd_C, put_S, chkd, bgot, AV.cells?, partA, eq_self, List.replicate_succ, List.replicate_zero, List.set_cons_zero, List.set_cons_succ, List.getElem?_cons_zero, List.getElem?_cons_succ, List.drop_zero, List.take_succ_cons, List.take_nil, Option.getD_some, map_c, map_n, List.length_cons, List.length_nil, Nat.reduceAdd, Nat.reduceSub, Nat.reduceLeDiff, Nat.reduceEqDiff, Nat.zero_add, List.cons_append, List.nil_append, if_true, if_false]
  refine CallK.of (s17 hw hl) ?_
  by_cases h : longW ws
  · rw [decide_eq_true h]
    simp (maxSteps := 4000000) -implicitDefEqProofs -dsimp (disch := omega) only [↓AW_ops, ↓AW_seq, ↓AW_cond, ↓AOps_nil, ↓AOps_call, extK_same, condB_t, ↓then_normal, rd_S, put_S, List.replicate_succ, List.replicate_zero, List.set_cons_zero, List.set_cons_succ, List.getElem?_cons_zero, List.getElem?_cons_succ, Option.getD_some, map_n, Nat.reduceSub, List.cons_append, List.nil_append]
    refine CallK.of (known A) ?_
    simp (maxSteps := 4000000) -implicitDefEqProofs -dsimp (disch := omega) only [↓AW_ret, ↓AOps_nil, ↓AOps_pu, on_some, extK_same, ↓then_normal, ↓then_ret, ↓Fin_ret, pval, rd_S, put_S, resV, resL, List.replicate_succ, List.replicate_zero, List.set_cons_zero, List.set_cons_succ, List.getElem?_cons_zero, List.getElem?_cons_succ, Option.getD_some, Nat.reduceSub, List.cons_append, List.nil_append]
    exact gc_same rfl
  · have hs := Sz_of h
    have hs1 := hs.1
    rw [decide_eq_false h]
    have l1 := sureL_le (P := P) (ls := lists ws)
    have l2 := needL_le (P := P) (ls := lists ws)
    rw [List.length_map] at l1
    simp (maxSteps := 4000000) -implicitDefEqProofs -dsimp (disch := omega) only [↓AW_skip, ↓AW_ops, ↓AW_seq, ↓AW_cond, ↓AOps_nil, ↓AOps_pu, ↓AOps_call, on_some, extK_same, condB_f, ↓then_normal, pval, rd_S, put_S, chkd, bgot, partA, eq_self, List.replicate_succ, List.replicate_zero, List.set_cons_zero, List.set_cons_succ, List.getElem?_cons_zero, List.getElem?_cons_succ, List.drop_zero, List.take_succ_cons, List.take_nil, Option.getD_some, map_c, map_n, List.length_cons, List.length_nil, Nat.reduceAdd, Nat.reduceSub, Nat.reduceLeDiff, Nat.reduceEqDiff, Nat.zero_add, List.cons_append, List.nil_append, if_true, if_false]
    refine CallK.of (s19 hw hs) ?_
    have p1 := pre_out A ((sureL P (lists ws)).flatMap Go.Eng.e1) (sureL P (lists ws)).length
    have hL1 := Ls_out A e1_len (sureL P (lists ws))
    generalize outH A ((sureL P (lists ws)).flatMap Go.Eng.e1) (sureL P (lists ws)).length = A1 at *
    generalize outV 1 A (sureL P (lists ws)).length = y1 at *
    simp (maxSteps := 4000000) -implicitDefEqProofs -dsimp (disch := omega) only [↓AW_ops, ↓AW_seq, ↓AOps_nil, ↓AOps_pu, ↓AOps_call, on_some, extK_false, ↓then_normal, pval, rd_S, put_S, chkd, bgot, partA, eq_self, List.replicate_succ, List.replicate_zero, List.set_cons_zero, List.set_cons_succ, List.getElem?_cons_zero, List.getElem?_cons_succ, List.drop_zero, List.take_succ_cons, List.take_nil, Option.getD_some, map_c, map_n, List.length_cons, List.length_nil, Nat.reduceAdd, Nat.reduceSub, Nat.reduceLeDiff, Nat.reduceEqDiff, Nat.zero_add, List.cons_append, List.nil_append, if_true, if_false]
    refine CallK.of (s20 (hw.mono p1) hs) ?_
    have p2 := pre_out A1 ((sureL P (lists ws)).flatMap Go.Eng.e1) (sureL P (lists ws)).length
    have hL2 := Ls_out A1 e1_len (sureL P (lists ws))
    generalize outH A1 ((sureL P (lists ws)).flatMap Go.Eng.e1) (sureL P (lists ws)).length = A2 at *
    generalize outV 1 A1 (sureL P (lists ws)).length = y2 at *
    have p12 := p1.trans p2
    simp (maxSteps := 4000000) -implicitDefEqProofs -dsimp (disch := omega) only [↓AW_ops, ↓AW_seq, ↓AOps_nil, ↓AOps_pu, ↓AOps_call, on_some, extK_false, ↓then_normal, pval, rd_S, put_S, chkd, bgot, partA, eq_self, List.replicate_succ, List.replicate_zero, List.set_cons_zero, List.set_cons_succ, List.getElem?_cons_zero, List.getElem?_cons_succ, List.drop_zero, List.take_succ_cons, List.take_nil, Option.getD_some, map_c, map_n, List.length_cons, List.length_nil, Nat.reduceAdd, Nat.reduceSub, Nat.reduceLeDiff, Nat.reduceEqDiff, Nat.zero_add, List.cons_append, List.nil_append, if_true, if_false]
    refine CallK.of (s21 (hw.mono p12) hs) ?_
    have p3 := pre_out A2 ((needL P (lists ws)).flatMap Go.Eng.e1) (needL P (lists ws)).length
    have hL3 := Ls_out A2 e1_len (needL P (lists ws))
    generalize outH A2 ((needL P (lists ws)).flatMap Go.Eng.e1) (needL P (lists ws)).length = A3 at *
    generalize outV 1 A2 (needL P (lists ws)).length = y3 at *
    have p13 := p12.trans p3
    simp (maxSteps := 4000000) -implicitDefEqProofs -dsimp (disch := omega) only [↓AW_ops, ↓AW_seq, ↓AOps_nil, ↓AOps_pu, ↓AOps_call, on_some, extK_false, ↓then_normal, pval, rd_S, put_S, chkd, bgot, partA, eq_self, List.replicate_succ, List.replicate_zero, List.set_cons_zero, List.set_cons_succ, List.getElem?_cons_zero, List.getElem?_cons_succ, List.drop_zero, List.take_succ_cons, List.take_nil, Option.getD_some, map_c, map_n, List.length_cons, List.length_nil, Nat.reduceAdd, Nat.reduceSub, Nat.reduceLeDiff, Nat.reduceEqDiff, Nat.zero_add, List.cons_append, List.nil_append, if_true, if_false]
    refine CallK.of (s22 (hw.mono p13) hs) ?_
    have p4 := pre_out A3 ((needL P (lists ws)).flatMap Go.Eng.e1) (needL P (lists ws)).length
    have hL4 := Ls_out A3 e1_len (needL P (lists ws))
    generalize outH A3 ((needL P (lists ws)).flatMap Go.Eng.e1) (needL P (lists ws)).length = A4 at *
    generalize outV 1 A3 (needL P (lists ws)).length = y4 at *
    have p14 := p13.trans p4
    simp (maxSteps := 4000000) -implicitDefEqProofs -dsimp (disch := omega) only [↓AW_ops, ↓AW_seq, ↓AOps_nil, ↓AOps_pu, ↓AOps_call, on_some, extK_false, ↓then_normal, pval, rd_S, put_S, List.replicate_succ, List.replicate_zero, List.set_cons_zero, List.set_cons_succ, List.getElem?_cons_zero, List.getElem?_cons_succ, Option.getD_some, map_c, map_n, Nat.reduceSub, List.cons_append, List.nil_append]
    refine CallK.of (c_SameInts (hL1.mono (p2.trans (p3.trans p4))) (hL2.mono (p3.trans p4)) (by omega)) ?_
    rw [decide_eq_true (rfl : sureL P (lists ws) = sureL P (lists ws))]
    simp (maxSteps := 4000000) -implicitDefEqProofs -dsimp (disch := omega) only [↓AOps_pu, ↓AOps_call, ↓AOps_guard, on_some, extK_same, guardB_tt, pval, rd_S, rd_C, put_S, eq_self, List.replicate_succ, List.replicate_zero, List.set_cons_zero, List.set_cons_succ, List.getElem?_cons_zero, List.getElem?_cons_succ, Option.getD_some, map_c, map_n, Nat.reduceSub, List.cons_append, List.nil_append, bin_eql, if_true, decide_true]
    refine CallK.of (c_SameInts (hL3.mono p4) hL4 (by omega)) ?_
    rw [decide_eq_true (rfl : needL P (lists ws) = needL P (lists ws))]
    simp (maxSteps := 4000000) -implicitDefEqProofs -dsimp (disch := omega) only [↓AOps_pu, ↓AOps_call, ↓AOps_guard, on_some, extK_same, guardB_tt, pval, rd_S, rd_C, put_S, eq_self, List.replicate_succ, List.replicate_zero, List.set_cons_zero, List.set_cons_succ, List.getElem?_cons_zero, List.getElem?_cons_succ, Option.getD_some, map_n, Nat.reduceSub, List.cons_append, List.nil_append, bin_eql, if_true, decide_true]
    refine CallK.of (known _) ?_
    simp (maxSteps := 4000000) -implicitDefEqProofs -dsimp (disch := omega) only [↓AW_ret, ↓AOps_nil, ↓AOps_pu, on_some, extK_same, ↓then_normal, ↓Fin_ret, pval, rd_S, rd_C, put_S, resV, resL, eq_self, List.replicate_succ, List.replicate_zero, List.set_cons_zero, List.set_cons_succ, List.getElem?_cons_zero, List.getElem?_cons_succ, Option.getD_some, Nat.reduceSub, List.cons_append, List.nil_append, if_true]
    exact gc_val p14 rfl
end Go.Proofs.Ytlmbobbefgcolaa

namespace Go.Proofs.Ytlmbobbefgcolaa
open Go Go.Eng
theorem s68 {ws vs : List (AV × List Int)} {v u : AV} {A : AHeap} (hw : LL A v ws) (hv : LL A u vs) (hs : Sz ws) : ACalls Try.prog 68 [v, u] A (B (decide (lists ws = lists vs))) A := by
  refine acalls hmix Try.func68 (by kernel_rfl) t68 2 rfl (by decide) ?_
  have hs1 := hs.1
  have hwl : (lists ws).length = ws.length := by simp
  have hvl : (lists vs).length = vs.length := by simp
  by_cases hle : ws.length = vs.length
  · have hle' : (ws.length : Int) = vs.length := by omega
    dsimp only [m68]
    simp (maxSteps := 4000000) -implicitDefEqProofs -dsimp (disch := omega) only [↓AW_skip, ↓AW_ops, ↓AW_seq, ↓AW_cond, ↓AW_block, ↓AOps_nil, ↓AOps_pu, on_some, condB_f, ↓then_normal, pval, rd_S, rd_C, put_S, ↓AW_toLoop, eq_self, List.replicate_succ, List.replicate_zero, List.set_cons_zero, List.set_cons_succ, List.getElem?_cons_zero, List.getElem?_cons_succ, Option.getD_some, Nat.reduceSub, List.cons_append, List.nil_append, bin_neq, decide_false, not_true_eq_false, hw.ls.len, hv.ls.len, hle']
    refine LoopK.by 27 (fun i : Nat => i ≤ ws.length ∧ (lists ws).take i = (lists vs).take i) (fun i => [(0, v), (1, u), (5, I i)]) (fun _ => A) (fun i => ws.length - i) 0 ⟨by omega, rfl⟩ rfl (by simp [Has, rd_s]) rfl ?_
    rintro i ⟨hi, he⟩
    by_cases hlt : i < ws.length
    · obtain ⟨x, hz⟩ : ∃ z, ws[i]? = some z := ⟨_, List.getElem?_eq_getElem hlt⟩
      have hlt' : (i : Int) < ws.length := by omega
      have hlt2 : i < vs.length := by omega
      obtain ⟨y, hy⟩ : ∃ y, vs[i]? = some y := ⟨_, List.getElem?_eq_getElem hlt2⟩
      have hx1 := hw.inn x (List.mem_of_getElem? hz)
      have hx2 := hs.2 x (List.mem_of_getElem? hz)
      have hy1 := hv.inn y (List.mem_of_getElem? hy)
      simp (maxSteps := 4000000) -implicitDefEqProofs -dsimp (disch := omega) only [↓AW_skip, ↓AW_ops, ↓AW_seq, ↓AW_cond, ↓AW_block, ↓AOps_nil, ↓AOps_pu, ↓AOps_ld, ↓AOps_call, on_some, condB_t, ↓then_normal, pval, lval, rd_S, put_S, partA, eq_self, mk, List.foldl_cons, List.foldl_nil, List.replicate_succ, List.replicate_zero, List.set_cons_zero, List.set_cons_succ, List.getElem?_cons_zero, List.getElem?_cons_succ, List.drop_zero, List.take_succ_cons, List.take_nil, Option.getD_some, map_c, map_n, List.length_cons, List.length_nil, Nat.reduceLeDiff, Nat.zero_add, bin_lss, if_true, if_false, Bool.false_eq_true, decide_true, hlt', hw.ls.len, hw.ls.idx hlt, hw.ls.ld0 hz 1 false (by decide), hv.ls.idx hlt2, hv.ls.ld0 hy 1 false (by decide), e0]
      refine CallK.of (c_SameInts hx1 hy1 (by omega)) ?_
      by_cases hxy : x.2 = y.2
      · simp (maxSteps := 4000000) -implicitDefEqProofs -dsimp (disch := omega) only [↓AW_skip, ↓AW_ops, ↓AW_cond, ↓AOps_nil, ↓AOps_pu, on_some, extK_same, condB_f, ↓then_normal, ↓inBlock_normal, pval, rd_S, rd_C, put_S, eq_self, mk, List.foldl_cons, List.foldl_nil, List.replicate_succ, List.replicate_zero, List.set_cons_zero, List.set_cons_succ, List.getElem?_cons_zero, List.getElem?_cons_succ, Option.getD_some, List.length_cons, List.length_nil, Nat.reduceAdd, Nat.zero_add, bin_add, w64, Bool.not_true, decide_true, true_and, hxy]
        exact ⟨i + 1, ⟨hlt, (take_succ_eq (ws_get hz) (ws_get hy)).2 ⟨he, hxy⟩⟩, by simp [Has, rd_s], by omega⟩
      · simp (maxSteps := 4000000) -implicitDefEqProofs -dsimp (disch := omega) only [↓AW_ops, ↓AW_seq, ↓AW_cond, ↓AW_ret, ↓AOps_nil, ↓AOps_pu, on_some, extK_same, condB_t, ↓then_normal, ↓then_ret, ↓inBlock_ret, ↓Fin_ret, pval, rd_S, rd_C, put_S, resV, resL, mk, List.foldl_cons, List.foldl_nil, List.replicate_succ, List.replicate_zero, List.set_cons_zero, List.set_cons_succ, List.getElem?_cons_zero, List.getElem?_cons_succ, Option.getD_some, Bool.not_false, decide_false, hxy]
        refine gc_same ?_
        have : ¬ lists ws = lists vs := by
          intro h
          have h1 := ws_get hz
          rw [h, ws_get hy] at h1
          exact hxy (Option.some.inj h1).symm
        simp only [this, decide_false]
    · have hlt' : ¬ ((i : Int) < ws.length) := by omega
      simp (maxSteps := 4000000) -implicitDefEqProofs -dsimp (disch := omega) only [↓AW_ops, ↓AW_seq, ↓AW_cond, ↓AW_exit, ↓AW_ret, ↓AOps_nil, ↓AOps_pu, on_some, condB_f, ↓then_normal, ↓then_exit, ↓inBlock_exit, ↓Fin_ret, pval, rd_S, rd_C, put_S, resV, resL, eq_self, mk, List.foldl_cons, List.foldl_nil, List.replicate_succ, List.replicate_zero, List.set_cons_zero, List.set_cons_succ, List.getElem?_cons_zero, List.getElem?_cons_succ, Option.getD_some, bin_lss, if_true, decide_false, hlt', hw.ls.len]
      rw [List.take_of_length_le (by omega), List.take_of_length_le (by omega)] at he
      exact gc_same (by simp only [he, decide_true])
  · have hle' : ¬ (ws.length : Int) = vs.length := by omega
    dsimp only [m68]
    simp (maxSteps := 4000000) -implicitDefEqProofs -dsimp (disch := omega) only [↓AW_ops, ↓AW_seq, ↓AW_cond, ↓AW_ret, ↓AOps_nil, ↓AOps_pu, on_some, condB_t, ↓then_normal, ↓then_ret, ↓Fin_ret, pval, rd_S, rd_C, put_S, resV, resL, List.replicate_succ, List.replicate_zero, List.set_cons_zero, List.set_cons_succ, List.getElem?_cons_zero, List.getElem?_cons_succ, Option.getD_some, Nat.reduceSub, List.cons_append, List.nil_append, bin_neq, decide_true, not_false_eq_true, hw.ls.len, hv.ls.len, hle']
    have : ¬ lists ws = lists vs := by
      intro h
      have := congrArg List.length h
      omega
    exact gc_same (by simp only [this, decide_false])
theorem s31 {P Q : Int} {ws vs : List (AV × List Int)} {v u : AV} {A : AHeap} (hw : LL A v ws) (hv : LL A u vs) (hs : Sz ws) : ACalls Try.prog 31 [.agg [I P, v], .agg [I Q, u]] A (B (decide (P = Q ∧ lists ws = lists vs))) A := by
  refine acalls hmix Try.func31 (by kernel_rfl) t31 2 rfl (by decide) ?_
  by_cases h : P = Q
  · dsimp only [m31]
    simp (maxSteps := 4000000) -implicitDefEqProofs -dsimp (disch := omega) only [↓AW_ops, ↓AW_seq, ↓AOps_nil, ↓AOps_pu, ↓AOps_call, ↓AOps_guard, on_some, guardB_tt, ↓then_normal, pval, rd_S, rd_C, put_S, chkd, isAdr, bgot, AV.cells?, partA, eq_self, List.replicate_succ, List.replicate_zero, List.set_cons_zero, List.set_cons_succ, List.getElem?_cons_zero, List.getElem?_cons_succ, List.drop_zero, List.drop_succ_cons, List.take_zero, List.take_succ_cons, List.take_nil, Option.getD_some, map_c, map_n, List.length_cons, List.length_nil, Nat.reduceAdd, Nat.reduceSub, Nat.reduceLeDiff, Nat.zero_add, List.cons_append, List.nil_append, bin_eql, if_true, if_false, Bool.false_eq_true, decide_true, h]
    refine CallK.of (s68 hw hv hs) ?_
    simp (maxSteps := 4000000) -implicitDefEqProofs -dsimp (disch := omega) only [↓AW_ret, ↓AOps_nil, ↓AOps_pu, on_some, extK_same, ↓then_normal, ↓Fin_ret, pval, rd_S, rd_C, put_S, resV, resL, eq_self, List.replicate_succ, List.replicate_zero, List.set_cons_zero, List.set_cons_succ, List.getElem?_cons_zero, List.getElem?_cons_succ, Option.getD_some, Nat.reduceSub, List.cons_append, List.nil_append, if_true]
    exact gc_same (by simp only [h, true_and])
  · dsimp only [m31]
    simp (maxSteps := 4000000) -implicitDefEqProofs -dsimp (disch := omega) only [↓AW_ops, ↓AW_seq, ↓AW_ret, ↓AOps_nil, ↓AOps_pu, ↓AOps_guard, on_some, guardB_ft, skipS_some, ↓then_normal, ↓Fin_ret, pval, rd_S, rd_C, put_S, resV, resL, chkd, isAdr, bgot, AV.cells?, partA, eq_self, List.replicate_succ, List.replicate_zero, List.set_cons_zero, List.set_cons_succ, List.getElem?_cons_zero, List.getElem?_cons_succ, List.drop_zero, List.take_zero, List.take_succ_cons, Option.getD_some, List.length_cons, List.length_nil, Nat.reduceAdd, Nat.reduceSub, Nat.reduceLeDiff, Nat.zero_add, List.cons_append, List.nil_append, bin_eql, if_true, if_false, Bool.false_eq_true, decide_false, h]
    exact gc_same (by simp only [false_and, decide_false])
theorem L1_app_new {A : AHeap} {y : AV} {ys : List Int} (hy : L1 A y ys) (hl : ys.length ≤ lim) :
    ∃ v' n full H2, appA 1 (A ++ [.cells true []]) (.sl 1 A.length 0 0 true) y = some (v', H2) ∧ A <+: H2 ∧ A.length ≤ n ∧ v' = .sl 1 n 0 ys.length full ∧ H2[n]? = some (.cells true (ys.flatMap e1 ++ [])) := by
  have hc := (hy.mono (pre_app A [.cells true []])).hc
  by_cases h0 : ys.length = 0
  · have : ys = [] := List.eq_nil_of_length_eq_zero h0
    subst this
    refine ⟨.sl 1 A.length 0 0 true, A.length, true, A ++ [.cells true []], ?_, pre_app _ _, Nat.le_refl _, rfl, by simp⟩
    unfold appA
    rw [hc]
    simp
  · refine ⟨.sl 1 (A ++ [AObj.cells true []]).length 0 ys.length false, (A ++ [AObj.cells true []]).length, false, A ++ [AObj.cells true []] ++ [.cells true (ys.flatMap e1)], ?_, (pre_app A _).trans (pre_app _ _), by simp, rfl, by simp⟩
    unfold appA
    rw [hc]
    simp [h0, hl]
theorem LL.pos {A : AHeap} {v : AV} {ws : List (AV × List Int)} (h : LL A v ws) (h0 : 0 < ws.length) : 0 < A.length := by
  rcases h.ls.inv with ⟨_, rfl⟩ | ⟨n, off, full, rw, l, _, h1, _, _⟩
  · simp at h0
  · have := (List.getElem?_eq_some_iff.1 h1).1
    omega
set_option maxHeartbeats 1000000 in
theorem s67 {ws : List (AV × List Int)} {v : AV} {A : AHeap} (hw : LL A v ws) (hs : Sz ws) :
    ∃ r H', ACalls Try.prog 67 [v] A r H' ∧ ∃ ws', NL A H' r ws' ∧ lists ws' = lists ws := by
  refine acallsR hmix Try.func67 (by kernel_rfl) t67 _ 1 rfl (by decide) ?_
  have hs1 := hs.1
  dsimp only [m67]
  simp (maxSteps := 4000000) -implicitDefEqProofs -dsimp (disch := omega) only [↓AW_ops, ↓AW_seq, ↓AW_block, ↓AOps_nil, ↓AOps_pu, on_some, ↓then_normal, pval, rd_C, put_S, ↓AW_toLoop, List.replicate_succ, List.replicate_zero, List.set_cons_zero, List.set_cons_succ, Nat.reduceSub, List.cons_append, List.nil_append]
  refine LoopK.by 21 (fun x : Nat × AV × AHeap × List (AV × List Int) => (x.1 ≤ ws.length ∧ x.2.2.2.length = x.1) ∧ NL A x.2.2.1 x.2.1 x.2.2.2 ∧ lists x.2.2.2 = (lists ws).take x.1)
    (fun x => [(0, v), (3, x.2.1), (4, I x.1)]) (fun x => x.2.2.1) (fun x => ws.length - x.1) (0, .nilS, A, []) ⟨⟨by simp only; omega, rfl⟩, NL.nil (List.prefix_refl _), by simp⟩ rfl (by simp [Has, rd_s]) rfl ?_
  rintro ⟨i, u, H1, ws1⟩ ⟨⟨hi, hwl⟩, hnl, hli⟩
  simp only at hi hwl hnl hli
  have hw1 := hw.mono hnl.acc.1
  have hll : (lists ws).length = ws.length := by simp
  by_cases hlt : i < ws.length
  · obtain ⟨x, hz⟩ : ∃ z, ws[i]? = some z := ⟨_, List.getElem?_eq_getElem hlt⟩
    have hlt' : (i : Int) < ws.length := by omega
    have hm := List.mem_of_getElem? hz
    have hx := hw1.inn x hm
    have hx2 := hs.2 x hm
    have hA0 := hw.pos (by omega)
    have hwm := hw1.mono (pre_app H1 [AObj.cells true []])
    obtain ⟨v2, n, full, H2, happ2, hp2, hn, rfl, hg2⟩ := L1_app_new hx (by simp [lim]; omega)
    obtain ⟨v3, H3, happ, h3⟩ := (hnl.mono hp2).push (.sl 1 n 0 x.2.length full, x.2) (.inr ⟨n, full, [], rfl, Nat.le_trans hnl.acc.1.length_le hn, hg2, nm_ne_nil hnl hn hA0, fun y hy => (hnl.lt.1 y hy).imp id (fun h => by omega)⟩) (by simp [lim]; omega)
    simp only at happ
    simp (maxSteps := 4000000) -implicitDefEqProofs -dsimp (disch := omega) only [↓AW_skip, ↓AW_ops, ↓AW_seq, ↓AW_cond, ↓AW_block, ↓AOps_nil, ↓AOps_pu, ↓AOps_ld, ↓AOps_ha, on_some, extK_false, extK_app, condB_t, ↓then_normal, ↓inBlock_normal, pval, lval, hval_blds, hval_app, rd_S, rd_C, put_S, cells_sl, splice, partA, fillA, repl, eq_self, mk, List.foldl_cons, List.foldl_nil, List.replicate_succ, List.replicate_zero, List.set_cons_zero, List.set_cons_succ, List.getElem?_cons_zero, List.getElem?_cons_succ, List.drop_zero, List.drop_succ_cons, List.drop_nil, List.take_zero, List.take_succ_cons, List.take_nil, Option.getD_some, map_c, map_n, List.length_cons, List.length_nil, Nat.reduceAdd, Nat.reduceLeDiff, Nat.zero_add, List.nil_append, List.append_nil, bin_add, bin_lss, w64, if_true, if_false, Bool.false_eq_true, decide_true, true_and, and_true, hlt', hw1.ls.len, hwm.ls.idx hlt, hwm.ls.ld0 hz 1 false (by decide), e0, happ2, happ]
    refine ⟨(i + 1, v3, H3, ws1 ++ [(.sl 1 n 0 x.2.length full, x.2)]), ⟨⟨hlt, by simp [hwl]⟩, h3, ?_⟩, by simp [Has, rd_s], rfl, by simp only; omega⟩
    simp only [lists, List.map_append, List.map_cons, List.map_nil]
    rw [List.take_add_one, show List.map Prod.snd ws1 = (lists ws).take i from hli, ws_get hz]
    rfl
  · have hlt' : ¬ ((i : Int) < ws.length) := by omega
    rw [List.take_of_length_le (by omega)] at hli
    simp (maxSteps := 4000000) -implicitDefEqProofs -dsimp (disch := omega) only [↓AW_ops, ↓AW_seq, ↓AW_cond, ↓AW_exit, ↓AW_ret, ↓AOps_nil, ↓AOps_pu, on_some, condB_f, ↓then_normal, ↓then_exit, ↓inBlock_exit, ↓FinR_ret, pval, rd_S, put_S, resV, resL, eq_self, mk, List.foldl_cons, List.foldl_nil, List.replicate_succ, List.replicate_zero, List.set_cons_zero, List.set_cons_succ, List.getElem?_cons_zero, List.getElem?_cons_succ, Option.getD_some, bin_lss, if_true, decide_false, hlt', hw1.ls.len]
    exact ⟨_, _, gc_all, ws1, hnl, hli⟩
theorem s28 {P : Int} {ws : List (AV × List Int)} {v : AV} {A : AHeap} (hw : LL A v ws) (hs : Sz ws) :
    ∃ r H', ACalls Try.prog 28 [.agg [I P, v]] A r H' ∧ ∃ v' ws', r = .agg [I P, v'] ∧ NL A H' v' ws' ∧ lists ws' = lists ws := by
  refine acallsR hmix Try.func28 (by kernel_rfl) t28 _ 1 rfl (by decide) ?_
  obtain ⟨r, H', hc, ws', hn, hl⟩ := s67 hw hs
  have hcr := Ls_cells (AccL_ls hn.acc e0_len)
  dsimp only [m28]
  simp (maxSteps := 4000000) -implicitDefEqProofs -dsimp (disch := omega) only [↓AW_ops, ↓AW_seq, ↓AOps_nil, ↓AOps_pu, ↓AOps_call, on_some, ↓then_normal, pval, rd_S, rd_C, put_S, chkd, isAdr, bgot, cells_agg, partA, eq_self, List.replicate_succ, List.replicate_zero, List.set_cons_zero, List.set_cons_succ, List.getElem?_cons_zero, List.getElem?_cons_succ, List.drop_zero, List.drop_succ_cons, List.take_zero, List.take_succ_cons, List.take_nil, Option.getD_some, map_c, map_n, List.length_cons, List.length_nil, Nat.reduceAdd, Nat.reduceSub, Nat.reduceLeDiff, Nat.zero_add, List.cons_append, List.nil_append, if_true, if_false, Bool.false_eq_true]
  refine CallK.of (hc) ?_
  simp (maxSteps := 4000000) -implicitDefEqProofs -dsimp (disch := omega) only [↓AW_ret, ↓AOps_nil, ↓AOps_pu, on_some, extK_false, ↓then_normal, ↓FinR_ret, pval, rd_S, put_S, resV, resL, chkd, bput, bgot, cells_agg, cells_int, splice, partA, fillA, eq_self, List.replicate_succ, List.replicate_zero, List.set_cons_zero, List.set_cons_succ, List.getElem?_cons_zero, List.getElem?_cons_succ, List.drop_zero, List.drop_succ_cons, List.drop_nil, List.take_zero, List.take_succ_cons, List.take_nil, Option.getD_some, Option.map_some, map_c, map_n, List.length_cons, List.length_nil, Nat.reduceAdd, Nat.reduceSub, Nat.reduceLeDiff, Nat.reduceEqDiff, Nat.zero_add, List.cons_append, List.nil_append, List.append_nil, if_true, if_false, and_true, ne_eq, not_true_eq_false, hcr]
  exact ⟨_, _, gc_all, r, ws', rfl, hn, hl⟩
end Go.Proofs.Ytlmbobbefgcolaa

namespace Go.Proofs.Ytlmbobbefgcolaa
open Go Go.Eng
/-- A place's number when a place is gone. -/
def dn (p q : Int) : Int := if p < q then q - 1 else q
def shl (l : List Int) (p : Int) : List Int := (without l p).map (dn p)
theorem NR_of {H1 H2 : AHeap} {v : AV} {xs : List Int} (h : AccL 1 e1 H1 H2 v xs) : (v = .nilS ∧ xs = [] ∧ True) ∨ ∃ n, v = .sl 1 n 0 xs.length false ∧ H1.length ≤ n ∧ H2[n]? = some (.cells true (xs.flatMap e1 ++ [])) := by
  rcases h.2.2 with ⟨h3, h4⟩ | ⟨h3, n, h4, h5, h6⟩
  · exact .inl ⟨h4, List.eq_nil_of_length_eq_zero h3, trivial⟩
  · exact .inr ⟨n, h4, h5, by rw [List.append_nil]; exact h6⟩
end Go.Proofs.Ytlmbobbefgcolaa

namespace Go.Proofs.Ytlmbobbefgcolaa
open Go Go.Eng
theorem take_mem' {l : List Int} {i : Nat} {z y : Int} (hz : l[i]? = some z) : y ∈ l.take (i + 1) ↔ y ∈ l.take i ∨ y = z := by
  rw [List.take_add_one, hz, List.mem_append]
  simp
end Go.Proofs.Ytlmbobbefgcolaa

namespace Go.Proofs.Ytlmbobbefgcolaa
open Go Go.Eng
def up (p q : Int) : Int := if p ≤ q then q + 1 else q
end Go.Proofs.Ytlmbobbefgcolaa

namespace Go.Proofs.Ytlmbobbefgcolaa
open Go Go.Eng
theorem splice_more {a c cs : List AV} {off : Nat} (h : off + c.length ≤ a.length) : splice (a ++ cs) off c = splice a off c ++ cs := by
  unfold splice
  rw [List.take_append_of_le_length (by omega), List.drop_append_of_le_length h]
  simp only [List.append_assoc]
theorem flat0 (ws : List (AV × List Int)) : ws.flatMap e0 = ws.map Prod.fst := by
  induction ws with
  | nil => rfl
  | cons x r ih => rw [List.flatMap_cons, ih]; rfl
theorem fst_set {ws : List (AV × List Int)} {i : Nat} {x : AV × List Int} (hz : ws[i]? = some x) (l : List Int) : (ws.set i (x.1, l)).map Prod.fst = ws.map Prod.fst := by
  apply List.ext_getElem?
  intro j
  rw [List.getElem?_map, List.getElem?_map, List.getElem?_set]
  by_cases hij : i = j
  · subst hij
    have := (List.getElem?_eq_some_iff.1 hz).1
    rw [if_pos rfl, if_pos this, hz]; rfl
  · rw [if_neg hij]
theorem Apart_fst {ws vs : List (AV × List Int)} (h : ws.map Prod.fst = vs.map Prod.fst) (ha : Apart vs) : Apart ws := by
  unfold Apart at *
  have h1 := (List.pairwise_map (f := Prod.fst) (R := fun a b : AV => a = .nilS ∨ b = .nilS ∨ nm a ≠ nm b) (l := vs)).2 ha
  rw [← h] at h1
  exact List.pairwise_map.1 h1
theorem Apart_ne {ws : List (AV × List Int)} (h : Apart ws) {i j : Nat} {x y : AV × List Int} (hi : ws[i]? = some x) (hj : ws[j]? = some y) (hij : i ≠ j) : x.1 = .nilS ∨ y.1 = .nilS ∨ nm x.1 ≠ nm y.1 := by
  obtain ⟨h1, rfl⟩ := List.getElem?_eq_some_iff.1 hi
  obtain ⟨h2, rfl⟩ := List.getElem?_eq_some_iff.1 hj
  rcases Nat.lt_or_gt_of_ne hij with h3 | h3
  · exact List.pairwise_iff_getElem.1 h i j h1 h2 h3
  · rcases List.pairwise_iff_getElem.1 h j i h2 h1 h3 with h4 | h4 | h4
    · exact .inr (.inl h4)
    · exact .inl h4
    · exact .inr (.inr (Ne.symm h4))
/-- A number of a row is written. -/
theorem NL.st {A H : AHeap} {u : AV} {ws : List (AV × List Int)} (h : NL A H u ws) {i : Nat} {x : AV × List Int} (hz : ws[i]? = some x) {k : Nat} (hk : k < x.2.length) (q : Int) :
    ∃ H2, stA 1 (.ptr (nm x.1) (of x.1 + k * 1)) (I q) H = some H2 ∧ NL A H2 u (ws.set i (x.1, x.2.set k q)) := by
  rcases (h.rows x (List.mem_of_getElem? hz)).row with ⟨_, h2⟩ | ⟨n, full, cs, g1, g2, g3, g4⟩
  · rw [h2] at hk; simp at hk
  · have hil := (List.getElem?_eq_some_iff.1 hz).1
    have hnl := (List.getElem?_eq_some_iff.1 g3).1
    have hfl := flatMap_length e1_len x.2
    have hsp : splice (x.2.flatMap e1 ++ cs) (k * 1) (e1 q) = (x.2.set k q).flatMap e1 ++ cs := by
      rw [splice_more (by rw [e1_len, hfl]; omega), splice_flat e1_len hk q]
    refine ⟨H.set n (.cells true ((x.2.set k q).flatMap e1 ++ cs)), ?_, ?_, ?_, ?_⟩
    · rw [g1]
      have hq : (I q).cells? = some (e1 q) := rfl
      simp only [stA, nm, of, hq, g3, Nat.zero_add]
      rw [if_pos ⟨e1_len q, by rw [List.length_append, hfl]; omega⟩, hsp]
    · have hlen : (ws.set i (x.1, x.2.set k q)).length = ws.length := List.length_set ..
      have hfm : (ws.set i (x.1, x.2.set k q)).flatMap e0 = ws.flatMap e0 := by rw [flat0, flat0, fst_set hz]
      unfold AccL
      rw [hlen, hfm]
      obtain ⟨a1, a2, a3⟩ := h.acc
      refine ⟨pre_set a1 g2 _, a2, ?_⟩
      rcases a3 with a4 | ⟨b0, m, b4, b5, b6⟩
      · exact .inl a4
      · refine .inr ⟨b0, m, b4, b5, ?_⟩
        rw [b4] at g4
        have g5 : m ≠ n := g4
        rw [List.getElem?_set_ne (Ne.symm g5)]
        exact b6
    · intro y hy
      obtain ⟨j, hj⟩ := List.mem_iff_getElem?.1 hy
      rw [List.getElem?_set] at hj
      by_cases hij : i = j
      · rw [if_pos hij, if_pos (by omega)] at hj
        have : (x.1, x.2.set k q) = y := Option.some.inj hj
        subst this
        refine ⟨.inr ⟨n, full, cs, ?_, g2, by rw [List.getElem?_set_self hnl], g4⟩⟩
        simp only [List.length_set]
        exact g1
      · rw [if_neg hij] at hj
        refine ⟨?_⟩
        rcases (h.rows y (List.mem_of_getElem? hj)).row with c1 | ⟨n', full', cs', c1, c2, c3, c4⟩
        · exact .inl c1
        · refine .inr ⟨n', full', cs', c1, c2, ?_, c4⟩
          rcases Apart_ne h.apart hz hj hij with d | d | d
          · rw [g1] at d; cases d
          · rw [c1] at d; cases d
          · rw [g1, c1] at d
            have d2 : n ≠ n' := d
            rw [List.getElem?_set_ne d2]
            exact c3
    · exact Apart_fst (fst_set hz _) h.apart
/-- The first elements of a list changed. -/
def low {α : Type} (f : α → α) (l : List α) (k : Nat) : List α := (l.take k).map f ++ l.drop k
section
variable {α : Type} {f : α → α} {l : List α} {k : Nat} {z : α}
end
end Go.Proofs.Ytlmbobbefgcolaa

namespace Go.Proofs.Ytlmbobbefgcolaa
open Go Go.Eng
theorem vW_of {P : Int} {ls : List (List Int)} (h : Val P ls) : vW P ls = 0 := by
  have hn : ¬ 7 < ls.length := by have := h.n; omega
  rw [vW_l h.hP hn]
  have h3 := h.l
  clear hn h
  induction ls with
  | nil => rfl
  | cons l r ih =>
    have h4 := h3 l (List.mem_cons_self ..)
    rw [lsE]
    have : lE P l = 0 := by unfold lE; rw [if_pos h4.1, if_pos h4.2]
    rw [if_pos this]
    exact ih (fun l' hl' => h3 l' (List.mem_cons_of_mem _ hl'))
theorem Sz_lists {ws vs : List (AV × List Int)} (h : lists vs = lists ws) (hs : Sz ws) : Sz vs := by
  have h1 := congrArg List.length h
  simp only [List.length_map] at h1
  refine ⟨by have := hs.1; omega, fun x hx => ?_⟩
  have h2 : x.2 ∈ lists ws := by rw [← h]; exact List.mem_map.2 ⟨x, hx, rfl⟩
  obtain ⟨y, hy, e⟩ := List.mem_map.1 h2
  have := hs.2 y hy
  rw [← e]; exact this
end Go.Proofs.Ytlmbobbefgcolaa

namespace Go.Proofs.Ytlmbobbefgcolaa
open Go Go.Eng
/-- The owners below a number that wish a place. -/
def troN (ls : List (List Int)) (p : Int) (n : Nat) : List Int := (nums n).filter (fun i => decide (p ∈ lst ls i))
def tro (ls : List (List Int)) (p : Int) : List Int := troN ls p ls.length
/-- Owners and places exchanged. -/
def trn (P : Int) (ls : List (List Int)) : List (List Int) := (nums P.toNat).map (tro ls)
def tuE (P : Int) (ls : List (List Int)) : Int := if vW P ls = 0 then (if ls.length = 0 then 1 else 0) else vW P ls
def tuP (P : Int) (ls : List (List Int)) : Int := if tuE P ls = 0 then ls.length else 0
def tuL (P : Int) (ls : List (List Int)) : List (List Int) := if tuE P ls = 0 then trn P ls else []
theorem troN_succ (ls : List (List Int)) (p : Int) (n : Nat) : troN ls p (n + 1) = troN ls p n ++ if p ∈ lst ls n then [(n : Int)] else [] := by
  unfold troN
  rw [nums_succ, List.filter_append]
  by_cases h : p ∈ lst ls n <;> simp [h]
theorem troN_le (ls : List (List Int)) (p : Int) (n : Nat) : (troN ls p n).length ≤ n := by
  have := List.length_filter_le (fun i => decide (p ∈ lst ls i)) (nums n)
  simp only [nums, List.length_map, List.length_range] at this
  exact this
theorem trn_succ (ls : List (List Int)) (k : Nat) : (nums (k + 1)).map (tro ls) = (nums k).map (tro ls) ++ [tro ls k] := by
  rw [nums_succ, List.map_append]; rfl
set_option maxRecDepth 100000 in
set_option maxHeartbeats 4000000 in
theorem s30 {P : Int} {ws : List (AV × List Int)} {v : AV} {A : AHeap} (hw : LL A v ws) (hs : Sz ws) :
    ∃ r H', ACalls Try.prog 30 [.agg [I P, v]] A r H' ∧ ∃ v' ws', r = .tuple [.agg [I (tuP P (lists ws)), v'], I (tuE P (lists ws))] ∧ NL A H' v' ws' ∧ lists ws' = tuL P (lists ws) := by
  refine acallsR hmix Try.func30 (by kernel_rfl) t30 _ 1 rfl (by decide) ?_
  have hs1 := hs.1
  have hll : (lists ws).length = ws.length := by simp
  dsimp only [m30]
  simp (maxSteps := 4000000) -implicitDefEqProofs -dsimp (disch := omega) only [↓AW_ops, ↓AW_seq, ↓AOps_nil, ↓AOps_pu, ↓AOps_call, on_some, ↓then_normal, pval, rd_S, rd_C, put_S, chkd, bgot, cells_agg, partA, eq_self, List.replicate_succ, List.replicate_zero, List.set_cons_zero, List.set_cons_succ, List.getElem?_cons_zero, List.getElem?_cons_succ, List.drop_zero, List.take_succ_cons, List.take_nil, Option.getD_some, map_c, map_n, List.length_cons, List.length_nil, Nat.reduceAdd, Nat.reduceSub, Nat.reduceLeDiff, Nat.reduceEqDiff, Nat.zero_add, List.cons_append, List.nil_append, if_true, if_false]
  refine CallK.of (s40 hw hs) ?_
  by_cases h0 : vW P (lists ws) = 0
  · have hv := val_of h0
    have hP := hv.hP
    by_cases hz0 : ws.length = 0
    · have hE : tuE P (lists ws) = 1 := by unfold tuE; rw [if_pos h0, if_pos (by omega)]
      have hz1 : (ws.length : Int) = 0 := by omega
      simp (maxSteps := 4000000) -implicitDefEqProofs -dsimp (disch := omega) only [↓AW_skip, ↓AW_ops, ↓AW_seq, ↓AW_cond, ↓AW_ret, ↓AOps_nil, ↓AOps_pu, on_some, extK_same, condB_t, condB_f, ↓then_normal, ↓then_ret, ↓FinR_ret, pval, rd_S, rd_C, put_S, resV, resL, chkd, isAdr, bput, bgot, cells_agg, splice, partA, fillA, eq_self, List.replicate_succ, List.replicate_zero, List.set_cons_zero, List.set_cons_succ, List.getElem?_cons_zero, List.getElem?_cons_succ, List.drop_zero, List.drop_succ_cons, List.drop_nil, List.take_zero, List.take_succ_cons, List.take_nil, Option.getD_some, Option.map_some, map_n, List.length_cons, List.length_nil, Nat.reduceAdd, Nat.reduceSub, Nat.reduceLeDiff, Nat.reduceEqDiff, Nat.zero_add, List.cons_append, List.nil_append, List.append_nil, bin_eql, bin_neq, if_true, if_false, Bool.false_eq_true, decide_true, decide_false, ne_eq, not_true_eq_false, h0, hw.ls.len, hz1]
      refine ⟨_, _, gc_all, .nilS, [], ?_, NL.nil (List.prefix_refl _), ?_⟩
      · unfold tuP; rw [hE]; rfl
      · unfold tuL; rw [hE]; rfl
    · have hE : tuE P (lists ws) = 0 := by unfold tuE; rw [if_pos h0, if_neg (by omega)]
      have hz1 : ¬ (ws.length : Int) = 0 := by omega
      have hA0 := hw.pos (by omega)
      obtain ⟨N, hN⟩ : ∃ N : Nat, P = N := ⟨P.toNat, by omega⟩
      simp (maxSteps := 4000000) -implicitDefEqProofs -dsimp (disch := omega) only [↓AW_skip, ↓AW_ops, ↓AW_seq, ↓AW_cond, ↓AW_block, ↓AOps_nil, ↓AOps_pu, on_some, extK_same, condB_f, ↓then_normal, pval, rd_S, rd_C, put_S, ↓AW_toLoop, chkd, isAdr, bput, bgot, cells_agg, cells_int, splice, partA, fillA, eq_self, List.replicate_succ, List.replicate_zero, List.set_cons_zero, List.set_cons_succ, List.getElem?_cons_zero, List.getElem?_cons_succ, List.drop_zero, List.drop_succ_cons, List.drop_nil, List.take_zero, List.take_succ_cons, List.take_nil, Option.getD_some, Option.map_some, map_c, map_n, List.length_cons, List.length_nil, Nat.reduceAdd, Nat.reduceSub, Nat.reduceLeDiff, Nat.zero_add, List.cons_append, List.nil_append, List.append_nil, bin_eql, bin_neq, if_true, if_false, Bool.false_eq_true, decide_false, and_true, ne_eq, not_true_eq_false, h0, hw.ls.len, hz1]
      refine LoopK.by 55 (fun x : Nat × AV × AHeap × List (AV × List Int) => (x.1 ≤ N ∧ x.2.2.2.length = x.1) ∧ NL A x.2.2.1 x.2.1 x.2.2.2 ∧ lists x.2.2.2 = (nums x.1).map (tro (lists ws)))
        (fun x => [(1, .agg [I P, v]), (2, .agg [I 0, .nilS]), (5, .agg [I ws.length, x.2.1]), (6, I x.1)]) (fun x => x.2.2.1) (fun x => N - x.1) (0, .nilS, A, []) ⟨⟨by simp only; omega, rfl⟩, NL.nil (List.prefix_refl _), rfl⟩ rfl (by simp [Has, rd_s]) rfl ?_
      rintro ⟨k, u, H1, ws1⟩ ⟨⟨hk, hwl⟩, hnl, hli⟩
      simp only at hk hwl hnl hli
      have hw1 := hw.mono hnl.acc.1
      by_cases hlt : k < N
      · have hlt' : (k : Int) < P := by omega
        simp (maxSteps := 4000000) -implicitDefEqProofs -dsimp (disch := omega) only [↓AW_skip, ↓AW_ops, ↓AW_seq, ↓AW_cond, ↓AW_block, ↓AOps_nil, ↓AOps_pu, on_some, condB_t, ↓then_normal, pval, rd_S, rd_C, put_S, ↓AW_toLoop, chkd, isAdr, bgot, cells_agg, partA, eq_self, mk, List.foldl_cons, List.foldl_nil, List.replicate_succ, List.replicate_zero, List.set_cons_zero, List.set_cons_succ, List.getElem?_cons_zero, List.getElem?_cons_succ, List.drop_zero, List.take_zero, List.take_succ_cons, Option.getD_some, List.length_cons, List.length_nil, Nat.reduceAdd, Nat.reduceLeDiff, Nat.zero_add, bin_lss, if_true, if_false, Bool.false_eq_true, decide_true, hlt']
        refine LoopK.by 55 (fun y : Nat × AV × AHeap => y.1 ≤ ws.length ∧ AccL 1 e1 H1 y.2.2 y.2.1 (troN (lists ws) k y.1))
          (fun y => [(1, .agg [I P, v]), (2, .agg [I 0, .nilS]), (5, .agg [I ws.length, u]), (6, I k), (7, y.2.1), (8, I y.1)]) (fun y => y.2.2) (fun y => ws.length - y.1) (0, .nilS, H1) ⟨by simp only; omega, AccL.nil (List.prefix_refl _)⟩ rfl (by simp [Has, rd_s]) rfl ?_
        rintro ⟨i, o, H2⟩ ⟨hi, ho⟩
        simp only at hi ho
        have hw2 := hw1.mono ho.pre
        have hlen := troN_le (lists ws) k i
        by_cases hlti : i < ws.length
        · have hlti' : (i : Int) < ws.length := by omega
          obtain ⟨x, hz⟩ : ∃ x, ws[i]? = some x := ⟨_, List.getElem?_eq_getElem hlti⟩
          have hm := List.mem_of_getElem? hz
          have hx := hw2.inn x hm
          have hx2 := hs.2 x hm
          have hst := troN_succ (lists ws) k i
          rw [lst_at hz] at hst
          simp (maxSteps := 4000000) -implicitDefEqProofs -dsimp (disch := omega) only [↓AW_skip, ↓AW_ops, ↓AW_seq, ↓AW_cond, ↓AW_block, ↓AOps_nil, ↓AOps_pu, ↓AOps_ld, ↓AOps_call, on_some, condB_t, ↓then_normal, pval, lval, rd_S, put_S, chkd, isAdr, bgot, cells_agg, partA, eq_self, mk, List.foldl_cons, List.foldl_nil, List.replicate_succ, List.replicate_zero, List.set_cons_zero, List.set_cons_succ, List.getElem?_cons_zero, List.getElem?_cons_succ, List.drop_zero, List.drop_succ_cons, List.take_succ_cons, List.take_nil, Option.getD_some, map_c, map_n, List.length_cons, List.length_nil, Nat.reduceAdd, Nat.reduceLeDiff, Nat.zero_add, bin_lss, if_true, if_false, Bool.false_eq_true, decide_true, hlti', hw2.ls.len, hw2.ls.idx hlti, hw2.ls.ld0 hz 1 false (by decide), e0]
          refine CallK.of (s65 hx (by omega) k) ?_
          by_cases hin : (k : Int) ∈ x.2
          · rw [if_pos hin] at hst
            obtain ⟨v3, H3, happ, h3⟩ := ho.push e1_len (i : Int) (by simp [lim]; omega)
            simp only [Go.Eng.e1] at happ
            rw [decide_eq_true hin]
            simp (maxSteps := 4000000) -implicitDefEqProofs -dsimp (disch := omega) only [↓AW_ops, ↓AW_cond, ↓AOps_nil, ↓AOps_pu, ↓AOps_ha, on_some, extK_false, extK_app, extK_same, condB_t, ↓then_normal, ↓inBlock_normal, pval, hval_blds, hval_app, rd_S, rd_C, put_S, cells_int, splice, fillA, repl, eq_self, mk, List.foldl_cons, List.foldl_nil, List.replicate_succ, List.replicate_zero, List.set_cons_zero, List.set_cons_succ, List.getElem?_cons_zero, List.getElem?_cons_succ, List.drop_succ_cons, List.drop_nil, List.take_zero, Option.getD_some, map_c, map_n, List.length_cons, List.length_nil, Nat.reduceAdd, Nat.reduceLeDiff, Nat.zero_add, List.nil_append, List.append_nil, bin_add, w64, if_true, true_and, and_true, happ]
            exact ⟨(i + 1, v3, H3), ⟨hlti, by rw [hst]; exact h3⟩, by simp [Has, rd_s], rfl, by simp only; omega⟩
          · rw [if_neg hin, List.append_nil] at hst
            rw [decide_eq_false hin]
            simp (maxSteps := 4000000) -implicitDefEqProofs -dsimp (disch := omega) only [↓AW_skip, ↓AW_ops, ↓AW_cond, ↓AOps_nil, ↓AOps_pu, on_some, extK_same, condB_f, ↓then_normal, ↓inBlock_normal, pval, rd_S, rd_C, put_S, eq_self, mk, List.foldl_cons, List.foldl_nil, List.replicate_succ, List.replicate_zero, List.set_cons_zero, List.set_cons_succ, List.getElem?_cons_zero, List.getElem?_cons_succ, Option.getD_some, List.length_cons, List.length_nil, Nat.reduceAdd, Nat.zero_add, bin_add, w64, true_and]
            exact ⟨(i + 1, o, H2), ⟨hlti, by rw [hst]; exact ho⟩, by simp [Has, rd_s], rfl, by simp only; omega⟩
        · have hlti' : ¬ ((i : Int) < ws.length) := by omega
          have hie : troN (lists ws) k i = tro (lists ws) k := by unfold tro; rw [hll, show i = ws.length by omega]
          rw [hie] at ho
          obtain ⟨v3, H3, happ, h3⟩ := (hnl.mono ho.pre).push (o, tro (lists ws) k) ((NR_of ho).imp id (fun ⟨n, h1, h2, h3⟩ => ⟨n, false, [], h1, Nat.le_trans hnl.acc.1.length_le h2, h3, nm_ne_nil hnl h2 hA0, fun y hy => (hnl.lt.1 y hy).imp id (fun h => by omega)⟩)) (by simp [lim]; omega)
          simp only at happ
          have hco := Ls_cells (AccL_ls ho e1_len)
          have hc3 := Ls_cells (AccL_ls h3.acc e0_len)
          simp (maxSteps := 4000000) -implicitDefEqProofs -dsimp (disch := omega) only [↓AW_ops, ↓AW_seq, ↓AW_cond, ↓AW_exit, ↓AW_ret, ↓AOps_nil, ↓AOps_pu, ↓AOps_ha, on_some, extK_false, extK_app, condB_f, ↓then_normal, ↓then_exit, ↓inBlock_normal, ↓inBlock_exit, ↓FinR_ret, pval, hval_blds, hval_app, rd_S, rd_C, put_S, resV, resL, chkd, isAdr, bput, bgot, cells_agg, splice, partA, fillA, repl, eq_self, mk, List.foldl_cons, List.foldl_nil, List.replicate_succ, List.replicate_zero, List.set_cons_zero, List.set_cons_succ, List.getElem?_cons_zero, List.getElem?_cons_succ, List.drop_zero, List.drop_succ_cons, List.drop_nil, List.take_zero, List.take_succ_cons, List.take_nil, Option.getD_some, map_c, map_n, List.length_cons, List.length_nil, Nat.reduceAdd, Nat.reduceLeDiff, Nat.reduceEqDiff, Nat.zero_add, List.cons_append, List.nil_append, List.append_nil, bin_add, bin_lss, w64, if_true, if_false, Bool.false_eq_true, decide_false, true_and, and_true, reduceCtorEq, ne_eq, not_true_eq_false, hw2.ls.len, hlti', happ, hco, hc3]
          refine ⟨(k + 1, v3, H3, ws1 ++ [(o, tro (lists ws) k)]), ⟨⟨hlt, by simp [hwl]⟩, h3, ?_⟩, by simp [Has, rd_s], rfl, by simp only; omega⟩
          simp only [lists, List.map_append, List.map_cons, List.map_nil]
          rw [trn_succ, show List.map Prod.snd ws1 = (nums k).map (tro (lists ws)) from hli]
      · have hlt' : ¬ ((k : Int) < P) := by omega
        simp (maxSteps := 4000000) -implicitDefEqProofs -dsimp (disch := omega) only [↓AW_ops, ↓AW_seq, ↓AW_cond, ↓AW_exit, ↓AW_ret, ↓AOps_nil, ↓AOps_pu, on_some, condB_f, ↓then_normal, ↓then_exit, ↓inBlock_exit, ↓FinR_ret, pval, rd_S, rd_C, put_S, resV, resL, chkd, isAdr, bput, bgot, cells_agg, splice, partA, eq_self, mk, List.foldl_cons, List.foldl_nil, List.replicate_succ, List.replicate_zero, List.set_cons_zero, List.set_cons_succ, List.getElem?_cons_zero, List.getElem?_cons_succ, List.drop_zero, List.drop_succ_cons, List.drop_nil, List.take_zero, List.take_succ_cons, List.take_nil, Option.getD_some, List.length_cons, List.length_nil, Nat.reduceAdd, Nat.reduceLeDiff, Nat.reduceEqDiff, Nat.zero_add, List.nil_append, List.append_nil, bin_lss, if_true, if_false, Bool.false_eq_true, decide_false, ne_eq, not_true_eq_false, hlt']
        refine ⟨_, _, gc_all, u, ws1, ?_, hnl, ?_⟩
        · unfold tuP; rw [hE, if_pos rfl, hll]
        · unfold tuL trn; rw [hE, if_pos rfl, hN, Int.toNat_natCast, show N = k by omega]; exact hli
  · have hE : tuE P (lists ws) = vW P (lists ws) := by unfold tuE; rw [if_neg h0]
    simp (maxSteps := 4000000) -implicitDefEqProofs -dsimp (disch := omega) only [↓AW_ops, ↓AW_seq, ↓AW_cond, ↓AW_ret, ↓AOps_nil, ↓AOps_pu, on_some, extK_same, condB_t, ↓then_normal, ↓then_ret, ↓FinR_ret, pval, rd_S, rd_C, put_S, resV, resL, chkd, bput, bgot, cells_agg, splice, partA, fillA, eq_self, List.replicate_succ, List.replicate_zero, List.set_cons_zero, List.set_cons_succ, List.getElem?_cons_zero, List.getElem?_cons_succ, List.drop_zero, List.drop_succ_cons, List.drop_nil, List.take_zero, List.take_succ_cons, List.take_nil, Option.getD_some, Option.map_some, map_n, List.length_cons, List.length_nil, Nat.reduceAdd, Nat.reduceSub, Nat.reduceLeDiff, Nat.reduceEqDiff, Nat.zero_add, List.cons_append, List.nil_append, List.append_nil, bin_neq, if_true, if_false, decide_true, ne_eq, not_true_eq_false, not_false_eq_true, h0]
    refine ⟨_, _, gc_all, .nilS, [], ?_, NL.nil (List.prefix_refl _), ?_⟩
    · unfold tuP; rw [hE, if_neg h0]
    · unfold tuL; rw [hE, if_neg h0]; rfl
end Go.Proofs.Ytlmbobbefgcolaa

namespace Go.Proofs.Ytlmbobbefgcolaa
open Go Go.Eng
/-- Who is given a place. -/
def fi (g : List Int) (p : Int) : Int := match (List.range g.length).find? (fun i => decide (has g i = p)) with
  | some i => (i : Int)
  | none => -1
theorem fi_pos {g : List Int} {p : Int} (h : 0 ≤ fi g p) : ∃ i : Nat, fi g p = i ∧ i < g.length ∧ has g i = p := by
  unfold fi at *
  split at h
  · rename_i i hf
    have h1 := List.find?_some hf
    have h2 := List.mem_of_find?_eq_some hf
    exact ⟨i, rfl, List.mem_range.1 h2, by simpa using h1⟩
  · omega
theorem fi_ge (g : List Int) (p : Int) : -1 ≤ fi g p := by
  unfold fi
  split <;> omega
theorem fi_of {g : List Int} {k : Nat} (hk : k < g.length) : 0 ≤ fi g (has g k) := by
  unfold fi
  cases hf : (List.range g.length).find? (fun i => decide (has g i = has g k)) with
  | some i => simp only; omega
  | none =>
    have := List.find?_eq_none.1 hf k (List.mem_range.2 hk)
    simp at this
def inv (g : List Int) (N : Nat) : List Int := (nums N).map (fi g)
theorem inv_len (g : List Int) (N : Nat) : (inv g N).length = N := by simp [inv, nums]
theorem has_inv {g : List Int} {N k : Nat} (hk : k < N) : has (inv g N) k = fi g k := by
  apply has_get
  unfold inv nums
  rw [List.getElem?_map, List.getElem?_map, List.getElem?_range hk]
  rfl
theorem trn_len (P : Int) (ls : List (List Int)) : (trn P ls).length = P.toNat := by simp [trn, nums]
theorem lst_trn {P : Int} {ls : List (List Int)} {k : Nat} (hk : k < P.toNat) : lst (trn P ls) k = tro ls k := by
  rw [lst_nat]
  unfold trn nums
  rw [List.getElem?_map, List.getElem?_map, List.getElem?_range hk]
  rfl
theorem mem_tro {ls : List (List Int)} {p i : Int} : i ∈ tro ls p ↔ (0 ≤ i ∧ i < ls.length) ∧ p ∈ lst ls i := by
  unfold tro troN
  rw [List.mem_filter, mem_nums, decide_eq_true_iff]
theorem good_inv {P : Int} {ls : List (List Int)} {g : List Int} (hg : Good P ls g) : Good ls.length (trn P ls) (inv g P.toNat) := by
  have hl := hg.len
  refine ⟨by rw [inv_len, trn_len], fun k hk => ?_, fun k hk h0 => ?_, fun a b ha hb h0 e => ?_⟩
  · rw [trn_len] at hk
    rw [has_inv hk]
    refine ⟨fi_ge _ _, ?_⟩
    by_cases h0 : 0 ≤ fi g k
    · obtain ⟨i, e, hi, _⟩ := fi_pos h0
      omega
    · omega
  · rw [trn_len] at hk
    rw [has_inv hk] at h0 ⊢
    rw [lst_trn hk]
    obtain ⟨i, e, hi, hh⟩ := fi_pos h0
    rw [e]
    refine mem_tro.2 ⟨⟨by omega, by omega⟩, ?_⟩
    have := hg.wish i (by omega) (by omega)
    rw [hh] at this
    exact this
  · rw [trn_len] at ha hb
    rw [has_inv ha] at h0
    rw [has_inv ha, has_inv hb] at e
    obtain ⟨i, e1, _, h1⟩ := fi_pos h0
    obtain ⟨j, e2, _, h2⟩ := fi_pos (by rw [← e]; exact h0)
    have : i = j := by omega
    subst this
    omega
theorem srv_inv {P : Int} {ls : List (List Int)} {g : List Int} (hg : Good P ls g) : srv g ≤ srv (inv g P.toNat) := by
  have hl := hg.len
  rw [srv_sv, srv_sv]
  have h1 : ((sv g).map (fun k => (has g k).toNat)).Nodup := by
    rw [nodup_map_inj (sv_nodup g)]
    intro a ha b hb e
    have a1 := mem_sv.1 ha
    have b1 := mem_sv.1 hb
    exact hg.inj a b (by omega) (by omega) a1.2 (by omega)
  have h2 := nodup_len h1 (m := sv (inv g P.toNat)) (fun x hx => ?_)
  · rw [List.length_map] at h2
    exact h2
  · obtain ⟨k, hk, rfl⟩ := List.mem_map.1 hx
    have k1 := mem_sv.1 hk
    have k2 := hg.rng k (by omega)
    have k3 : (has g k).toNat < P.toNat := by omega
    refine mem_sv.2 ⟨by rw [inv_len]; exact k3, ?_⟩
    rw [has_inv k3, show (((has g k).toNat : Nat) : Int) = has g k by omega]
    exact fi_of k1.1
theorem good_mem {P : Int} {ls ms : List (List Int)} (hl : ls.length = ms.length) (h : ∀ (k : Nat) (p : Int), k < ls.length → p ∈ lst ls k → p ∈ lst ms k) {g : List Int} (hg : Good P ls g) : Good P ms g :=
  ⟨by rw [hg.len, hl], fun k hk => hg.rng k (by omega), fun k hk h0 => h k _ (by omega) (hg.wish k (by omega) h0), fun a b ha hb => hg.inj a b (by omega) (by omega)⟩
theorem trn_in (P : Int) (ls : List (List Int)) : ∀ l ∈ trn P ls, ∀ i ∈ l, inP ls.length i := by
  intro l hl i hi
  obtain ⟨p, _, rfl⟩ := List.mem_map.1 hl
  exact (mem_tro.1 hi).1
theorem most_trn_ge {P : Int} (hP : 0 ≤ P) {ls : List (List Int)} (hls : ∀ l ∈ ls, ∀ p ∈ l, inP P p) : most P ls ≤ most ls.length (trn P ls) := by
  obtain ⟨⟨g, hg, e⟩, _⟩ := most_spec hP hls
  have h1 := srv_inv hg
  have h2 := (most_spec (P := (ls.length : Int)) (by omega) (trn_in P ls)).2 _ (good_inv hg)
  omega
theorem most_trn {P : Int} (hP : 0 ≤ P) {ls : List (List Int)} (hls : ∀ l ∈ ls, ∀ p ∈ l, inP P p) : most ls.length (trn P ls) = most P ls := by
  have h1 := most_trn_ge hP hls
  have h2 := most_trn_ge (P := (ls.length : Int)) (by omega) (trn_in P ls)
  have hlen : ((trn P ls).length : Int) = P := by rw [trn_len]; omega
  rw [hlen] at h2
  have hin2 : ∀ l ∈ trn (ls.length : Int) (trn P ls), ∀ i ∈ l, inP P i := by
    have := trn_in (ls.length : Int) (trn P ls)
    rw [hlen] at this
    exact this
  obtain ⟨⟨g, hg, e⟩, _⟩ := most_spec hP hin2
  have h3 : Good P ls g := by
    refine good_mem (by rw [trn_len, Int.toNat_natCast]) (fun k p hk hp => ?_) hg
    rw [trn_len, Int.toNat_natCast] at hk
    rw [lst_trn (by rw [Int.toNat_natCast]; exact hk)] at hp
    obtain ⟨⟨p0, p1⟩, p2⟩ := mem_tro.1 hp
    rw [hlen] at p1
    obtain ⟨q, rfl⟩ : ∃ q : Nat, p = q := ⟨p.toNat, by omega⟩
    rw [lst_trn (by omega)] at p2
    exact (mem_tro.1 p2).2
  have h4 := (most_spec hP hls).2 g h3
  omega
end Go.Proofs.Ytlmbobbefgcolaa

namespace Go.Proofs.Ytlmbobbefgcolaa
open Go Go.Eng
/-- A table that the call has made, with rows that grow. -/
structure NT (A H : AHeap) (n : Nat) (ws : List (AV × List Int)) : Prop where
  pre : A <+: H
  new : A.length ≤ n
  ob : H[n]? = some (.cells true (ws.flatMap e0))
  rows : ∀ x ∈ ws, AccL 1 e1 A H x.1 x.2 ∧ (x.1 = .nilS ∨ nm x.1 ≠ n)
  apart : Apart ws
theorem AccL_keep {A H H' : AHeap} {v : AV} {xs : List Int} (h : AccL 1 e1 A H v xs) (hp : A <+: H') (hk : ∀ k o, H[k]? = some o → v = .sl 1 k 0 xs.length false → H'[k]? = some o) : AccL 1 e1 A H' v xs := by
  obtain ⟨a1, a2, a3⟩ := h
  refine ⟨hp, a2, ?_⟩
  rcases a3 with a4 | ⟨b0, m, b4, b5, b6⟩
  · exact .inl a4
  · exact .inr ⟨b0, m, b4, b5, hk m _ b6 b4⟩
theorem AccL_form {A H : AHeap} {v : AV} {xs : List Int} (h : AccL 1 e1 A H v xs) : v = .nilS ∨ ∃ m, v = .sl 1 m 0 xs.length false ∧ m < H.length := by
  rcases h.2.2 with ⟨_, h4⟩ | ⟨_, m, h4, _, h6⟩
  · exact .inl h4
  · exact .inr ⟨m, h4, (List.getElem?_eq_some_iff.1 h6).1⟩
theorem NT.ll {A H : AHeap} {n : Nat} {ws : List (AV × List Int)} (h : NT A H n ws) (full : Bool) : LL H (.sl 1 n 0 ws.length full) ws :=
  ⟨OL.ls ⟨e0_len, h.pre, h.new, h.ob, full, rfl⟩, fun x hx => AccL_ls (h.rows x hx).1 e1_len⟩
theorem Apart_set {ws : List (AV × List Int)} {i : Nat} {y : AV × List Int} (h : Apart ws) (hy : ∀ x ∈ ws, x.1 = .nilS ∨ y.1 = .nilS ∨ nm x.1 ≠ nm y.1) : Apart (ws.set i y) := by
  unfold Apart at *
  rw [List.pairwise_iff_getElem] at *
  intro a b ha hb hab
  rw [List.length_set] at ha hb
  rw [List.getElem_set, List.getElem_set]
  split
  · split
    · omega
    · rcases hy _ (List.getElem_mem hb) with g | g | g
      · exact .inr (.inl g)
      · exact .inl g
      · exact .inr (.inr (Ne.symm g))
  · split
    · exact hy _ (List.getElem_mem ha)
    · exact h a b ha hb hab
/-- A row of the table grows. -/
theorem NT.push {A H : AHeap} {n : Nat} {ws : List (AV × List Int)} (h : NT A H n ws) {i : Nat} {x : AV × List Int} (hz : ws[i]? = some x) (q : Int) (hl : x.2.length + 1 ≤ lim) :
    ∃ v3 H3 H4, appA 1 (H ++ [.cells true [I q]]) x.1 (.sl 1 H.length 0 1 true) = some (v3, H3) ∧ v3.cells? = some [v3] ∧ stA 1 (.ptr n (0 + i * 1)) v3 H3 = some H4 ∧ NT A H4 n (ws.set i (v3, x.2 ++ [q])) := by
  have hm := List.mem_of_getElem? hz
  obtain ⟨hx, hxn⟩ := h.rows x hm
  obtain ⟨v3, H3, h1, h2, h3, n', len', h4, h5⟩ := AccL_push2 hx e1_len (by omega) q hl
  have hil := (List.getElem?_eq_some_iff.1 hz).1
  have hnl := (List.getElem?_eq_some_iff.1 h.ob).1
  have hob : H3[n]? = some (.cells true (ws.flatMap e0)) := h3 n _ h.ob (fun k len hk hnk => by
    rcases hxn with g | g
    · rw [hk] at g; cases g
    · rw [hk] at g; exact g hnk.symm)
  have hn3 := (List.getElem?_eq_some_iff.1 hob).1
  have hfl := flatMap_length e0_len ws
  have hcell : v3.cells? = some (e0 (v3, x.2 ++ [q])) := by rw [h4]; rfl
  have hpre : A <+: H3.set n (.cells true ((ws.set i (v3, x.2 ++ [q])).flatMap e0)) := pre_set h2.1 h.new _
  refine ⟨v3, H3, H3.set n (.cells true ((ws.set i (v3, x.2 ++ [q])).flatMap e0)), h1, by rw [h4]; rfl, ?_, hpre, h.new, by rw [List.getElem?_set_self hn3], ?_, ?_⟩
  · simp only [stA, hcell, hob]
    rw [if_pos ⟨rfl, by rw [hfl]; omega⟩, Nat.zero_add, splice_flat e0_len hil (v3, x.2 ++ [q])]
  · intro y hy
    obtain ⟨j, hj⟩ := List.mem_iff_getElem?.1 hy
    rw [List.getElem?_set] at hj
    by_cases hij : i = j
    · rw [if_pos hij, if_pos (by omega)] at hj
      have : (v3, x.2 ++ [q]) = y := Option.some.inj hj
      subst this
      have hne : n' ≠ n := by omega
      refine ⟨AccL_keep h2 hpre (fun k o ho hk => ?_), .inr (by rw [h4]; exact hne)⟩
      have hkn : k ≠ n := by
        simp only at hk
        rw [h4] at hk
        injection hk with _ hk2
        omega
      rw [List.getElem?_set_ne (Ne.symm hkn)]
      exact ho
    · rw [if_neg hij] at hj
      obtain ⟨hy1, hy2⟩ := h.rows y (List.mem_of_getElem? hj)
      refine ⟨AccL_keep hy1 hpre (fun k o ho hk => ?_), hy2⟩
      have hkn : k ≠ n := by
        rcases hy2 with g | g
        · rw [hk] at g; cases g
        · rw [hk] at g; exact g
      rw [List.getElem?_set_ne (Ne.symm hkn)]
      refine h3 k o ho (fun k' len hv hkk => ?_)
      rcases Apart_ne h.apart hz hj hij with d | d | d
      · rw [hv] at d; cases d
      · rw [hk] at d; cases d
      · rw [hv, hk] at d; exact d hkk.symm
  · refine Apart_set h.apart (fun y hy => ?_)
    rcases AccL_form (h.rows y hy).1 with g | ⟨m, g, hm⟩
    · exact .inl g
    · refine .inr (.inr ?_)
      rw [g, h4]
      show m ≠ n'
      omega
theorem nums_get {N j : Nat} (h : j < N) : (nums N)[j]? = some (j : Int) := by
  unfold nums
  rw [List.getElem?_map, List.getElem?_range h]; rfl
theorem nums_get_none {N j : Nat} (h : ¬ j < N) : (nums N)[j]? = none := List.getElem?_eq_none (by simp [nums]; omega)
/-- The table when the owners below 'i' are in it, and the first wishes of 'i'. -/
def tbl (ls : List (List Int)) (N i : Nat) (l : List Int) (k : Nat) : List (List Int) := (nums N).map (fun p => troN ls p i ++ if p ∈ l.take k then [(i : Int)] else [])
theorem tbl_get {ls : List (List Int)} {N i k j : Nat} {l : List Int} (h : j < N) : (tbl ls N i l k)[j]? = some (troN ls j i ++ if (j : Int) ∈ l.take k then [(i : Int)] else []) := by
  unfold tbl
  rw [List.getElem?_map, nums_get h]; rfl
theorem tbl_none {ls : List (List Int)} {N i k j : Nat} {l : List Int} (h : ¬ j < N) : (tbl ls N i l k)[j]? = none := by
  unfold tbl
  rw [List.getElem?_map, nums_get_none h]; rfl
theorem tbl_len (ls : List (List Int)) (N i : Nat) (l : List Int) (k : Nat) : (tbl ls N i l k).length = N := by simp [tbl, nums]
theorem tbl_set {ls : List (List Int)} {N i k z : Nat} {l : List Int} (hz : l[k]? = some (z : Int)) (hN : z < N) : (tbl ls N i l k).set z (troN ls z i ++ [(i : Int)]) = tbl ls N i l (k + 1) := by
  apply List.ext_getElem?
  intro j
  rw [List.getElem?_set, tbl_len]
  by_cases hj : j < N
  · rw [tbl_get hj]
    by_cases hjz : z = j
    · subst hjz
      rw [if_pos rfl, if_pos hN, tbl_get hN, if_pos ((take_mem' hz).2 (.inr rfl))]
    · rw [if_neg hjz, tbl_get hj]
      have : (j : Int) ∈ l.take (k + 1) ↔ (j : Int) ∈ l.take k := by
        rw [take_mem' hz]
        constructor
        · rintro (h | h)
          · exact h
          · omega
        · exact .inl
      simp only [this]
  · rw [tbl_none hj, if_neg (by omega : ¬ z = j), tbl_none hj]
theorem tbl_0 (ls : List (List Int)) (N i : Nat) (l : List Int) : tbl ls N i l 0 = (nums N).map (fun p => troN ls p i) := by
  unfold tbl
  simp
theorem tbl_end {ls : List (List Int)} {i : Nat} {l : List Int} (h : lst ls i = l) (N : Nat) : tbl ls N i l l.length = (nums N).map (fun p => troN ls p (i + 1)) := by
  unfold tbl
  rw [List.take_of_length_le (Nat.le_refl _), ← h]
  simp only [troN_succ]
theorem flat_rep (N : Nat) : (List.replicate N (AV.nilS, ([] : List Int))).flatMap e0 = repl [.nilS] N := by
  induction N with
  | zero => rfl
  | succ N ih => rw [List.replicate_succ, List.flatMap_cons, ih]; rfl
theorem nodup_take_not {l : List Int} {k : Nat} {z : Int} (h : l.Nodup) (hz : l[k]? = some z) : z ∉ l.take k := by
  intro hm
  obtain ⟨j, hj, e⟩ := List.mem_iff_getElem.1 hm
  rw [List.length_take] at hj
  rw [List.getElem_take] at e
  obtain ⟨hk, e2⟩ := List.getElem?_eq_some_iff.1 hz
  unfold List.Nodup at h
  exact List.pairwise_iff_getElem.1 h j k (by omega) hk (by omega) (by rw [e, e2])
set_option maxRecDepth 100000 in
set_option maxHeartbeats 4000000 in
theorem s29 {P : Int} {ws : List (AV × List Int)} {v : AV} {A : AHeap} (hw : LL A v ws) (hs : Sz ws) :
    ∃ r H', ACalls Try.prog 29 [.agg [I P, v]] A r H' ∧ ∃ v' ws', r = .tuple [.agg [I (tuP P (lists ws)), v'], I (tuE P (lists ws))] ∧ A <+: H' ∧ LL H' v' ws' ∧ lists ws' = tuL P (lists ws) := by
  refine acallsR hmix Try.func29 (by kernel_rfl) t29 _ 1 rfl (by decide) ?_
  have hs1 := hs.1
  have hll : (lists ws).length = ws.length := by simp
  dsimp only [m29]
  simp (maxSteps := 4000000) -implicitDefEqProofs -dsimp (disch := omega) only [↓AW_ops, ↓AW_seq, ↓AOps_nil, ↓AOps_pu, ↓AOps_call, on_some, ↓then_normal, pval, rd_S, rd_C, put_S, chkd, bgot, cells_agg, partA, eq_self, List.replicate_succ, List.replicate_zero, List.set_cons_zero, List.set_cons_succ, List.getElem?_cons_zero, List.getElem?_cons_succ, List.drop_zero, List.take_succ_cons, List.take_nil, Option.getD_some, map_c, map_n, List.length_cons, List.length_nil, Nat.reduceAdd, Nat.reduceSub, Nat.reduceLeDiff, Nat.reduceEqDiff, Nat.zero_add, List.cons_append, List.nil_append, if_true, if_false]
  refine CallK.of (s39 hw hs) ?_
  by_cases h0 : vW P (lists ws) = 0
  · have hv := val_of h0
    have hP := hv.hP
    by_cases hz0 : ws.length = 0
    · have hE : tuE P (lists ws) = 1 := by unfold tuE; rw [if_pos h0, if_pos (by omega)]
      have hz1 : (ws.length : Int) = 0 := by omega
      simp (maxSteps := 4000000) -implicitDefEqProofs -dsimp (disch := omega) only [↓AW_skip, ↓AW_ops, ↓AW_seq, ↓AW_cond, ↓AW_ret, ↓AOps_nil, ↓AOps_pu, on_some, extK_same, condB_t, condB_f, ↓then_normal, ↓then_ret, ↓FinR_ret, pval, rd_S, rd_C, put_S, resV, resL, chkd, isAdr, bput, bgot, cells_agg, splice, partA, fillA, eq_self, List.replicate_succ, List.replicate_zero, List.set_cons_zero, List.set_cons_succ, List.getElem?_cons_zero, List.getElem?_cons_succ, List.drop_zero, List.drop_succ_cons, List.drop_nil, List.take_zero, List.take_succ_cons, List.take_nil, Option.getD_some, Option.map_some, map_n, List.length_cons, List.length_nil, Nat.reduceAdd, Nat.reduceSub, Nat.reduceLeDiff, Nat.reduceEqDiff, Nat.zero_add, List.cons_append, List.nil_append, List.append_nil, bin_eql, bin_neq, if_true, if_false, Bool.false_eq_true, decide_true, decide_false, ne_eq, not_true_eq_false, h0, hw.ls.len, hz1]
      refine ⟨_, _, gc_all, .nilS, [], ?_, List.prefix_refl _, (NL.nil (List.prefix_refl A)).ll, ?_⟩
      · unfold tuP; rw [hE]; rfl
      · unfold tuL; rw [hE]; rfl
    · have hE : tuE P (lists ws) = 0 := by unfold tuE; rw [if_pos h0, if_neg (by omega)]
      have hz1 : ¬ (ws.length : Int) = 0 := by omega
      have hA0 := hw.pos (by omega)
      obtain ⟨N, hN⟩ : ∃ N : Nat, P = N := ⟨P.toNat, by omega⟩
      subst hN
      have hr0 : (0 : Int) ≤ (N : Int) := by omega
      have hNT0 : NT A (A ++ [.cells true (repl [.nilS] N)]) A.length (List.replicate N (.nilS, [])) := by
        refine ⟨pre_app _ _, Nat.le_refl _, by rw [flat_rep, get_new], fun x hx => ?_, ?_⟩
        · obtain ⟨_, rfl⟩ := List.mem_replicate.1 hx
          exact ⟨AccL.nil (pre_app _ _), .inl rfl⟩
        · unfold Apart
          rw [List.pairwise_iff_getElem]
          intro a b ha hb _
          exact .inl (by rw [List.getElem_replicate])
      have hlim : (N : Int) ≤ lim := by simp [lim]; omega
      simp (maxSteps := 4000000) -implicitDefEqProofs -dsimp (disch := omega) only [↓AW_skip, ↓AW_ops, ↓AW_seq, ↓AW_cond, ↓AW_block, ↓AOps_nil, ↓AOps_pu, ↓AOps_ha, on_some, extK_app, extK_same, condB_f, ↓then_normal, pval, hval_mks, rd_S, rd_C, put_S, ↓AW_toLoop, chkd, isAdr, bput, bgot, cells_agg, cells_int, cells_sl, splice, partA, fillA, beq_self_eq_true, eq_self, List.replicate_succ, List.replicate_zero, List.set_cons_zero, List.set_cons_succ, List.getElem?_cons_zero, List.getElem?_cons_succ, List.drop_zero, List.drop_succ_cons, List.drop_nil, List.take_zero, List.take_succ_cons, List.take_nil, Option.getD_some, Option.map_some, map_c, map_n, List.length_cons, List.length_nil, Nat.reduceAdd, Nat.reduceSub, Nat.reduceLeDiff, Nat.zero_add, List.cons_append, List.nil_append, List.append_nil, bin_eql, bin_neq, if_true, if_false, Bool.false_eq_true, decide_false, and_true, ne_eq, not_true_eq_false, h0, hw.ls.len, hz1, hr0, Int.le_refl, hlim, Int.toNat_natCast]
      refine LoopK.by 57 (fun x : Nat × AHeap × List (AV × List Int) => (x.1 ≤ ws.length ∧ x.2.2.length = N) ∧ NT A x.2.1 A.length x.2.2 ∧ lists x.2.2 = (nums N).map (fun p => troN (lists ws) p x.1))
        (fun x => [(2, .agg [I 0, .nilS]), (5, .agg [I ws.length, .sl 1 A.length 0 N true]), (29, v), (30, I ws.length), (31, I x.1)]) (fun x => x.2.1) (fun x => ws.length - x.1) (0, A ++ [.cells true (repl [.nilS] N)], List.replicate N (.nilS, [])) ⟨⟨by simp only; omega, by simp⟩, hNT0, by
          simp only [lists, List.map_replicate, troN, nums, List.range_zero, List.map_nil, List.filter_nil, List.map_const', List.length_map, List.length_range]⟩ rfl (by simp [Has, rd_s]) rfl ?_
      rintro ⟨i, H1, wi⟩ ⟨⟨hi, hwl⟩, hnt, hli⟩
      simp only at hi hwl hnt hli
      have hw1 := hw.mono hnt.pre
      by_cases hlt : i < ws.length
      · obtain ⟨x, hz⟩ : ∃ z, ws[i]? = some z := ⟨_, List.getElem?_eq_getElem hlt⟩
        have hlt' : (i : Int) < ws.length := by omega
        have hm := List.mem_of_getElem? hz
        have hx := hw1.inn x hm
        have hx2 := hs.2 x hm
        have hvx := hv.l x.2 (List.mem_map.2 ⟨x, hm, rfl⟩)
        simp (maxSteps := 4000000) -implicitDefEqProofs -dsimp (disch := omega) only [↓AW_skip, ↓AW_ops, ↓AW_seq, ↓AW_cond, ↓AW_block, ↓AOps_nil, ↓AOps_pu, ↓AOps_ld, on_some, condB_t, ↓then_normal, pval, lval, rd_S, rd_C, put_S, ↓AW_toLoop, partA, eq_self, mk, List.foldl_cons, List.foldl_nil, List.replicate_succ, List.replicate_zero, List.set_cons_zero, List.set_cons_succ, List.getElem?_cons_zero, List.getElem?_cons_succ, List.drop_zero, List.take_succ_cons, List.take_nil, Option.getD_some, List.length_cons, List.length_nil, Nat.reduceLeDiff, Nat.zero_add, bin_lss, if_true, if_false, Bool.false_eq_true, decide_true, hlt', hw1.ls.idx hlt, hw1.ls.ld0 hz 1 false (by decide), e0, hx.len]
        refine LoopK.by 57 (fun y : Nat × AHeap × List (AV × List Int) => (y.1 ≤ x.2.length ∧ y.2.2.length = N) ∧ NT A y.2.1 A.length y.2.2 ∧ lists y.2.2 = tbl (lists ws) N i x.2 y.1)
          (fun y => [(2, .agg [I 0, .nilS]), (5, .agg [I ws.length, .sl 1 A.length 0 N true]), (6, I i), (29, v), (30, I ws.length), (31, I i), (36, x.1), (37, I x.2.length), (38, I y.1)]) (fun y => y.2.1) (fun y => x.2.length - y.1) (0, H1, wi) ⟨⟨by simp only; omega, hwl⟩, hnt, by simp only; rw [hli, tbl_0]⟩ rfl (by simp [Has, rd_s]) rfl ?_
        rintro ⟨k, H2, wk⟩ ⟨⟨hk, hkl⟩, hn2, hlk⟩
        simp only at hk hkl hn2 hlk
        have hx2' := (hw.mono hn2.pre).inn x hm
        by_cases hltk : k < x.2.length
        · have hltk' : (k : Int) < x.2.length := by omega
          obtain ⟨z, hzk⟩ : ∃ z, x.2[k]? = some z := ⟨_, List.getElem?_eq_getElem hltk⟩
          have hzin := hvx.1 z (List.mem_of_getElem? hzk)
          have hz0' := hzin.1
          have hz1' := hzin.2
          obtain ⟨q, rfl⟩ : ∃ q : Nat, z = q := ⟨z.toNat, by omega⟩
          have hqN : q < N := by omega
          have hqk : q < wk.length := by omega
          have hqn : (q : Int) ∉ x.2.take k := fun h => (nodup_take_not hvx.2 hzk) h
          obtain ⟨y, hy⟩ : ∃ y, wk[q]? = some y := ⟨_, List.getElem?_eq_getElem hqk⟩
          have hy2 : y.2 = troN (lists ws) q i := by
            have h1 := ws_get hy
            rw [hlk, tbl_get hqN, if_neg hqn, List.append_nil] at h1
            exact (Option.some.inj h1).symm
          have hyl := troN_le (lists ws) q i
          obtain ⟨v3, H3, H4, happ, hcell, hst, h4⟩ := hn2.push hy (i : Int) (by rw [hy2]; simp [lim]; omega)
          have hT := (hn2.ll true).ls
          rw [hkl] at hT
          have hst2 : stA 1 (.ptr (nm (AV.sl 1 A.length 0 N true)) (of (AV.sl 1 A.length 0 N true) + q * 1)) v3 H3 = some H4 := hst
          simp (maxSteps := 4000000) -implicitDefEqProofs -dsimp (disch := omega) only [↓AW_skip, ↓AW_ops, ↓AW_seq, ↓AW_cond, ↓AW_block, ↓AOps_nil, ↓AOps_pu, ↓AOps_ld, ↓AOps_ha, on_some, extK_false, extK_app, condB_t, ↓then_normal, ↓inBlock_normal, pval, lval, hval_st, hval_blds, hval_app, rd_S, rd_C, put_S, putS_none, chkd, isAdr, bgot, cells_agg, cells_int, splice, partA, fillA, repl, eq_self, mk, List.foldl_cons, List.foldl_nil, List.replicate_succ, List.replicate_zero, List.set_cons_zero, List.set_cons_succ, List.getElem?_cons_zero, List.getElem?_cons_succ, List.drop_zero, List.drop_succ_cons, List.drop_nil, List.take_zero, List.take_succ_cons, List.take_nil, Option.getD_some, Option.map_some, map_c, map_n, List.length_cons, List.length_nil, Nat.reduceAdd, Nat.reduceLeDiff, Nat.zero_add, List.nil_append, List.append_nil, bin_add, bin_lss, w64, if_true, if_false, Bool.false_eq_true, decide_true, Go.Eng.e1, true_and, and_true, hltk', hx2'.idx hltk, hx2'.ld0 hzk 1 false (by decide), hT.idx hqk, hT.ld0 hy 1 false (by decide), e0, happ, hst2]
          refine ⟨(k + 1, H4, wk.set q (v3, y.2 ++ [(i : Int)])), ⟨⟨hltk, by simp only [List.length_set]; exact hkl⟩, h4, ?_⟩, by simp [Has, rd_s], rfl, by simp only; omega⟩
          simp only
          rw [← tbl_set hzk hqN, ← hlk, hy2]
          exact List.map_set
        · have hltk' : ¬ ((k : Int) < x.2.length) := by omega
          rw [show k = x.2.length by omega, tbl_end (lst_at hz)] at hlk
          simp (maxSteps := 4000000) -implicitDefEqProofs -dsimp (disch := omega) only [↓AW_ops, ↓AW_seq, ↓AW_cond, ↓AW_exit, ↓AW_ret, ↓AOps_nil, ↓AOps_pu, on_some, condB_f, ↓then_normal, ↓then_exit, ↓inBlock_normal, ↓inBlock_exit, ↓FinR_ret, pval, rd_S, rd_C, put_S, resV, resL, chkd, bput, bgot, cells_agg, splice, partA, eq_self, mk, List.foldl_cons, List.foldl_nil, List.replicate_succ, List.replicate_zero, List.set_cons_zero, List.set_cons_succ, List.getElem?_cons_zero, List.getElem?_cons_succ, List.drop_zero, List.drop_succ_cons, List.drop_nil, List.take_zero, List.take_succ_cons, List.take_nil, Option.getD_some, List.length_cons, List.length_nil, Nat.reduceAdd, Nat.reduceLeDiff, Nat.reduceEqDiff, Nat.zero_add, List.nil_append, List.append_nil, bin_add, bin_lss, w64, if_true, if_false, decide_false, true_and, reduceCtorEq, ne_eq, not_true_eq_false, hltk']
          exact ⟨(i + 1, H2, wk), ⟨⟨hlt, hkl⟩, hn2, hlk⟩, by simp [Has, rd_s], rfl, by simp only; omega⟩
      · have hlt' : ¬ ((i : Int) < ws.length) := by omega
        simp (maxSteps := 4000000) -implicitDefEqProofs -dsimp (disch := omega) only [↓AW_ops, ↓AW_seq, ↓AW_cond, ↓AW_exit, ↓AW_ret, ↓AOps_nil, ↓AOps_pu, on_some, condB_f, ↓then_normal, ↓then_exit, ↓inBlock_exit, ↓FinR_ret, pval, rd_S, rd_C, put_S, resV, resL, chkd, bput, bgot, cells_agg, splice, partA, eq_self, mk, List.foldl_cons, List.foldl_nil, List.replicate_succ, List.replicate_zero, List.set_cons_zero, List.set_cons_succ, List.getElem?_cons_zero, List.getElem?_cons_succ, List.drop_zero, List.drop_succ_cons, List.drop_nil, List.take_zero, List.take_succ_cons, List.take_nil, Option.getD_some, List.length_cons, List.length_nil, Nat.reduceAdd, Nat.reduceLeDiff, Nat.reduceEqDiff, Nat.zero_add, List.nil_append, List.append_nil, bin_lss, if_true, if_false, decide_false, ne_eq, not_true_eq_false, hlt']
        have hT := hnt.ll true
        rw [hwl] at hT
        refine ⟨_, _, gc_all, _, wi, ?_, hnt.pre, hT, ?_⟩
        · unfold tuP; rw [hE, if_pos rfl, hll]
        · unfold tuL trn; rw [hE, if_pos rfl, Int.toNat_natCast, hli, show i = ws.length by omega]
          unfold tro
          rw [hll]
  · have hE : tuE P (lists ws) = vW P (lists ws) := by unfold tuE; rw [if_neg h0]
    simp (maxSteps := 4000000) -implicitDefEqProofs -dsimp (disch := omega) only [↓AW_ops, ↓AW_seq, ↓AW_cond, ↓AW_ret, ↓AOps_nil, ↓AOps_pu, on_some, extK_same, condB_t, ↓then_normal, ↓then_ret, ↓FinR_ret, pval, rd_S, rd_C, put_S, resV, resL, chkd, bput, bgot, cells_agg, splice, partA, fillA, eq_self, List.replicate_succ, List.replicate_zero, List.set_cons_zero, List.set_cons_succ, List.getElem?_cons_zero, List.getElem?_cons_succ, List.drop_zero, List.drop_succ_cons, List.drop_nil, List.take_zero, List.take_succ_cons, List.take_nil, Option.getD_some, Option.map_some, map_n, List.length_cons, List.length_nil, Nat.reduceAdd, Nat.reduceSub, Nat.reduceLeDiff, Nat.reduceEqDiff, Nat.zero_add, List.cons_append, List.nil_append, List.append_nil, bin_neq, if_true, if_false, decide_true, ne_eq, not_true_eq_false, not_false_eq_true, h0]
    refine ⟨_, _, gc_all, .nilS, [], ?_, List.prefix_refl _, (NL.nil (List.prefix_refl A)).ll, ?_⟩
    · unfold tuP; rw [hE, if_neg h0]
    · unfold tuL; rw [hE, if_neg h0]; rfl
end Go.Proofs.Ytlmbobbefgcolaa

namespace Go.Proofs.Ytlmbobbefgcolaa
open Go Go.Eng
theorem val_trn {P : Int} {ls : List (List Int)} (hv : Val P ls) (h0 : ls.length ≠ 0) : Val ls.length (trn P ls) := by
  have h1 := hv.hP
  have h2 := hv.n
  refine ⟨by omega, by rw [trn_len]; omega, fun l hl => ⟨trn_in P ls l hl, ?_⟩⟩
  obtain ⟨p, _, rfl⟩ := List.mem_map.1 hl
  exact (nums_nodup _).filter _
theorem Sz_tu {P : Int} {ws vs : List (AV × List Int)} (h : lists vs = tuL P (lists ws)) (hs : Sz ws) : Sz vs := by
  unfold tuL tuE at h
  by_cases h0 : vW P (lists ws) = 0
  · have hv := (val_of h0).hP
    rw [if_pos h0] at h
    by_cases hz : (lists ws).length = 0
    · rw [if_pos hz] at h
      have : vs = [] := by simpa using h
      subst this
      exact ⟨by simp, by simp⟩
    · rw [if_neg hz, if_pos rfl] at h
      have h1 := congrArg List.length h
      rw [trn_len] at h1
      simp only [List.length_map] at h1
      refine ⟨by omega, fun x hx => ?_⟩
      have h2 : x.2 ∈ trn P (lists ws) := by rw [← h]; exact List.mem_map.2 ⟨x, hx, rfl⟩
      obtain ⟨p, _, e⟩ := List.mem_map.1 h2
      have := troN_le (lists ws) p (lists ws).length
      have := hs.1
      rw [← e]
      unfold tro
      simp only [List.length_map] at *
      omega
  · rw [if_neg h0, if_neg h0] at h
    have : vs = [] := by simpa using h
    subst this
    exact ⟨by simp, by simp⟩
set_option maxRecDepth 100000 in
set_option maxHeartbeats 4000000 in
theorem s5 {P : Int} {ws : List (AV × List Int)} {v : AV} {A : AHeap} (hw : LL A v ws) (hl : ws.length ≤ 9223372036854775807) : ACalls Try.prog 5 [.agg [I P, v]] A (B true) A := by
  refine acalls hmix Try.func5 (by kernel_rfl) t5 1 rfl (by decide) ?_
  dsimp only [m5]
  simp (maxSteps := 4000000) -implicitDefEqProofs -dsimp (disch := omega) only [↓AW_ops, ↓AW_seq, ↓AOps_nil, ↓AOps_pu, ↓AOps_call, on_some, ↓then_normal, pval, rd_S, rd_C, put_S, chkd, bgot, AV.cells?, partA, eq_self, List.replicate_succ, List.replicate_zero, List.set_cons_zero, List.set_cons_succ, List.getElem?_cons_zero, List.getElem?_cons_succ, List.drop_zero, List.take_succ_cons, List.take_nil, Option.getD_some, map_c, map_n, List.length_cons, List.length_nil, Nat.reduceAdd, Nat.reduceSub, Nat.reduceLeDiff, Nat.reduceEqDiff, Nat.zero_add, List.cons_append, List.nil_append, if_true, if_false]
  refine CallK.of (s17 hw hl) ?_
  by_cases h : longW ws
  · rw [decide_eq_true h]
    simp (maxSteps := 4000000) -implicitDefEqProofs -dsimp (disch := omega) only [↓AW_ops, ↓AW_seq, ↓AW_cond, ↓AOps_nil, ↓AOps_call, extK_same, condB_t, ↓then_normal, rd_S, put_S, List.replicate_succ, List.replicate_zero, List.set_cons_zero, List.set_cons_succ, List.getElem?_cons_zero, List.getElem?_cons_succ, Option.getD_some, map_n, Nat.reduceSub, List.cons_append, List.nil_append]
    refine CallK.of (known A) ?_
    simp (maxSteps := 4000000) -implicitDefEqProofs -dsimp (disch := omega) only [↓AW_ret, ↓AOps_nil, ↓AOps_pu, on_some, extK_same, ↓then_normal, ↓then_ret, ↓Fin_ret, pval, rd_S, put_S, resV, resL, List.replicate_succ, List.replicate_zero, List.set_cons_zero, List.set_cons_succ, List.getElem?_cons_zero, List.getElem?_cons_succ, Option.getD_some, Nat.reduceSub, List.cons_append, List.nil_append]
    exact gc_same rfl
  · have hs := Sz_of h
    rw [decide_eq_false h]
    obtain ⟨_, H1, hc1, v1, ws1, rfl, hn1, hl1⟩ := s28 (P := P) hw hs
    have hs1 := Sz_lists hl1 hs
    obtain ⟨_, H2, hc2, v2, ws2, rfl, p2, hn2, hl2⟩ := s29 (P := P) hn1.ll hs1
    rw [hl1] at hl2 hc2
    have hs2 := Sz_tu hl2 hs
    have p1 := hn1.acc.1
    obtain ⟨_, H3, hc3, v3, ws3, rfl, hn3, hl3⟩ := s30 (P := P) (hw.mono (p1.trans p2)) hs
    have p3 := hn3.acc.1
    have p13 := (p1.trans p2).trans p3
    have c1 := Ls_cells hn1.ll.ls
    have c2 := Ls_cells hn2.ls
    have c3 := Ls_cells hn3.ll.ls
    simp (maxSteps := 4000000) -implicitDefEqProofs -dsimp (disch := omega) only [↓AW_skip, ↓AW_ops, ↓AW_seq, ↓AW_cond, ↓AOps_nil, ↓AOps_pu, ↓AOps_call, on_some, extK_same, condB_f, ↓then_normal, pval, rd_S, put_S, chkd, bgot, partA, eq_self, List.replicate_succ, List.replicate_zero, List.set_cons_zero, List.set_cons_succ, List.getElem?_cons_zero, List.getElem?_cons_succ, List.drop_zero, List.take_succ_cons, List.take_nil, Option.getD_some, map_c, map_n, List.length_cons, List.length_nil, Nat.reduceAdd, Nat.reduceSub, Nat.reduceLeDiff, Nat.reduceEqDiff, Nat.zero_add, List.cons_append, List.nil_append, if_true, if_false]
    refine CallK.of (hc1) ?_
    simp (maxSteps := 4000000) -implicitDefEqProofs -dsimp (disch := omega) only [↓AW_ops, ↓AW_seq, ↓AOps_nil, ↓AOps_pu, ↓AOps_call, on_some, extK_false, ↓then_normal, pval, rd_S, rd_C, put_S, chkd, bput, bgot, AV.cells?, splice, partA, eq_self, List.replicate_succ, List.replicate_zero, List.set_cons_zero, List.set_cons_succ, List.getElem?_cons_zero, List.getElem?_cons_succ, List.drop_zero, List.drop_succ_cons, List.drop_nil, List.take_zero, List.take_succ_cons, List.take_nil, Option.getD_some, map_c, map_n, List.length_cons, List.length_nil, Nat.reduceAdd, Nat.reduceSub, Nat.reduceLeDiff, Nat.reduceEqDiff, Nat.zero_add, List.cons_append, List.nil_append, List.append_nil, if_true, if_false, ne_eq, not_true_eq_false]
    refine CallK.of (hc2) ?_
    simp (maxSteps := 4000000) -implicitDefEqProofs -dsimp (disch := omega) only [↓AW_ops, ↓AW_seq, ↓AOps_nil, ↓AOps_pu, ↓AOps_call, on_some, extK_false, ↓then_normal, pval, rd_S, rd_C, put_S, chkd, bput, bgot, AV.cells?, splice, partA, eq_self, List.replicate_succ, List.replicate_zero, List.set_cons_zero, List.set_cons_succ, List.getElem?_cons_zero, List.getElem?_cons_succ, List.drop_zero, List.drop_succ_cons, List.drop_nil, List.take_zero, List.take_succ_cons, List.take_nil, Option.getD_some, map_c, map_n, List.length_cons, List.length_nil, Nat.reduceAdd, Nat.reduceSub, Nat.reduceLeDiff, Nat.reduceEqDiff, Nat.zero_add, List.cons_append, List.nil_append, List.append_nil, if_true, if_false, ne_eq, not_true_eq_false]
    refine CallK.of (hc3) ?_
    simp (maxSteps := 4000000) -implicitDefEqProofs -dsimp (disch := omega) only [↓AW_ops, ↓AW_seq, ↓AOps_nil, ↓AOps_pu, ↓AOps_call, on_some, extK_false, ↓then_normal, pval, rd_S, rd_C, put_S, chkd, bput, bgot, AV.cells?, splice, partA, eq_self, List.replicate_succ, List.replicate_zero, List.set_cons_zero, List.set_cons_succ, List.getElem?_cons_zero, List.getElem?_cons_succ, List.drop_zero, List.drop_succ_cons, List.drop_nil, List.take_zero, List.take_succ_cons, List.take_nil, Option.getD_some, map_c, map_n, List.length_cons, List.length_nil, Nat.reduceAdd, Nat.reduceSub, Nat.reduceLeDiff, Nat.reduceEqDiff, Nat.zero_add, List.cons_append, List.nil_append, List.append_nil, if_true, if_false, ne_eq, not_true_eq_false]
    have hA2 := hn2.mono p3
    refine CallK.of (s31 hA2 hn3.ll hs2) ?_
    rw [decide_eq_true (⟨rfl, by rw [hl2, hl3]⟩ : tuP P (lists ws) = tuP P (lists ws) ∧ lists ws2 = lists ws3)]
    simp (maxSteps := 4000000) -implicitDefEqProofs -dsimp (disch := omega) only [↓AOps_pu, ↓AOps_call, ↓AOps_guard, on_some, extK_same, guardB_ff, pval, rd_S, rd_C, put_S, chkd, bgot, partA, eq_self, List.replicate_succ, List.replicate_zero, List.set_cons_zero, List.set_cons_succ, List.getElem?_cons_zero, List.getElem?_cons_succ, List.drop_zero, List.take_succ_cons, List.take_nil, Option.getD_some, map_c, map_n, List.length_cons, List.length_nil, Nat.reduceAdd, Nat.reduceSub, Nat.reduceLeDiff, Nat.reduceEqDiff, Nat.zero_add, List.cons_append, List.nil_append, bin_neq, if_true, if_false, Bool.false_eq_true, Bool.not_true, decide_false, not_true_eq_false]
    refine CallK.of (s31 (hn1.ll.mono (p2.trans p3)) (hw.mono p13) hs1) ?_
    rw [decide_eq_true (⟨rfl, hl1⟩ : P = P ∧ lists ws1 = lists ws)]
    by_cases hE : tuE P (lists ws) = 0
    · have h0 : vW P (lists ws) = 0 := by
        unfold tuE at hE
        split at hE
        · assumption
        · exact hE
      have hz : (lists ws).length ≠ 0 := by
        unfold tuE at hE
        rw [if_pos h0] at hE
        intro h1
        rw [if_pos h1] at hE
        cases hE
      have hv := val_of h0
      have hP := hv.hP
      have hv2 := val_trn hv hz
      have e1 : tuP P (lists ws) = (lists ws).length := by unfold tuP; rw [if_pos hE]
      have e2 : tuL P (lists ws) = trn P (lists ws) := by unfold tuL; rw [if_pos hE]
      have e3 : lists ws2 = trn P (lists ws) := by rw [hl2, e2]
      have m24 := s24 (P := ((lists ws).length : Int)) hA2 hs2
      rw [e3] at m24
      have hm1 : mostN ((lists ws).length : Int) (trn P (lists ws)) = most P (lists ws) := by
        unfold mostN
        rw [if_pos (vW_of hv2), most_trn (by omega) (fun l hl => (hv.l l hl).1)]
      have hm2 : mostN P (lists ws) = most P (lists ws) := by unfold mostN; rw [if_pos h0]
      rw [hm1, vW_of hv2] at m24
      rw [e1]
      generalize ((lists ws).length : Int) = n at *
      simp (maxSteps := 4000000) -implicitDefEqProofs -dsimp (disch := omega) only [↓AW_skip, ↓AW_ops, ↓AW_seq, ↓AW_cond, ↓AOps_nil, ↓AOps_pu, ↓AOps_call, ↓AOps_guard, on_some, extK_same, guardB_ff, condB_f, ↓then_normal, pval, rd_S, rd_C, put_S, chkd, bgot, partA, eq_self, List.replicate_succ, List.replicate_zero, List.set_cons_zero, List.set_cons_succ, List.getElem?_cons_zero, List.getElem?_cons_succ, List.drop_zero, List.take_succ_cons, List.take_nil, Option.getD_some, map_c, map_n, List.length_cons, List.length_nil, Nat.reduceAdd, Nat.reduceSub, Nat.reduceLeDiff, Nat.reduceEqDiff, Nat.zero_add, List.cons_append, List.nil_append, bin_neq, if_true, if_false, Bool.false_eq_true, Bool.not_true, decide_false, not_true_eq_false, hE]
      refine CallK.of m24 ?_
      simp (maxSteps := 4000000) -implicitDefEqProofs -dsimp (disch := omega) only [↓AW_ops, ↓AW_seq, ↓AOps_nil, ↓AOps_pu, ↓AOps_call, on_some, extK_same, ↓then_normal, pval, rd_S, put_S, chkd, bgot, partA, eq_self, List.replicate_succ, List.replicate_zero, List.set_cons_zero, List.set_cons_succ, List.getElem?_cons_zero, List.getElem?_cons_succ, List.drop_zero, List.take_succ_cons, List.take_nil, Option.getD_some, map_c, map_n, List.length_cons, List.length_nil, Nat.reduceAdd, Nat.reduceSub, Nat.reduceLeDiff, Nat.reduceEqDiff, Nat.zero_add, List.cons_append, List.nil_append, if_true, if_false]
      refine CallK.of (s24 (hw.mono p13) hs) ?_
      rw [hm2, h0]
      simp (maxSteps := 4000000) -implicitDefEqProofs -dsimp (disch := omega) only [↓AW_ops, ↓AW_seq, ↓AOps_nil, ↓AOps_pu, ↓AOps_call, ↓AOps_guard, on_some, extK_same, guardB_tt, ↓then_normal, pval, rd_S, rd_C, put_S, eq_self, List.replicate_succ, List.replicate_zero, List.set_cons_zero, List.set_cons_succ, List.getElem?_cons_zero, List.getElem?_cons_succ, Option.getD_some, map_n, Nat.reduceSub, List.cons_append, List.nil_append, bin_eql, if_true, decide_true]
      refine CallK.of (known H3) ?_
      simp (maxSteps := 4000000) -implicitDefEqProofs -dsimp (disch := omega) only [↓AW_ret, ↓AOps_nil, ↓AOps_pu, on_some, extK_same, ↓then_normal, ↓Fin_ret, pval, rd_S, rd_C, put_S, resV, resL, eq_self, List.replicate_succ, List.replicate_zero, List.set_cons_zero, List.set_cons_succ, List.getElem?_cons_zero, List.getElem?_cons_succ, Option.getD_some, Nat.reduceSub, List.cons_append, List.nil_append, if_true]
      exact gc_val p13 rfl
    · simp (maxSteps := 4000000) -implicitDefEqProofs -dsimp (disch := omega) only [↓AW_skip, ↓AW_ops, ↓AW_seq, ↓AW_cond, ↓AOps_nil, ↓AOps_pu, ↓AOps_call, ↓AOps_guard, on_some, extK_same, guardB_ff, condB_t, condB_f, ↓then_normal, pval, rd_S, rd_C, put_S, List.replicate_succ, List.replicate_zero, List.set_cons_zero, List.set_cons_succ, List.getElem?_cons_zero, List.getElem?_cons_succ, Option.getD_some, map_n, Nat.reduceSub, List.cons_append, List.nil_append, bin_neq, if_false, Bool.false_eq_true, Bool.not_true, decide_true, not_false_eq_true, hE]
      refine CallK.of (known H3) ?_
      simp (maxSteps := 4000000) -implicitDefEqProofs -dsimp (disch := omega) only [↓AW_ret, ↓AOps_nil, ↓AOps_pu, on_some, extK_same, ↓then_normal, ↓then_ret, ↓Fin_ret, pval, rd_S, put_S, resV, resL, List.replicate_succ, List.replicate_zero, List.set_cons_zero, List.set_cons_succ, List.getElem?_cons_zero, List.getElem?_cons_succ, Option.getD_some, Nat.reduceSub, List.cons_append, List.nil_append]
      exact gc_val p13 rfl
end Go.Proofs.Ytlmbobbefgcolaa

