/- Wishes: the wishes without a place. No conditions. -/
import Derived.Test.YtlmbobbefgcolaaW16
import Derived.Test.YtlmbobbefgcolaaW14
import Derived.Test.YtlmbobbefgcolaaS4
namespace Go.Proofs.Ytlmbobbefgcolaa
open Go Go.Eng

/-- The wishes without a place, which keeps its number. -/
def wop (ls : List (List Int)) (p : Int) : List (List Int) := ls.map (fun l => without l p)

theorem nil_of {xs : List Int} {A : AHeap} (h : L1 A .nilS xs) : xs = [] := by
  have := h.hc
  simp [slCells] at this
  exact List.eq_nil_of_length_eq_zero this.1.symm

theorem c_IndexFunc_nil (A : AHeap) (f : FuncId) (cap : List AV) : ACalls Try.prog 87 [.nilS, .fn f cap] A (I (-1)) A :=
  c_IndexFunc (L1_nil A) (by simp) f cap (fun _ => false) (by simp)

theorem s90n (A : AHeap) (f : FuncId) (cap : List AV) : ACalls Try.prog 90 [.nilS, .fn f cap] A .nilS A := by
  refine acalls hmix Try.func90 (by kernel_rfl) t90 2 rfl (by decide) ?_
  dsimp only [m90]
  simp (maxSteps := 4000000) -implicitDefEqProofs -dsimp (disch := omega) only [↓AW_ops, ↓AW_seq, ↓AOps_nil, ↓AOps_pu, ↓AOps_call, on_some, ↓then_normal, pval, rd_S, rd_C, put_S, List.replicate_succ, List.replicate_zero, List.set_cons_zero, List.set_cons_succ, List.getElem?_cons_zero, List.getElem?_cons_succ, Option.getD_some, map_c, map_n, Nat.reduceSub, List.cons_append, List.nil_append]
  refine CallK.of (c_IndexFunc_nil A f cap) ?_
  simp (maxSteps := 4000000) -implicitDefEqProofs -dsimp (disch := omega) only [↓AW_ops, ↓AW_seq, ↓AW_cond, ↓AW_ret, ↓AOps_nil, ↓AOps_pu, on_some, extK_same, condB_t, ↓then_normal, ↓then_ret, ↓Fin_ret, pval, rd_S, rd_C, put_S, resV, resL, eq_self, List.replicate_succ, List.replicate_zero, List.set_cons_zero, List.set_cons_succ, List.getElem?_cons_zero, List.getElem?_cons_succ, Option.getD_some, Nat.reduceSub, List.cons_append, List.nil_append, bin_eql, decide_true, Int.reduceNeg]
  exact gc_same rfl

/-- Where the rows of a list of lists stand: each in an object of its own that the call has made, with more cells behind. -/
structure NR (A H : AHeap) (u : AV) (x : AV × List Int) : Prop where
  row : (x.1 = .nilS ∧ x.2 = []) ∨ ∃ n full cs, x.1 = .sl 1 n 0 x.2.length full ∧ A.length ≤ n ∧ H[n]? = some (.cells true (x.2.flatMap e1 ++ cs)) ∧ nm u ≠ n

theorem NR.l1 {A H : AHeap} {u : AV} {x : AV × List Int} (h : NR A H u x) : L1 H x.1 x.2 := by
  rcases h.row with ⟨h1, h2⟩ | ⟨n, full, cs, h1, _, h3, _⟩
  · rw [h1, h2]; exact L1_nil _
  · rw [h1]
    refine ⟨e1_len, ?_⟩
    have hl := flatMap_length e1_len x.2
    simp only [slCells, cellsAt, h3, if_true, Nat.zero_add]
    rw [if_pos (by rw [List.length_append]; omega)]
    simp only [List.drop_zero, Option.map_some, Option.some.injEq, Prod.mk.injEq, true_and]
    rw [← hl, List.take_left]

/-- Rows stand in different objects. -/
def Apart (ws : List (AV × List Int)) : Prop := ws.Pairwise (fun x y => x.1 = .nilS ∨ y.1 = .nilS ∨ nm x.1 ≠ nm y.1)

/-- A list of lists that the call has made. -/
structure NL (A H : AHeap) (u : AV) (ws : List (AV × List Int)) : Prop where
  acc : AccL 1 e0 A H u ws
  rows : ∀ x ∈ ws, NR A H u x
  apart : Apart ws

theorem NL.ll {A H : AHeap} {u : AV} {ws : List (AV × List Int)} (h : NL A H u ws) : LL H u ws := ⟨AccL_ls h.acc e0_len, fun x hx => (h.rows x hx).l1⟩

theorem NL.nil {A H : AHeap} (h : A <+: H) : NL A H .nilS [] := ⟨AccL.nil h, by simp, List.Pairwise.nil⟩

/-- One row more. -/
theorem NL.push {A H : AHeap} {u : AV} {ws : List (AV × List Int)} (h : NL A H u ws) (x : AV × List Int) (hx : (x.1 = .nilS ∧ x.2 = [] ∧ True) ∨ ∃ n full cs, x.1 = .sl 1 n 0 x.2.length full ∧ A.length ≤ n ∧ H[n]? = some (.cells true (x.2.flatMap e1 ++ cs)) ∧ nm u ≠ n ∧ ∀ y ∈ ws, y.1 = .nilS ∨ nm y.1 ≠ n) (hl : ws.length + 1 ≤ lim) :
    ∃ v' H2, appA 1 (H ++ [.cells true [x.1]]) u (.sl 1 H.length 0 1 true) = some (v', H2) ∧ NL A H2 v' (ws ++ [x]) := by
  obtain ⟨v', H2, h1, h2, h3, n', len', h4, h5⟩ := AccL_push2 h.acc e0_len (by omega) x hl
  have hold : ∀ (y : AV × List Int), NR A H u y → NR A H2 v' y := by
    intro y hy
    refine ⟨?_⟩
    rcases hy.row with h6 | ⟨n, full, cs, g1, g2, g3, g4⟩
    · exact .inl h6
    · have hn := (List.getElem?_eq_some_iff.1 g3).1
      refine .inr ⟨n, full, cs, g1, g2, h3 n _ g3 (fun k len hk hnk => ?_), ?_⟩
      · rw [hk] at g4; exact g4 hnk.symm
      · rw [h4]; simp only [nm]; omega
  have hxr : NR A H u x := by
    refine ⟨?_⟩
    rcases hx with ⟨a, b, _⟩ | ⟨n, full, cs, g1, g2, g3, g4, _⟩
    · exact .inl ⟨a, b⟩
    · exact .inr ⟨n, full, cs, g1, g2, g3, g4⟩
  refine ⟨v', H2, h1, h2, fun y hy => ?_, ?_⟩
  · rcases List.mem_append.1 hy with hy | hy
    · exact hold y (h.rows y hy)
    · have : y = x := by simpa using hy
      rw [this]; exact hold x hxr
  · unfold Apart
    rw [List.pairwise_append]
    refine ⟨h.apart, by simp, fun a ha b hb => ?_⟩
    have : b = x := by simpa using hb
    subst this
    rcases hx with ⟨g1, _⟩ | ⟨n, full, cs, g1, _, _, _, g5⟩
    · exact .inr (.inl g1)
    · rcases g5 a ha with g | g
      · exact .inl g
      · refine .inr (.inr ?_)
        rw [g1]; exact g

theorem NL.mono {A H H' : AHeap} {u : AV} {ws : List (AV × List Int)} (h : NL A H u ws) (hp : H <+: H') : NL A H' u ws := by
  refine ⟨h.acc.mono hp, fun x hx => ⟨?_⟩, h.apart⟩
  rcases (h.rows x hx).row with h6 | ⟨n, full, cs, g1, g2, g3, g4⟩
  · exact .inl h6
  · exact .inr ⟨n, full, cs, g1, g2, pre_get hp g3, g4⟩

theorem NL.lt {A H : AHeap} {u : AV} {ws : List (AV × List Int)} (h : NL A H u ws) : (∀ y ∈ ws, y.1 = .nilS ∨ nm y.1 < H.length) ∧ (ws = [] ∨ nm u < H.length) := by
  refine ⟨fun y hy => ?_, ?_⟩
  · rcases (h.rows y hy).row with ⟨h6, _⟩ | ⟨n, full, cs, g1, g2, g3, g4⟩
    · exact .inl h6
    · right; rw [g1]; exact (List.getElem?_eq_some_iff.1 g3).1
  · rcases h.acc.2.2 with ⟨h3, _⟩ | ⟨h3, n, h4, h5, h6⟩
    · exact .inl (List.eq_nil_of_length_eq_zero h3)
    · right; rw [h4]; exact (List.getElem?_eq_some_iff.1 h6).1

theorem NL.base {A0 A H : AHeap} {u : AV} {ws : List (AV × List Int)} (hp : A0 <+: A) (h : NL A H u ws) : NL A0 H u ws := by
  refine ⟨AccL_base0 hp h.acc, fun x hx => ⟨?_⟩, h.apart⟩
  rcases (h.rows x hx).row with h6 | ⟨n, full, cs, g1, g2, g3, g4⟩
  · exact .inl h6
  · exact .inr ⟨n, full, cs, g1, Nat.le_trans hp.length_le g2, g3, g4⟩

theorem Ls_cells {α : Type} {es : Nat} {e : α → List AV} {A : AHeap} {u : AV} {xs : List α} (h : Ls es e A u xs) : u.cells? = some [u] := by
  rcases h.inv with ⟨rfl, _⟩ | ⟨n, off, full, rw, l, rfl, _⟩ <;> rfl

theorem wop_take {ls : List (List Int)} {i : Nat} {l : List Int} (p : Int) (h : ls[i]? = some l) : wop (ls.take (i + 1)) p = wop (ls.take i) p ++ [without l p] := by
  unfold wop
  rw [List.take_add_one, h, List.map_append]; rfl

theorem nm_ne_nil {A H : AHeap} {u : AV} {ws : List (AV × List Int)} (h : NL A H u ws) {n : Nat} (hn : H.length ≤ n) (hu : 0 < A.length) : nm u ≠ n := by
  rcases h.acc.2.2 with ⟨_, h4⟩ | ⟨_, m, h4, _, h6⟩
  · rw [h4]; simp only [nm]
    have := h.acc.1.length_le
    omega
  · rw [h4]; have := (List.getElem?_eq_some_iff.1 h6).1; simp only [nm]; omega

theorem s59 {P p : Int} {ws : List (AV × List Int)} {v : AV} {A : AHeap} (hw : LL A v ws) (hs : Sz ws) :
    ∃ r H', ACalls Try.prog 59 [.agg [I P, v], I p] A r H' ∧ ∃ v' ws', r = .agg [I P, v'] ∧ A <+: H' ∧ NL A H' v' ws' ∧ lists ws' = wop (lists ws) p := by
  refine acallsR hmix Try.func59 (by kernel_rfl) t59 _ 2 rfl (by decide) ?_
  have hs1 := hs.1
  have hpA := pre_app A [AObj.cells true [I p]]
  dsimp only [m59]
  simp (maxSteps := 4000000) -implicitDefEqProofs -dsimp (disch := omega) only [↓AW_ops, ↓AW_seq, ↓AW_block, ↓AOps_nil, ↓AOps_pu, ↓AOps_ha, on_some, extK_app, ↓then_normal, pval, hval_newv, rd_S, rd_C, put_S, ↓AW_toLoop, chkd, isAdr, bput, bgot, cells_agg, cells_int, splice, partA, fillA, eq_self, List.replicate_succ, List.replicate_zero, List.set_cons_zero, List.set_cons_succ, List.getElem?_cons_zero, List.getElem?_cons_succ, List.drop_zero, List.drop_succ_cons, List.drop_nil, List.take_zero, List.take_succ_cons, List.take_nil, Option.getD_some, Option.map_some, map_c, map_n, List.length_cons, List.length_nil, Nat.reduceAdd, Nat.reduceSub, Nat.reduceLeDiff, Nat.zero_add, List.cons_append, List.nil_append, List.append_nil, if_true, if_false, Bool.false_eq_true, and_true, ne_eq, not_true_eq_false, hw.ls.len]
  refine LoopK.by 29 (fun x : Nat × AV × AHeap × List (AV × List Int) => (x.1 ≤ ws.length ∧ x.2.2.2.length = x.1) ∧ (A ++ [.cells true [I p]]) <+: x.2.2.1 ∧ NL (A ++ [.cells true [I p]]) x.2.2.1 x.2.1 x.2.2.2 ∧ lists x.2.2.2 = wop ((lists ws).take x.1) p)
    (fun x => [(3, .ptr A.length 0), (4, .agg [.int .i64 0, .nilS]), (5, .agg [I P, x.2.1]), (12, v), (13, I ws.length), (14, I x.1)]) (fun x => x.2.2.1) (fun x => ws.length - x.1) (0, .nilS, A ++ [.cells true [I p]], []) ⟨⟨by simp only; omega, rfl⟩, List.prefix_refl _, NL.nil (List.prefix_refl _), by simp [wop]⟩ rfl (by simp [Has, rd_s]) rfl ?_
  rintro ⟨i, u, H1, ws1⟩ ⟨⟨hi, hwl⟩, hp1, hnl, hli⟩
  simp only at hi hwl hp1 hnl hli
  have hw1 := hw.mono (hpA.trans hp1)
  by_cases hlt : i < ws.length
  · obtain ⟨x, hz⟩ : ∃ z, ws[i]? = some z := ⟨_, List.getElem?_eq_getElem hlt⟩
    have hlt' : (i : Int) < ws.length := by omega
    have hm := List.mem_of_getElem? hz
    have hx := hw1.inn x hm
    have hx2 := hs.2 x hm
    have hld : ldA 1 false (.ptr A.length 0) H1 = some (I p) := ld_mono hp1 (ld_new A _ _)
    have hA0 : 0 < (A ++ [AObj.cells true [I p]]).length := by simp
    have hAl : A.length < H1.length := by have := hp1.length_le; simp at this; omega
    have hwt := wop_take p (ws_get hz)
    have hll : (lists ws).length = ws.length := by simp
    by_cases hn : x.1 = .nilS
    · have hxe : x.2 = [] := nil_of (by rw [← hn]; exact hx)
      obtain ⟨v3, H3, happ, h3⟩ := hnl.push (.nilS, []) (.inl ⟨rfl, rfl, trivial⟩) (by simp [lim]; omega)
      simp only at happ
      have h83 := s83n H1
      simp (maxSteps := 4000000) -implicitDefEqProofs -dsimp (disch := omega) only [↓AW_skip, ↓AW_ops, ↓AW_seq, ↓AW_cond, ↓AW_block, ↓AOps_nil, ↓AOps_pu, ↓AOps_ld, ↓AOps_call, on_some, condB_t, ↓then_normal, pval, lval, rd_S, put_S, chkd, isAdr, bgot, cells_agg, partA, eq_self, mk, List.foldl_cons, List.foldl_nil, List.replicate_succ, List.replicate_zero, List.set_cons_zero, List.set_cons_succ, List.getElem?_cons_zero, List.getElem?_cons_succ, List.drop_zero, List.drop_succ_cons, List.take_succ_cons, List.take_nil, Option.getD_some, map_c, map_n, List.length_cons, List.length_nil, Nat.reduceAdd, Nat.reduceLeDiff, Nat.zero_add, bin_lss, if_true, if_false, Bool.false_eq_true, decide_true, hlt', hw1.ls.idx hlt, hw1.ls.ld0 hz 1 false (by decide), e0, hn]
      refine CallK.of (h83) ?_
      simp (maxSteps := 4000000) -implicitDefEqProofs -dsimp (disch := omega) only [↓AOps_pu, ↓AOps_call, on_some, extK_same, pval, rd_S, put_S, mk, List.foldl_cons, List.foldl_nil, List.replicate_succ, List.replicate_zero, List.set_cons_zero, List.set_cons_succ, List.getElem?_cons_zero, List.getElem?_cons_succ, Option.getD_some, map_c, map_n]
      have hc3 := Ls_cells (AccL_ls h3.acc e0_len)
      refine CallK.of (s90n H1 91 [.ptr A.length 0]) ?_
      simp (maxSteps := 4000000) -implicitDefEqProofs -dsimp (disch := omega) only [↓AW_ops, ↓AOps_nil, ↓AOps_pu, ↓AOps_ha, on_some, extK_false, extK_app, extK_same, ↓then_normal, ↓inBlock_normal, pval, hval_blds, hval_app, rd_S, rd_C, put_S, chkd, isAdr, bput, cells_agg, cells_nilS, splice, fillA, repl, eq_self, mk, List.foldl_cons, List.foldl_nil, List.replicate_succ, List.replicate_zero, List.set_cons_zero, List.set_cons_succ, List.getElem?_cons_zero, List.getElem?_cons_succ, List.drop_succ_cons, List.drop_nil, List.take_zero, List.take_succ_cons, Option.getD_some, map_c, map_n, List.length_cons, List.length_nil, Nat.reduceAdd, Nat.reduceLeDiff, Nat.zero_add, List.cons_append, List.nil_append, List.append_nil, bin_add, w64, if_true, if_false, true_and, and_true, ne_eq, not_true_eq_false, happ, hc3]
      refine ⟨(i + 1, v3, H3, ws1 ++ [(.nilS, [])]), ⟨⟨hlt, by simp [hwl]⟩, h3.acc.1, h3, ?_⟩, by simp [Has, rd_s], rfl, by simp only; omega⟩
      simp only [lists, List.map_append, List.map_cons, List.map_nil]
      rw [show List.map Prod.snd ws1 = wop ((lists ws).take i) p from hli, hwt, hxe]
      rfl
    · simp (maxSteps := 4000000) -implicitDefEqProofs -dsimp (disch := omega) only [↓AW_skip, ↓AW_ops, ↓AW_seq, ↓AW_cond, ↓AW_block, ↓AOps_nil, ↓AOps_pu, ↓AOps_ld, ↓AOps_call, on_some, condB_t, ↓then_normal, pval, lval, rd_S, put_S, chkd, isAdr, bgot, cells_agg, partA, eq_self, mk, List.foldl_cons, List.foldl_nil, List.replicate_succ, List.replicate_zero, List.set_cons_zero, List.set_cons_succ, List.getElem?_cons_zero, List.getElem?_cons_succ, List.drop_zero, List.drop_succ_cons, List.take_succ_cons, List.take_nil, Option.getD_some, map_c, map_n, List.length_cons, List.length_nil, Nat.reduceAdd, Nat.reduceLeDiff, Nat.zero_add, bin_lss, if_true, if_false, Bool.false_eq_true, decide_true, hlt', hw1.ls.idx hlt, hw1.ls.ld0 hz 1 false (by decide), e0]
      refine CallK.of (s83 hx hn (by omega)) ?_
      have hOL := OL.new_mk e1_len H1 x.2 false
      have h90 := s90 (p := p) hOL (by omega) (show A.length ≠ H1.length by omega) (ld_mono (pre_app _ _) hld)
      rw [set_new] at h90
      have hwle := without_le x.2 p
      obtain ⟨f', hf'⟩ : ∃ f', (false && ((without x.2 p).length == x.2.length)) = f' := ⟨_, rfl⟩
      rw [hf'] at h90
      have hp3 := pre_app H1 [AObj.cells true ((without x.2 p ++ List.replicate (x.2.length - (without x.2 p).length) 0).flatMap Go.Eng.e1)]
      obtain ⟨v3, H3, happ, h3⟩ := (hnl.mono hp3).push (.sl 1 H1.length 0 (without x.2 p).length f', without x.2 p) (.inr ⟨H1.length, f', (List.replicate (x.2.length - (without x.2 p).length) 0).flatMap Go.Eng.e1, rfl, hp1.length_le, by rw [get_new, List.flatMap_append], nm_ne_nil hnl (Nat.le_refl _) hA0, fun y hy => (hnl.lt.1 y hy).imp id (fun h => by omega)⟩) (by simp [lim]; omega)
      simp only at happ
      simp (maxSteps := 4000000) -implicitDefEqProofs -dsimp (disch := omega) only [↓AOps_pu, ↓AOps_call, on_some, extK_app, pval, rd_S, put_S, mk, List.foldl_cons, List.foldl_nil, List.replicate_succ, List.replicate_zero, List.set_cons_zero, List.set_cons_succ, List.getElem?_cons_zero, List.getElem?_cons_succ, Option.getD_some, map_c, map_n]
      have hc3 := Ls_cells (AccL_ls h3.acc e0_len)
      refine CallK.of (h90) ?_
      simp (maxSteps := 4000000) -implicitDefEqProofs -dsimp (disch := omega) only [↓AW_ops, ↓AOps_nil, ↓AOps_pu, ↓AOps_ha, on_some, extK_false, extK_app, ↓then_normal, ↓inBlock_normal, pval, hval_blds, hval_app, rd_S, rd_C, put_S, chkd, isAdr, bput, cells_agg, cells_sl, splice, fillA, repl, eq_self, mk, List.foldl_cons, List.foldl_nil, List.replicate_succ, List.replicate_zero, List.set_cons_zero, List.set_cons_succ, List.getElem?_cons_zero, List.getElem?_cons_succ, List.drop_succ_cons, List.drop_nil, List.take_zero, List.take_succ_cons, Option.getD_some, map_c, map_n, List.length_cons, List.length_nil, Nat.reduceAdd, Nat.reduceLeDiff, Nat.zero_add, List.cons_append, List.nil_append, List.append_nil, bin_add, w64, if_true, if_false, true_and, and_true, ne_eq, not_true_eq_false, happ, hc3]
      refine ⟨(i + 1, v3, H3, ws1 ++ [(.sl 1 H1.length 0 (without x.2 p).length f', without x.2 p)]), ⟨⟨hlt, by simp [hwl]⟩, h3.acc.1, h3, ?_⟩, by simp [Has, rd_s], rfl, by simp only; omega⟩
      simp only [lists, List.map_append, List.map_cons, List.map_nil]
      rw [show List.map Prod.snd ws1 = wop ((lists ws).take i) p from hli, hwt]
  · have hlt' : ¬ ((i : Int) < ws.length) := by omega
    rw [List.take_of_length_le (by simp; omega)] at hli
    simp (maxSteps := 4000000) -implicitDefEqProofs -dsimp (disch := omega) only [↓AW_ops, ↓AW_seq, ↓AW_cond, ↓AW_exit, ↓AW_ret, ↓AOps_nil, ↓AOps_pu, on_some, condB_f, ↓then_normal, ↓then_exit, ↓inBlock_exit, ↓FinR_ret, pval, rd_S, put_S, resV, resL, chkd, bput, bgot, cells_agg, splice, partA, eq_self, mk, List.foldl_cons, List.foldl_nil, List.replicate_succ, List.replicate_zero, List.set_cons_zero, List.set_cons_succ, List.getElem?_cons_zero, List.getElem?_cons_succ, List.drop_zero, List.drop_succ_cons, List.drop_nil, List.take_zero, List.take_succ_cons, List.take_nil, Option.getD_some, List.length_cons, List.length_nil, Nat.reduceAdd, Nat.reduceLeDiff, Nat.reduceEqDiff, Nat.zero_add, List.nil_append, List.append_nil, bin_lss, if_true, if_false, decide_false, ne_eq, not_true_eq_false, hlt']
    exact ⟨_, _, gc_all, u, ws1, rfl, hpA.trans hp1, hnl.base hpA, hli⟩

end Go.Proofs.Ytlmbobbefgcolaa
