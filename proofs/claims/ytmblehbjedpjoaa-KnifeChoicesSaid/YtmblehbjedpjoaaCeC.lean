/- What the law's proof rests on, part 5: for all that is said in each line. No conditions. -/
import Derived.Test.YtmblehbjedpjoaaCeB
namespace Go.Proofs.Ytmblehbjedpjoaa
open Go Go.Eng
/-- A piece: an owner and two places. -/
structure Pc where
  o : Int
  r : Int × Int
  s : Int × Int
  deriving DecidableEq
def e5 (p : Pc) : List AV := [I p.o, I p.r.1, I p.r.2, I p.s.1, I p.s.2]
abbrev L5 := Ls 5 e5
theorem e5_len (p : Pc) : (e5 p).length = 5 := rfl
def eb (b : Bool) : List AV := [.bool b]
theorem eb_len (b : Bool) : (eb b).length = 1 := rfl
theorem repl_eb (b : Bool) : ∀ n, repl [AV.bool b] n = (List.replicate n b).flatMap eb
  | 0 => rfl
  | n + 1 => by rw [repl, repl_eb b n, List.replicate_succ, List.flatMap_cons]; rfl
/-- Where a piece must begin. -/
def atI (pcs : List Pc) (i : Nat) : Int × Int := match (pcs.take i).getLast? with | some p => p.s | none => (0, 1)
theorem atI_zero (pcs : List Pc) : atI pcs 0 = (0, 1) := rfl
theorem atI_succ {pcs : List Pc} {i : Nat} {p : Pc} (h : pcs[i]? = some p) : atI pcs (i + 1) = p.s := by
  unfold atI
  rw [List.take_add_one, h, Option.toList_some, List.getLast?_concat]
def CPi (L : List Int) (V : List (List Int)) (pcs : List Pc) (i : Nat) (p : Pc) : Prop :=
  (0 ≤ p.o ∧ p.o ≤ (V.length : Int) - 1) ∧ p.o ∉ (pcs.take i).map Pc.o ∧ isK L p.r ∧ isK L p.s ∧ p.r = atI pcs i ∧ ¬ qr p.s < qr p.r
instance (L : List Int) (V : List (List Int)) (pcs : List Pc) (i : Nat) (p : Pc) : Decidable (CPi L V pcs i p) := by unfold CPi; exact inferInstance
/-- The common denominator, step by step; one more than the greatest if it is too great. -/
def cmn : Int → List Int → Int
  | out, [] => out
  | out, d :: ds => if 1000000 < out / (Int.gcd out d : Int) * d then 1000001 else cmn (out / (Int.gcd out d : Int) * d) ds
def plcs (pcs : List Pc) : List (Int × Int) := pcs.flatMap fun p => [p.r, p.s]
def CP (L : List Int) (V : List (List Int)) (pcs : List Pc) : Prop :=
  pcs.length = V.length ∧ (∀ i, (h : i < pcs.length) → CPi L V pcs i pcs[i]) ∧ atI pcs pcs.length = (L.sum, 1) ∧ cmn 1 ((plcs pcs).map Prod.snd) ≤ 1000000
instance (L : List Int) (V : List (List Int)) (pcs : List Pc) : Decidable (CP L V pcs) := by unfold CP; exact inferInstance
def cpE (L : List Int) (V : List (List Int)) (pcs : List Pc) : Int := if kE L V = 0 then (if CP L V pcs then 0 else 1) else kE L V
theorem gcd_div {out d : Int} (h0 : 0 < out) (hd : 0 < d) : out.tdiv (Int.gcd out d) = out / (Int.gcd out d : Int) ∧ 0 < out / (Int.gcd out d : Int) ∧ out / (Int.gcd out d : Int) ≤ out := by
  obtain ⟨g1, g2⟩ := gcd_pos (a := out) hd
  obtain ⟨x, hx⟩ := Int.gcd_dvd_left out d
  generalize (Int.gcd out d : Nat) = g at *
  have hg : (0 : Int) < g := by omega
  refine ⟨Int.tdiv_eq_ediv_of_nonneg (by omega), ?_, ?_⟩
  · rw [hx, Int.mul_ediv_cancel_left _ (by omega)]
    rcases Int.lt_or_le 0 x with h | h
    · exact h
    · have := Int.mul_nonpos_of_nonneg_of_nonpos (Int.le_of_lt hg) h; omega
  · exact Int.ediv_le_self _ (by omega)
theorem c_Common {rs : List (Int × Int)} {v : AV} {A : AHeap} (hr : L2 A v rs) (hl : rs.length ≤ 1000000) (hd : ∀ r ∈ rs, 1 ≤ r.2 ∧ r.2 ≤ 1000000) : ACalls Try.prog 90 [v, I 1000000] A (I (cmn 1 (rs.map Prod.snd))) A := by
  refine acalls hmix Try.func90 (by kernel_rfl) t90 2 rfl (by decide) ?_
  dsimp only [m90]
  simp (maxSteps := 4000000) -implicitDefEqProofs -dsimp (disch := omega) only [↓AW_ops, ↓AW_seq, ↓AW_block, ↓AOps_nil, ↓AOps_pu, on_some, ↓then_normal, pval, rd_S, rd_C, put_S, ↓AW_toLoop, List.replicate_succ, List.replicate_zero, List.set_cons_zero, List.set_cons_succ, List.getElem?_cons_zero, List.getElem?_cons_succ, Option.getD_some, Nat.reduceSub, List.cons_append, List.nil_append, hr.len]
  revert hl
  intro _
  refine LoopK.by 30 (fun x : Nat × Int => x.1 ≤ rs.length ∧ (1 ≤ x.2 ∧ x.2 ≤ 1000000) ∧ cmn 1 (rs.map Prod.snd) = cmn x.2 ((rs.drop x.1).map Prod.snd)) (fun x => [(1, I 1000000), (5, I x.2), (8, v), (9, I rs.length), (10, I x.1)]) (fun _ => A) (fun x => rs.length - x.1) (0, 1) ⟨by omega, by omega, by simp⟩ rfl (by simp [Has, rd_s]) rfl ?_
  rintro ⟨i, out⟩ ⟨hi, ho, he⟩
  simp only at hi ho he
  by_cases hlt : i < rs.length
  · obtain ⟨z, hz⟩ : ∃ z, rs[i]? = some z := ⟨_, List.getElem?_eq_getElem hlt⟩
    have hlt' : (i : Int) < rs.length := by omega
    have hz2 := hd z (List.mem_of_getElem? hz)
    have hdr : rs.drop i = z :: rs.drop (i + 1) := by
      have := (List.getElem?_eq_some_iff.1 hz).2
      rw [← this]; exact List.drop_eq_getElem_cons hlt
    rw [hdr, List.map_cons, cmn] at he
    obtain ⟨q1, q2, q3⟩ := gcd_div (out := out) (d := z.2) (by omega) (by omega)
    have hg0 : ¬ (Int.gcd out z.2 : Int) = 0 := by have := gcd_pos (a := out) (b := z.2) (by omega); omega
    simp (maxSteps := 4000000) -implicitDefEqProofs -dsimp (disch := omega) only [↓AW_skip, ↓AW_ops, ↓AW_seq, ↓AW_cond, ↓AW_block, ↓AOps_nil, ↓AOps_pu, ↓AOps_ld, ↓AOps_call, on_some, condB_t, ↓then_normal, pval, lval, rd_S, rd_C, put_S, chkd, isAdr, bput, bgot, AV.cells?, splice, partA, eq_self, mk, List.foldl_cons, List.foldl_nil, List.replicate_succ, List.replicate_zero, List.set_cons_zero, List.set_cons_succ, List.getElem?_cons_zero, List.getElem?_cons_succ, List.drop_zero, List.drop_succ_cons, List.drop_nil, List.take_zero, List.take_succ_cons, List.take_nil, Option.getD_some, map_c, map_n, List.length_cons, List.length_nil, Nat.reduceAdd, Nat.reduceLeDiff, Nat.reduceEqDiff, Nat.zero_add, List.nil_append, List.append_nil, bin_lss, if_true, if_false, Bool.false_eq_true, decide_true, Go.Eng.e2, ne_eq, not_true_eq_false, hlt', hr.idx hlt, hr.ld0 hz 2 true (by decide), e2]
    refine CallK.of (s111 _ ⟨by omega, by omega⟩ (by omega) (by omega)) ?_
    have hm := Int.mul_le_mul (Int.le_trans q3 ho.2) hz2.2 (by omega) (by omega : (0 : Int) ≤ 1000000)
    have hm0 : 0 < out / (Int.gcd out z.2 : Int) * z.2 := Int.mul_pos q2 (by omega)
    by_cases h1 : 1000000 < out / (Int.gcd out z.2 : Int) * z.2
    · simp (maxSteps := 4000000) -implicitDefEqProofs -dsimp (disch := omega) only [↓AW_ops, ↓AW_seq, ↓AW_cond, ↓AW_ret, ↓AOps_nil, ↓AOps_pu, on_some, extK_same, condB_t, ↓then_normal, ↓then_ret, ↓inBlock_ret, ↓Fin_ret, pval, rd_S, rd_C, put_S, resV, resL, chkd, isAdr, bgot, AV.cells?, partA, eq_self, mk, List.foldl_cons, List.foldl_nil, List.replicate_succ, List.replicate_zero, List.set_cons_zero, List.set_cons_succ, List.getElem?_cons_zero, List.getElem?_cons_succ, List.drop_zero, List.drop_succ_cons, List.take_succ_cons, List.take_nil, Option.getD_some, List.length_cons, List.length_nil, Nat.reduceAdd, Nat.reduceLeDiff, Nat.zero_add, bin_add, bin_mul, bin_quo, bin_gtr, w64, if_true, if_false, Bool.false_eq_true, decide_true, Int.reduceAdd, hg0, q1, h1]
      rw [if_pos h1] at he
      exact gc_same (by rw [he])
    · simp (maxSteps := 4000000) -implicitDefEqProofs -dsimp (disch := omega) only [↓AW_skip, ↓AW_ops, ↓AW_seq, ↓AW_cond, ↓AOps_nil, ↓AOps_pu, on_some, extK_same, condB_f, ↓then_normal, ↓inBlock_normal, pval, rd_S, rd_C, put_S, chkd, isAdr, bgot, AV.cells?, partA, eq_self, mk, List.foldl_cons, List.foldl_nil, List.replicate_succ, List.replicate_zero, List.set_cons_zero, List.set_cons_succ, List.getElem?_cons_zero, List.getElem?_cons_succ, List.drop_zero, List.drop_succ_cons, List.take_succ_cons, List.take_nil, Option.getD_some, List.length_cons, List.length_nil, Nat.reduceAdd, Nat.reduceLeDiff, Nat.zero_add, bin_add, bin_mul, bin_quo, bin_gtr, w64, if_true, if_false, Bool.false_eq_true, decide_false, true_and, hg0, q1, h1]
      rw [if_neg h1] at he
      exact ⟨(i + 1, out / (Int.gcd out z.2 : Int) * z.2), ⟨hlt, by simp only; omega, he⟩, by simp [Has, rd_s], by simp only; omega⟩
  · have hlt' : ¬ ((i : Int) < rs.length) := by omega
    simp (maxSteps := 4000000) -implicitDefEqProofs -dsimp (disch := omega) only [↓AW_ops, ↓AW_seq, ↓AW_cond, ↓AW_exit, ↓AW_ret, ↓AOps_nil, ↓AOps_pu, on_some, condB_f, ↓then_normal, ↓then_exit, ↓inBlock_exit, ↓Fin_ret, pval, rd_S, put_S, resV, resL, eq_self, mk, List.foldl_cons, List.foldl_nil, List.replicate_succ, List.replicate_zero, List.set_cons_zero, List.set_cons_succ, List.getElem?_cons_zero, List.getElem?_cons_succ, Option.getD_some, bin_lss, if_true, decide_false, hlt']
    rw [List.drop_of_length_le (by omega)] at he
    exact gc_same (by rw [he]; rfl)
/-- What an older object becomes does not touch what is appended to. -/
theorem AccL_set {α : Type} {es : Nat} {e : α → List AV} {H H1 : AHeap} {v : AV} {xs : List α} (h : AccL es e H H1 v xs) {n : Nat} (hn : n < H.length) (o : AObj) : AccL es e (H.set n o) (H1.set n o) v xs := by
  obtain ⟨⟨t, rfl⟩, h2, h3⟩ := h
  refine ⟨⟨t, by rw [List.set_append_left _ _ hn]⟩, h2, ?_⟩
  rcases h3 with h3 | ⟨h0, m, h4, h5, h6⟩
  · exact .inl h3
  · refine .inr ⟨h0, m, h4, by simpa using h5, ?_⟩
    rw [List.getElem?_set_ne (by omega)]
    exact h6
theorem L2_two (A : AHeap) (r s : Int × Int) : L2 (A ++ [.cells true [I r.1, I r.2, I s.1, I s.2]]) (.sl 2 A.length 0 2 true) [r, s] := ⟨e2_len, by simp [slCells, cellsAt, e2]⟩
section
variable {L : List Int} {ws : List (AV × List Int)} {x y : AV} {A : AHeap}
theorem CP_not {V : List (List Int)} {pcs : List Pc} {i : Nat} {p : Pc} (hp : pcs[i]? = some p) (h : ¬ CPi L V pcs i p) : ¬ CP L V pcs := by
  intro hc
  obtain ⟨hi, he⟩ := List.getElem?_eq_some_iff.1 hp
  exact h (he ▸ hc.2.1 i hi)
set_option maxRecDepth 20000 in
set_option maxHeartbeats 4000000 in
theorem s35 (hL : L1 A x L) (hV : LL A y ws) (hs : Sz L ws) {pcs : List Pc} {v : AV} (hP : L5 A v pcs) (hl : pcs.length ≤ 1000000) (hW : ∀ p ∈ pcs, W p.r.1 ∧ W p.s.1) : ACalls Try.prog 35 [.agg [x, y], v] A (I (cpE L (lists ws) pcs)) A := by
  refine acalls hmix Try.func35 (by kernel_rfl) t35 2 rfl (by decide) ?_
  dsimp only [m35]
  simp (maxSteps := 4000000) -implicitDefEqProofs -dsimp (disch := omega) only [↓AW_ops, ↓AW_seq, ↓AOps_nil, ↓AOps_pu, ↓AOps_call, on_some, ↓then_normal, pval, rd_S, rd_C, put_S, chkd, bgot, AV.cells?, partA, eq_self, List.replicate_succ, List.replicate_zero, List.set_cons_zero, List.set_cons_succ, List.getElem?_cons_zero, List.getElem?_cons_succ, List.drop_zero, List.take_succ_cons, List.take_nil, Option.getD_some, map_c, map_n, List.length_cons, List.length_nil, Nat.reduceAdd, Nat.reduceSub, Nat.reduceLeDiff, Nat.reduceEqDiff, Nat.zero_add, List.cons_append, List.nil_append, if_true, if_false]
  refine CallK.of (s26 hL hV hs.l hs.v hs.w) ?_
  by_cases h0 : kE L (lists ws) = 0
  case neg =>
    simp (maxSteps := 4000000) -implicitDefEqProofs -dsimp (disch := omega) only [↓AW_ops, ↓AW_seq, ↓AW_cond, ↓AW_ret, ↓AOps_nil, ↓AOps_pu, on_some, extK_same, condB_t, ↓then_normal, ↓then_ret, ↓Fin_ret, pval, rd_S, rd_C, put_S, resV, resL, List.replicate_succ, List.replicate_zero, List.set_cons_zero, List.set_cons_succ, List.getElem?_cons_zero, List.getElem?_cons_succ, Option.getD_some, Nat.reduceSub, List.cons_append, List.nil_append, bin_neq, decide_true, not_false_eq_true, h0]
    exact gc_same (by rw [cpE, if_neg h0])
  have hg := KG.of h0
  have hv5 := hg.v5
  have hv1 := hg.v1
  have hll : (lists ws).length = ws.length := by simp
  have bad : ¬ CP L (lists ws) pcs → cpE L (lists ws) pcs = 1 := fun h => by rw [cpE, if_pos h0, if_neg h]
  by_cases hn : (pcs.length : Int) = ws.length
  case neg =>
    simp (maxSteps := 4000000) -implicitDefEqProofs -dsimp (disch := omega) only [↓AW_skip, ↓AW_ops, ↓AW_seq, ↓AW_cond, ↓AW_ret, ↓AOps_nil, ↓AOps_pu, on_some, extK_same, condB_t, condB_f, ↓then_normal, ↓then_ret, ↓Fin_ret, pval, rd_S, rd_C, put_S, resV, resL, chkd, isAdr, bgot, AV.cells?, partA, eq_self, List.replicate_succ, List.replicate_zero, List.set_cons_zero, List.set_cons_succ, List.getElem?_cons_zero, List.getElem?_cons_succ, List.drop_zero, List.drop_succ_cons, List.take_succ_cons, List.take_nil, Option.getD_some, List.length_cons, List.length_nil, Nat.reduceAdd, Nat.reduceSub, Nat.reduceLeDiff, Nat.zero_add, List.cons_append, List.nil_append, bin_neq, if_true, if_false, Bool.false_eq_true, decide_true, decide_false, not_true_eq_false, not_false_eq_true, h0, hP.len, hV.ls.len, hn]
    exact gc_same (by rw [bad (fun hc => hn (by have := hc.1; omega))])
  have hmk : (0 : Int) ≤ ws.length ∧ (ws.length : Int) ≤ ((lim : Nat) : Int) := by unfold lim; omega
  have hmk1 : ((ws.length : Int) ≤ ws.length) := Int.le_refl _
  simp (maxSteps := 4000000) -implicitDefEqProofs -dsimp (disch := omega) only [↓AW_skip, ↓AW_ops, ↓AW_seq, ↓AW_cond, ↓AOps_nil, ↓AOps_pu, ↓AOps_ha, ↓AOps_call, on_some, extK_app, extK_same, condB_f, ↓then_normal, pval, hval_mks, rd_S, rd_C, put_S, chkd, isAdr, bgot, cells_agg, partA, beq_self_eq_true, eq_self, List.replicate_succ, List.replicate_zero, List.set_cons_zero, List.set_cons_succ, List.getElem?_cons_zero, List.getElem?_cons_succ, List.drop_zero, List.drop_succ_cons, List.take_succ_cons, List.take_nil, Option.getD_some, map_c, map_n, List.length_cons, List.length_nil, Nat.reduceAdd, Nat.reduceSub, Nat.reduceLeDiff, Nat.zero_add, List.cons_append, List.nil_append, bin_neq, if_true, if_false, Bool.false_eq_true, decide_false, and_true, not_true_eq_false, h0, hP.len, hV.ls.len, hn, hmk, hmk1, Int.toNat_natCast]
  refine CallK.of (s76 _ _) ?_
  simp (maxSteps := 4000000) -implicitDefEqProofs -dsimp (disch := omega) only [↓AW_ops, ↓AW_seq, ↓AW_block, ↓AOps_nil, ↓AOps_pu, on_some, extK_same, ↓then_normal, pval, rd_S, rd_C, put_S, ↓AW_toLoop, chkd, bput, cells_agg, splice, eq_self, List.replicate_succ, List.replicate_zero, List.set_cons_zero, List.set_cons_succ, List.getElem?_cons_zero, List.getElem?_cons_succ, List.drop_succ_cons, List.drop_nil, List.take_zero, Option.getD_some, List.length_cons, List.length_nil, Nat.reduceAdd, Nat.reduceSub, Nat.reduceLeDiff, Nat.zero_add, List.cons_append, List.nil_append, List.append_nil, if_true, if_false, ne_eq, not_true_eq_false, R_int, hP.len, hn]
  rw [repl_eb]
  -- who has a piece
  have hblz : (List.range ws.length).map (fun (o : Nat) => decide ((o : Int) ∈ ((pcs.take 0).map Pc.o))) = List.replicate ws.length false := by
    apply List.ext_getElem
    · simp
    · intro i h1 h2; simp
  rw [← hblz]
  refine LoopK.by 100 (fun z : Nat × AV × AHeap => z.1 ≤ pcs.length ∧ (∀ j, (h : j < pcs.length) → j < z.1 → CPi L (lists ws) pcs j pcs[j]) ∧
      AccL 2 e2 (A ++ [.cells true (((List.range ws.length).map (fun (o : Nat) => decide ((o : Int) ∈ ((pcs.take z.1).map Pc.o)))).flatMap eb)]) z.2.2 z.2.1 (plcs (pcs.take z.1)))
    (fun z => [(2, .agg [x, y]), (6, z.2.1), (7, .sl 1 A.length 0 ws.length true), (8, .agg [I (atI pcs z.1).1, I (atI pcs z.1).2]), (27, v), (28, I ws.length), (29, I z.1)]) (fun z => z.2.2) (fun z => pcs.length - z.1) (0, .nilS, _) ⟨by omega, fun j _ hj => by omega, AccL.nil (List.prefix_refl _)⟩ rfl (by simp [Has, rd_s, atI_zero]) rfl ?_
  rintro ⟨i, u, H⟩ ⟨hi, hc, hu⟩
  simp only at hi hc hu
  have hpre : A <+: H := (pre_app _ _).trans hu.pre
  have hP1 := hP.mono hpre
  have hL1 := hL.mono hpre
  have hV1 := hV.mono hpre
  generalize hbl : (List.range ws.length).map (fun (o : Nat) => decide ((o : Int) ∈ ((pcs.take i).map Pc.o))) = bl at *
  have hbll : bl.length = ws.length := by rw [← hbl]; simp
  have hOL : OL 1 eb A H A.length (.sl 1 A.length 0 ws.length true) bl := ⟨eb_len, hpre, Nat.le_refl _, pre_get hu.pre (by simp), true, by rw [hbll]⟩
  by_cases hlt : i < pcs.length
  · obtain ⟨p, hz⟩ : ∃ z, pcs[i]? = some z := ⟨_, List.getElem?_eq_getElem hlt⟩
    have hlt' : (i : Int) < pcs.length := by omega
    have hlt2 : (i : Int) < ws.length := by omega
    obtain ⟨wr, wsn⟩ := hW p (List.mem_of_getElem? hz)
    have hnot : ∀ hh : ¬ CPi L (lists ws) pcs i p, cpE L (lists ws) pcs = 1 := fun hh => bad (CP_not hz hh)
    by_cases h1 : 0 ≤ p.o ∧ p.o ≤ (ws.length : Int) - 1
    case neg =>
      simp (maxSteps := 4000000) -implicitDefEqProofs -dsimp (disch := omega) only [↓AW_skip, ↓AW_ops, ↓AW_seq, ↓AW_cond, ↓AW_block, ↓AOps_nil, ↓AOps_pu, ↓AOps_ld, ↓AOps_call, on_some, condB_t, ↓then_normal, pval, lval, rd_S, rd_C, put_S, chkd, isAdr, bput, bgot, cells_agg, splice, partA, eq_self, mk, List.foldl_cons, List.foldl_nil, List.replicate_succ, List.replicate_zero, List.set_cons_zero, List.set_cons_succ, List.getElem?_cons_zero, List.getElem?_cons_succ, List.drop_zero, List.drop_succ_cons, List.drop_nil, List.take_zero, List.take_succ_cons, List.take_nil, Option.getD_some, map_c, map_n, List.length_cons, List.length_nil, Nat.reduceAdd, Nat.reduceLeDiff, Nat.reduceEqDiff, Nat.zero_add, List.nil_append, List.append_nil, bin_sub, bin_lss, w64, if_true, if_false, Bool.false_eq_true, decide_true, ne_eq, not_true_eq_false, hlt2, hP1.idx hlt, hP1.ld0 hz 5 true (by decide), e5, hV1.ls.len]
      refine CallK.of (c_kw _ _ _ _) ?_
      simp (maxSteps := 4000000) -implicitDefEqProofs -dsimp (disch := omega) only [↓AW_ops, ↓AW_seq, ↓AW_cond, ↓AW_ret, ↓AOps_nil, ↓AOps_pu, ↓AOps_guard, on_some, extK_same, guardB_tf, skipS_some, condB_t, ↓then_normal, ↓then_ret, ↓inBlock_ret, ↓Fin_ret, pval, rd_S, rd_C, put_S, resV, resL, eq_self, mk, List.foldl_cons, List.foldl_nil, List.replicate_succ, List.replicate_zero, List.set_cons_zero, List.set_cons_succ, List.getElem?_cons_zero, List.getElem?_cons_succ, Option.getD_some, if_true, Bool.not_false, decide_false, h1]
      exact gc_val hpre (by rw [hnot (fun hh => h1 (by have := hh.1; omega))]; rfl)
    have hidx := hOL.ls.idxI (k := .i64) h1.1 (by omega : p.o < bl.length)
    have hol : p.o.toNat < bl.length := by omega
    obtain ⟨b, hb⟩ : ∃ b, bl[p.o.toNat]? = some b := ⟨_, List.getElem?_eq_getElem hol⟩
    have hbd : b = decide (p.o ∈ (pcs.take i).map Pc.o) := by
      rw [← hbl] at hb
      have hr : (List.range ws.length)[p.o.toNat]? = some p.o.toNat := by rw [List.getElem?_range (by omega)]
      rw [List.getElem?_map, hr, Option.map_some] at hb
      have := Option.some.inj hb
      rw [← this, show ((p.o.toNat : Nat) : Int) = p.o by omega]
    have hld := hOL.ls.ld0 hb 1 false (by decide)
    have fin1 : ∀ hh : ¬ CPi L (lists ws) pcs i p, GC A (I 1) H (I (cpE L (lists ws) pcs)) A := fun hh => gc_val hpre (by rw [hnot hh]; rfl)
    by_cases h2 : p.o ∈ (pcs.take i).map Pc.o
    case pos =>
      have hbt : b = true := by rw [hbd]; exact decide_eq_true h2
      subst hbt
      simp (maxSteps := 4000000) -implicitDefEqProofs -dsimp (disch := omega) only [↓AW_skip, ↓AW_ops, ↓AW_seq, ↓AW_cond, ↓AW_block, ↓AOps_nil, ↓AOps_pu, ↓AOps_ld, ↓AOps_call, on_some, condB_t, ↓then_normal, pval, lval, rd_S, rd_C, put_S, chkd, isAdr, bput, bgot, cells_agg, splice, partA, eq_self, mk, List.foldl_cons, List.foldl_nil, List.replicate_succ, List.replicate_zero, List.set_cons_zero, List.set_cons_succ, List.getElem?_cons_zero, List.getElem?_cons_succ, List.drop_zero, List.drop_succ_cons, List.drop_nil, List.take_zero, List.take_succ_cons, List.take_nil, Option.getD_some, map_c, map_n, List.length_cons, List.length_nil, Nat.reduceAdd, Nat.reduceLeDiff, Nat.reduceEqDiff, Nat.zero_add, List.nil_append, List.append_nil, bin_sub, bin_lss, w64, if_true, if_false, Bool.false_eq_true, decide_true, ne_eq, not_true_eq_false, hlt2, hP1.idx hlt, hP1.ld0 hz 5 true (by decide), e5, hV1.ls.len]
      refine CallK.of (c_kw _ _ _ _) ?_
      simp (maxSteps := 4000000) -implicitDefEqProofs -dsimp (disch := omega) only [↓AW_ops, ↓AW_seq, ↓AW_cond, ↓AW_ret, ↓AOps_nil, ↓AOps_pu, ↓AOps_ld, ↓AOps_guard, on_some, extK_same, guardB_tf, guardB_ff, skipS_some, condB_t, ↓then_normal, ↓then_ret, ↓inBlock_ret, ↓Fin_ret, pval, lval, rd_S, rd_C, put_S, resV, resL, chkd, isAdr, bgot, cells_agg, partA, eq_self, mk, List.foldl_cons, List.foldl_nil, List.replicate_succ, List.replicate_zero, List.set_cons_zero, List.set_cons_succ, List.getElem?_cons_zero, List.getElem?_cons_succ, List.drop_zero, List.take_zero, List.take_succ_cons, List.take_nil, Option.getD_some, List.length_cons, List.length_nil, Nat.reduceAdd, Nat.reduceLeDiff, Nat.zero_add, if_true, if_false, Bool.false_eq_true, Bool.not_true, decide_true, and_true, h1, hidx, hld, eb]
      exact fin1 (fun hh => hh.2.1 h2)
    have hbf : b = false := by rw [hbd]; exact decide_eq_false h2
    subst hbf
    simp (maxSteps := 4000000) -implicitDefEqProofs -dsimp (disch := omega) only [↓AW_skip, ↓AW_ops, ↓AW_seq, ↓AW_cond, ↓AW_block, ↓AOps_nil, ↓AOps_pu, ↓AOps_ld, ↓AOps_call, on_some, condB_t, ↓then_normal, pval, lval, rd_S, rd_C, put_S, chkd, isAdr, bput, bgot, cells_agg, splice, partA, eq_self, mk, List.foldl_cons, List.foldl_nil, List.replicate_succ, List.replicate_zero, List.set_cons_zero, List.set_cons_succ, List.getElem?_cons_zero, List.getElem?_cons_succ, List.drop_zero, List.drop_succ_cons, List.drop_nil, List.take_zero, List.take_succ_cons, List.take_nil, Option.getD_some, map_c, map_n, List.length_cons, List.length_nil, Nat.reduceAdd, Nat.reduceLeDiff, Nat.reduceEqDiff, Nat.zero_add, List.nil_append, List.append_nil, bin_sub, bin_lss, w64, if_true, if_false, Bool.false_eq_true, decide_true, ne_eq, not_true_eq_false, hlt2, hP1.idx hlt, hP1.ld0 hz 5 true (by decide), e5, hV1.ls.len]
    refine CallK.of (c_kw _ _ _ _) ?_
    simp (maxSteps := 4000000) -implicitDefEqProofs -dsimp (disch := omega) only [↓AOps_pu, ↓AOps_ld, ↓AOps_call, ↓AOps_guard, on_some, extK_same, guardB_ff, pval, lval, rd_S, rd_C, put_S, chkd, isAdr, bgot, cells_agg, partA, eq_self, mk, List.foldl_cons, List.foldl_nil, List.replicate_succ, List.replicate_zero, List.set_cons_zero, List.set_cons_succ, List.getElem?_cons_zero, List.getElem?_cons_succ, List.drop_zero, List.drop_succ_cons, List.take_zero, List.take_succ_cons, List.take_nil, Option.getD_some, map_c, map_n, List.length_cons, List.length_nil, Nat.reduceAdd, Nat.reduceLeDiff, Nat.reduceEqDiff, Nat.zero_add, if_true, if_false, Bool.false_eq_true, Bool.not_true, decide_true, and_true, h1, hidx, hld, eb]
    refine CallK.of (c_isK hL1 hg p.r wr) ?_
    by_cases h3 : isK L p.r
    case neg =>
      simp (maxSteps := 4000000) -implicitDefEqProofs -dsimp (disch := omega) only [↓AW_ops, ↓AW_seq, ↓AW_cond, ↓AW_ret, ↓AOps_nil, ↓AOps_pu, ↓AOps_guard, on_some, extK_same, guardB_tf, guardB_ff, skipS_some, condB_t, ↓then_normal, ↓then_ret, ↓inBlock_ret, ↓Fin_ret, pval, rd_S, rd_C, put_S, resV, resL, eq_self, mk, List.foldl_cons, List.foldl_nil, List.replicate_succ, List.replicate_zero, List.set_cons_zero, List.set_cons_succ, List.getElem?_cons_zero, List.getElem?_cons_succ, Option.getD_some, if_true, if_false, Bool.false_eq_true, Bool.not_false, decide_false, h3]
      exact fin1 (fun hh => h3 hh.2.2.1)
    simp (maxSteps := 4000000) -implicitDefEqProofs -dsimp (disch := omega) only [↓AOps_pu, ↓AOps_call, ↓AOps_guard, on_some, extK_same, guardB_ff, pval, rd_S, rd_C, put_S, chkd, isAdr, bgot, cells_agg, partA, eq_self, mk, List.foldl_cons, List.foldl_nil, List.replicate_succ, List.replicate_zero, List.set_cons_zero, List.set_cons_succ, List.getElem?_cons_zero, List.getElem?_cons_succ, List.drop_zero, List.drop_succ_cons, List.take_succ_cons, List.take_nil, Option.getD_some, map_c, map_n, List.length_cons, List.length_nil, Nat.reduceAdd, Nat.reduceLeDiff, Nat.reduceEqDiff, Nat.zero_add, if_true, if_false, Bool.false_eq_true, Bool.not_true, decide_true, h3]
    refine CallK.of (c_isK hL1 hg p.s wsn) ?_
    by_cases h4 : isK L p.s
    case neg =>
      simp (maxSteps := 4000000) -implicitDefEqProofs -dsimp (disch := omega) only [↓AW_ops, ↓AW_seq, ↓AW_cond, ↓AW_ret, ↓AOps_nil, ↓AOps_pu, ↓AOps_guard, on_some, extK_same, guardB_tf, guardB_ff, skipS_some, condB_t, ↓then_normal, ↓then_ret, ↓inBlock_ret, ↓Fin_ret, pval, rd_S, rd_C, put_S, resV, resL, eq_self, mk, List.foldl_cons, List.foldl_nil, List.replicate_succ, List.replicate_zero, List.set_cons_zero, List.set_cons_succ, List.getElem?_cons_zero, List.getElem?_cons_succ, Option.getD_some, if_true, if_false, Bool.false_eq_true, Bool.not_false, decide_false, h4]
      exact fin1 (fun hh => h4 hh.2.2.2.1)
    by_cases h5 : p.r = atI pcs i
    case neg =>
      have hpb := pair_beq h5
      simp (maxSteps := 4000000) -implicitDefEqProofs -dsimp (disch := omega) only [↓AW_ops, ↓AW_seq, ↓AW_cond, ↓AW_ret, ↓AOps_nil, ↓AOps_pu, ↓AOps_guard, on_some, extK_same, guardB_tf, guardB_ff, skipS_some, condB_t, ↓then_normal, ↓then_ret, ↓inBlock_ret, ↓Fin_ret, pval, rd_S, rd_C, put_S, resV, resL, chkd, isAdr, bgot, cells_agg, partA, eqc, Bool.and_true, eq_self, mk, List.foldl_cons, List.foldl_nil, List.replicate_succ, List.replicate_zero, List.set_cons_zero, List.set_cons_succ, List.getElem?_cons_zero, List.getElem?_cons_succ, List.drop_zero, List.drop_succ_cons, List.take_zero, List.take_succ_cons, List.take_nil, Option.getD_some, Option.map_some, List.length_cons, List.length_nil, Nat.reduceAdd, Nat.reduceLeDiff, Nat.reduceEqDiff, Nat.zero_add, if_true, if_false, Bool.false_eq_true, Bool.not_true, Bool.not_false, decide_true, h4, hpb]
      exact fin1 (fun hh => h5 hh.2.2.2.2.1)
    obtain ⟨w0, hw0⟩ := first_row hg
    have hmr := mem_lists (List.mem_of_getElem? hw0)
    have hgd := hg.gd hmr
    obtain ⟨k1, _, _, p1⟩ := isK_R hg h3
    obtain ⟨k2, _, _, p2⟩ := isK_R hg h4
    have p1 := p1 _ hmr
    have p2 := p2 _ hmr
    have hcmp := s65 (qr p.r) (qr p.s) H (p1.sm hgd) (p2.sm hgd)
    rw [← k1, ← k2] at hcmp
    simp (maxSteps := 4000000) -implicitDefEqProofs -dsimp (disch := omega) only [↓AOps_pu, ↓AOps_call, ↓AOps_guard, on_some, extK_same, guardB_ff, pval, rd_S, rd_C, put_S, chkd, isAdr, bgot, cells_agg, partA, eqc, beq_self_eq_true, eq_self, mk, List.foldl_cons, List.foldl_nil, List.replicate_succ, List.replicate_zero, List.set_cons_zero, List.set_cons_succ, List.getElem?_cons_zero, List.getElem?_cons_succ, List.drop_zero, List.drop_succ_cons, List.take_zero, List.take_succ_cons, List.take_nil, Option.getD_some, Option.map_some, map_c, map_n, List.length_cons, List.length_nil, Nat.reduceAdd, Nat.reduceLeDiff, Nat.reduceEqDiff, Nat.zero_add, if_true, if_false, Bool.false_eq_true, Bool.not_true, Bool.true_and, decide_true, h4, ← h5]
    refine CallK.of hcmp ?_
    by_cases h6 : qr p.s < qr p.r
    case pos =>
      have h6' := (sub_pos_iff (qr p.r) (qr p.s)).2 h6
      simp (maxSteps := 4000000) -implicitDefEqProofs -dsimp (disch := omega) only [↓AW_ops, ↓AW_seq, ↓AW_cond, ↓AW_ret, ↓AOps_nil, ↓AOps_pu, ↓AOps_guard, on_some, extK_same, guardB_ff, condB_t, ↓then_normal, ↓then_ret, ↓inBlock_ret, ↓Fin_ret, pval, rd_S, rd_C, put_S, resV, resL, mk, List.foldl_cons, List.foldl_nil, List.replicate_succ, List.replicate_zero, List.set_cons_zero, List.set_cons_succ, List.getElem?_cons_zero, List.getElem?_cons_succ, Option.getD_some, bin_gtr, if_false, Bool.false_eq_true, decide_true, h6']
      exact fin1 (fun hh => hh.2.2.2.2.2 h6)
    have h6' : ¬ 0 < (qr p.r - qr p.s).num := fun hh => h6 ((sub_pos_iff _ _).1 hh)
    have hst := hOL.st hol (B true) true rfl
    have hset := hOL.set p.o.toNat true
    generalize hH1 : H.set A.length (.cells true ((bl.set p.o.toNat true).flatMap eb)) = H1 at *
    have hu1 := AccL_set hu (n := A.length) (by simp) (.cells true ((bl.set p.o.toNat true).flatMap eb))
    rw [hH1] at hu1
    have hBe : (A ++ [AObj.cells true (bl.flatMap eb)]).set A.length (.cells true ((bl.set p.o.toNat true).flatMap eb)) = A ++ [.cells true ((bl.set p.o.toNat true).flatMap eb)] := by simp
    rw [hBe] at hu1
    have hu2 := hu1.mono (pre_app H1 [.cells true [I p.r.1, I p.r.2, I p.s.1, I p.s.2]])
    have hpl : ((plcs (pcs.take i)).length : Int) ≤ 2 * i := by
      have : ∀ l : List Pc, (plcs l).length = 2 * l.length := by
        intro l
        induction l with
        | nil => rfl
        | cons a l ih => simp only [plcs, List.flatMap_cons, List.length_append, List.length_cons, List.length_nil] at *; omega
      rw [this, List.length_take]; omega
    obtain ⟨u3, H3, happ, hu3⟩ := hu2.pushes (L2_two H1 p.r p.s) (by simp [lim]; omega)
    have hbl2 : (List.range ws.length).map (fun (o : Nat) => decide ((o : Int) ∈ ((pcs.take (i + 1)).map Pc.o))) = bl.set p.o.toNat true := by
      rw [← hbl]
      apply List.ext_getElem
      · simp
      · intro k g1 g2
        simp only [List.length_map, List.length_range] at g1
        rw [List.getElem_set]
        simp only [List.getElem_map, List.getElem_range]
        have hmem : ((k : Int) ∈ (pcs.take (i + 1)).map Pc.o) ↔ ((k : Int) ∈ (pcs.take i).map Pc.o ∨ (k : Int) = p.o) := by
          rw [List.take_add_one, hz, Option.toList_some, List.map_append, List.mem_append]
          simp
        rw [decide_eq_decide.2 hmem]
        by_cases hk : p.o.toNat = k
        · rw [if_pos hk, decide_eq_true]; right; omega
        · rw [if_neg hk, decide_eq_decide]
          constructor
          · rintro (h | h)
            · exact h
            · omega
          · exact fun h => .inl h
    have hpl2 : plcs (pcs.take (i + 1)) = plcs (pcs.take i) ++ [p.r, p.s] := by
      rw [List.take_add_one, hz, Option.toList_some]
      simp [plcs]
    simp (maxSteps := 4000000) -implicitDefEqProofs -dsimp (disch := omega) only [↓AW_skip, ↓AW_ops, ↓AW_seq, ↓AW_cond, ↓AOps_nil, ↓AOps_pu, ↓AOps_ha, ↓AOps_guard, on_some, extK_false, extK_app, extK_same, guardB_ff, condB_f, ↓then_normal, ↓inBlock_normal, pval, hval_st, hval_blds, hval_app, rd_S, rd_C, put_S, putS_none, chkd, isAdr, bput, bgot, cells_agg, splice, partA, fillA, repl, eq_self, mk, List.foldl_cons, List.foldl_nil, List.replicate_succ, List.replicate_zero, List.set_cons_zero, List.set_cons_succ, List.getElem?_cons_zero, List.getElem?_cons_succ, List.drop_zero, List.drop_succ_cons, List.drop_nil, List.take_zero, List.take_succ_cons, List.take_nil, Option.getD_some, Option.map_some, map_c, map_n, List.length_cons, List.length_nil, Nat.reduceAdd, Nat.reduceLeDiff, Nat.reduceEqDiff, Nat.zero_add, List.cons_append, List.nil_append, List.append_nil, bin_add, bin_gtr, w64, if_true, if_false, Bool.false_eq_true, decide_false, true_and, and_true, ne_eq, not_true_eq_false, h6', hidx, hst, happ]
    refine ⟨(i + 1, u3, H3), ⟨hlt, fun j hj hji => ?_, ?_⟩, by simp [Has, rd_s, atI_succ hz], rfl, by simp only; omega⟩
    · by_cases hji' : j < i
      · exact hc j hj hji'
      · have : j = i := by simp only at hji; omega
        subst this
        have he : pcs[j] = p := (List.getElem?_eq_some_iff.1 hz).2
        rw [he]
        exact ⟨by omega, h2, h3, h4, h5, h6⟩
    · simp only
      rw [hbl2, hpl2]
      exact hu3
  · have hiE : i = pcs.length := by omega
    subst hiE
    have hlt' : ¬ ((pcs.length : Int) < ws.length) := by omega
    rw [List.take_length] at hu
    have hkd : ∀ r ∈ plcs pcs, 1 ≤ r.2 ∧ r.2 ≤ 1000000 := by
      intro r hr
      obtain ⟨p, hp, hr⟩ := List.mem_flatMap.1 hr
      obtain ⟨j, hj, rfl⟩ := List.mem_iff_getElem.1 hp
      have := hc j hj hj
      simp only [List.mem_cons, List.not_mem_nil, or_false] at hr
      rcases hr with rfl | rfl
      · exact this.2.2.1.1.1
      · exact this.2.2.2.1.1.1
    have hpl : (plcs pcs).length = 2 * pcs.length := by
      have : ∀ l : List Pc, (plcs l).length = 2 * l.length := by
        intro l
        induction l with
        | nil => rfl
        | cons a l ih => simp only [plcs, List.flatMap_cons, List.length_append, List.length_cons, List.length_nil] at *; omega
      exact this pcs
    simp (maxSteps := 4000000) -implicitDefEqProofs -dsimp (disch := omega) only [↓AW_ops, ↓AW_seq, ↓AW_cond, ↓AW_exit, ↓AOps_nil, ↓AOps_pu, ↓AOps_call, on_some, condB_f, ↓then_normal, ↓then_exit, ↓inBlock_exit, pval, rd_S, put_S, chkd, bgot, partA, eq_self, mk, List.foldl_cons, List.foldl_nil, List.replicate_succ, List.replicate_zero, List.set_cons_zero, List.set_cons_succ, List.getElem?_cons_zero, List.getElem?_cons_succ, List.drop_zero, List.take_succ_cons, List.take_nil, Option.getD_some, map_c, map_n, List.length_cons, List.length_nil, Nat.reduceAdd, Nat.reduceLeDiff, Nat.reduceEqDiff, Nat.zero_add, bin_lss, if_true, if_false, decide_false, hlt']
    refine CallK.of (c_end (y := y) hL1 hg) ?_
    simp (maxSteps := 4000000) -implicitDefEqProofs -dsimp (disch := omega) only [↓AOps_call, extK_same, rd_S, put_S, mk, List.foldl_cons, List.foldl_nil, List.replicate_succ, List.replicate_zero, List.set_cons_zero, List.set_cons_succ, List.getElem?_cons_zero, List.getElem?_cons_succ, Option.getD_some, map_c, map_n]
    refine CallK.of (s76 _ _) ?_
    simp (maxSteps := 4000000) -implicitDefEqProofs -dsimp (disch := omega) only [↓AOps_pu, ↓AOps_guard, on_some, extK_same, pval, rd_S, put_S, eqc, Bool.and_true, eq_self, mk, List.foldl_cons, List.foldl_nil, List.replicate_succ, List.replicate_zero, List.set_cons_zero, List.set_cons_succ, List.getElem?_cons_zero, List.getElem?_cons_succ, Option.getD_some, Option.map_some, if_true, R_int]
    by_cases h7 : atI pcs pcs.length = (L.sum, 1)
    case neg =>
      have hpb : ((atI pcs pcs.length).1 == L.sum && (atI pcs pcs.length).2 == 1) = false := pair_beq h7
      simp (maxSteps := 4000000) -implicitDefEqProofs -dsimp (disch := omega) only [↓AW_ops, ↓AW_seq, ↓AW_cond, ↓AW_ret, ↓AOps_nil, ↓AOps_pu, ↓AOps_guard, on_some, guardB_tf, skipS_some, condB_t, ↓then_normal, ↓then_ret, ↓Fin_ret, pval, rd_S, rd_C, put_S, resV, resL, eq_self, mk, List.foldl_cons, List.foldl_nil, List.replicate_succ, List.replicate_zero, List.set_cons_zero, List.set_cons_succ, List.getElem?_cons_zero, List.getElem?_cons_succ, Option.getD_some, if_true, Bool.not_false, hpb]
      exact gc_val hpre (by rw [bad (fun hc => h7 hc.2.2.1)]; rfl)
    have h7a : (atI pcs pcs.length).1 = L.sum := by rw [h7]
    have h7b : (atI pcs pcs.length).2 = 1 := by rw [h7]
    simp (maxSteps := 4000000) -implicitDefEqProofs -dsimp (disch := omega) only [↓AOps_pu, ↓AOps_call, ↓AOps_guard, on_some, guardB_ff, pval, rd_S, rd_C, put_S, beq_self_eq_true, Bool.and_self, mk, List.foldl_cons, List.foldl_nil, List.replicate_succ, List.replicate_zero, List.set_cons_zero, List.set_cons_succ, List.getElem?_cons_zero, List.getElem?_cons_succ, Option.getD_some, map_c, map_n, Bool.not_true, h7a, h7b]
    refine CallK.of (c_Common (AccL_ls hu e2_len) (by omega) hkd) ?_
    by_cases h8 : cmn 1 ((plcs pcs).map Prod.snd) ≤ 1000000
    · have h8' : ¬ 1000000 < cmn 1 ((plcs pcs).map Prod.snd) := by omega
      simp (maxSteps := 4000000) -implicitDefEqProofs -dsimp (disch := omega) only [↓AW_skip, ↓AW_ops, ↓AW_seq, ↓AW_cond, ↓AW_ret, ↓AOps_nil, ↓AOps_pu, ↓AOps_guard, on_some, extK_same, guardB_ff, condB_f, ↓then_normal, ↓Fin_ret, pval, rd_S, rd_C, put_S, resV, resL, beq_self_eq_true, Bool.and_self, mk, List.foldl_cons, List.foldl_nil, List.replicate_succ, List.replicate_zero, List.set_cons_zero, List.set_cons_succ, List.getElem?_cons_zero, List.getElem?_cons_succ, Option.getD_some, bin_gtr, if_false, Bool.false_eq_true, Bool.not_true, decide_false, h8', h7a, h7b]
      refine gc_val hpre ?_
      rw [cpE, if_pos h0, if_pos ⟨by omega, fun j hj => hc j hj hj, h7, h8⟩]
      rfl
    · have h8' : 1000000 < cmn 1 ((plcs pcs).map Prod.snd) := by omega
      simp (maxSteps := 4000000) -implicitDefEqProofs -dsimp (disch := omega) only [↓AW_ops, ↓AW_seq, ↓AW_cond, ↓AW_ret, ↓AOps_nil, ↓AOps_pu, ↓AOps_guard, on_some, extK_same, guardB_ff, condB_t, ↓then_normal, ↓then_ret, ↓Fin_ret, pval, rd_S, rd_C, put_S, resV, resL, beq_self_eq_true, Bool.and_self, mk, List.foldl_cons, List.foldl_nil, List.replicate_succ, List.replicate_zero, List.set_cons_zero, List.set_cons_succ, List.getElem?_cons_zero, List.getElem?_cons_succ, Option.getD_some, bin_gtr, if_false, Bool.false_eq_true, Bool.not_true, decide_true, h8', h7a, h7b]
      exact gc_val hpre (by rw [bad (fun hc => h8 hc.2.2.2)]; rfl)
end
end Go.Proofs.Ytmblehbjedpjoaa

namespace Go.Proofs.Ytmblehbjedpjoaa
open Go Go.Eng
theorem lcm_facts {out d : Int} (h0 : 0 < out) (hd : 0 < d) : 0 < out / (Int.gcd out d : Int) * d ∧ out ∣ out / (Int.gcd out d : Int) * d ∧ d ∣ out / (Int.gcd out d : Int) * d ∧ ∀ D, out ∣ D → d ∣ D → out / (Int.gcd out d : Int) * d ∣ D := by
  obtain ⟨_, q2, _⟩ := gcd_div h0 hd
  obtain ⟨g1, g2⟩ := gcd_pos (a := out) hd
  refine ⟨Int.mul_pos q2 hd, ?_, Int.dvd_mul_left _ _, fun D h1 h2 => ?_⟩
  · obtain ⟨x, hx⟩ := Int.gcd_dvd_left out d
    obtain ⟨y, hy⟩ := Int.gcd_dvd_right out d
    generalize (Int.gcd out d : Nat) = g at *
    refine ⟨y, ?_⟩
    rw [hx, Int.mul_ediv_cancel_left _ (by omega)]
    rw [hy]
    rw [← Int.mul_assoc, Int.mul_comm x]
  · obtain ⟨z, hz⟩ := h1
    have hgd := Int.gcd_dvd_left out d
    have hl : out / (Int.gcd out d : Int) * d = (Int.lcm out d : Int) := by
      have e1 : (Int.gcd out d : Int) * (Int.lcm out d : Int) = (out * d) := by
        have := Int.gcd_mul_lcm out d
        have h3 : ((Int.gcd out d * Int.lcm out d : Nat) : Int) = ((out * d).natAbs : Int) := by rw [this, Int.natAbs_mul]
        rw [Int.natCast_mul] at h3
        rw [h3, Int.natAbs_of_nonneg (Int.le_of_lt (Int.mul_pos h0 hd))]
      obtain ⟨x, hx⟩ := hgd
      have hg0 : (Int.gcd out d : Int) ≠ 0 := by omega
      have e2 : out / (Int.gcd out d : Int) = x := by
        conv => lhs; lhs; rw [hx]
        exact Int.mul_ediv_cancel_left _ hg0
      rw [e2]
      have e3 : (Int.gcd out d : Int) * (Int.lcm out d : Int) = (Int.gcd out d : Int) * (x * d) := by
        rw [e1, ← Int.mul_assoc, ← hx]
      exact (Int.eq_of_mul_eq_mul_left hg0 e3).symm
    rw [hl]
    exact Int.coe_lcm_dvd ⟨z, hz⟩ h2
theorem cmn_dvd : ∀ (ds : List Int) (out : Int), 0 < out → (∀ d ∈ ds, 0 < d) → cmn out ds ≤ 1000000 → 0 < cmn out ds ∧ out ∣ cmn out ds ∧ ∀ d ∈ ds, d ∣ cmn out ds
  | [], out, h0, _, _ => ⟨h0, Int.dvd_refl _, by simp⟩
  | d :: ds, out, h0, hd, h => by
    obtain ⟨l1, l2, l3, _⟩ := lcm_facts h0 (hd d (by simp))
    rw [cmn] at h ⊢
    split at h
    · omega
    · rename_i hn
      rw [if_neg hn]
      obtain ⟨r1, r2, r3⟩ := cmn_dvd ds _ l1 (fun e he => hd e (by simp [he])) h
      refine ⟨r1, Int.dvd_trans l2 r2, fun e he => ?_⟩
      rcases List.mem_cons.1 he with rfl | he
      · exact Int.dvd_trans l3 r2
      · exact r3 e he
theorem cmn_le {D : Int} (hD : 0 < D ∧ D ≤ 1000000) : ∀ (ds : List Int) (out : Int), 0 < out → out ∣ D → (∀ d ∈ ds, 0 < d ∧ d ∣ D) → cmn out ds ≤ 1000000
  | [], out, h0, h, _ => by
    have := Int.le_of_dvd hD.1 h
    show out ≤ 1000000
    omega
  | d :: ds, out, h0, h, hd => by
    obtain ⟨l1, _, _, l4⟩ := lcm_facts h0 (hd d (by simp)).1
    have hl := l4 D h (hd d (by simp)).2
    have := Int.le_of_dvd hD.1 hl
    rw [cmn, if_neg (by omega)]
    exact cmn_le hD ds _ l1 hl (fun e he => hd e (by simp [he]))
section
variable {L : List Int} {ws : List (AV × List Int)} {x y : AV} {A : AHeap}
/-- The places of pieces that are accepted have a small denominator in common. -/
theorem CP.dv {V : List (List Int)} {pcs : List Pc} (h : CP L V pcs) : ∃ D : Int, (0 < D ∧ D ≤ 1000000) ∧ ∀ p ∈ pcs, Dv D (qr p.r) ∧ Dv D (qr p.s) := by
  have hpos : ∀ r ∈ plcs pcs, 0 < r.2 ∧ Int.gcd r.1 r.2 = 1 := by
    intro r hr
    obtain ⟨p, hp, hr⟩ := List.mem_flatMap.1 hr
    obtain ⟨j, hj, rfl⟩ := List.mem_iff_getElem.1 hp
    have := h.2.1 j hj
    simp only [List.mem_cons, List.not_mem_nil, or_false] at hr
    rcases hr with rfl | rfl
    · exact ⟨by have := this.2.2.1.1.1; omega, this.2.2.1.1.2⟩
    · exact ⟨by have := this.2.2.2.1.1.1; omega, this.2.2.2.1.1.2⟩
  obtain ⟨h1, _, h3⟩ := cmn_dvd ((plcs pcs).map Prod.snd) 1 (by omega) (fun d hd => by obtain ⟨r, hr, rfl⟩ := List.mem_map.1 hd; exact (hpos r hr).1) h.2.2.2
  have key : ∀ r ∈ plcs pcs, Dv (cmn 1 ((plcs pcs).map Prod.snd)) (qr r) := by
    intro r hr
    have e := R_of (hpos r hr).1 (hpos r hr).2
    have hd := (R_inj e.symm).2
    refine (Dv_self (qr r)).dvd ?_
    show ((((r.1 : Rat) / (r.2 : Rat)).den : Int)) ∣ _
    rw [hd]
    exact h3 _ (List.mem_map_of_mem hr)
  refine ⟨_, ⟨h1, h.2.2.2⟩, fun p hp => ⟨key _ (List.mem_flatMap.2 ⟨p, hp, by simp⟩), key _ (List.mem_flatMap.2 ⟨p, hp, by simp⟩)⟩⟩
theorem qr_zero : qr (0, 1) = ((0 : Int) : Rat) := by
  unfold qr
  rw [Rat.div_def]
  exact Rat.zero_mul _
theorem qr_one (n : Int) : qr (n, 1) = (n : Rat) := by
  unfold qr
  show (n : Rat) / ((1 : Int) : Rat) = (n : Rat)
  rw [int1]
  grind
theorem upTo_at0 {f : List (Int × Int)} (hg : good f) : upTo 0 f ((0 : Int) : Rat) = 0 := upTo_none _ f 0 (all_pos hg.2) Rat.le_refl
theorem isK_ends {V : List (List Int)} (h : KG L V) : isK L (0, 1) ∧ isK L (L.sum, 1) := by
  have := h.sum
  refine ⟨⟨⟨by omega, by decide⟩, by simp only; omega⟩, ⟨⟨by omega, by simp⟩, by simp only; omega⟩⟩
end
end Go.Proofs.Ytmblehbjedpjoaa

namespace Go.Proofs.Ytmblehbjedpjoaa
open Go Go.Eng
/-- The element that the search stops at. -/
def At (pcs : List Pc) (o : Int) (i : Nat) (p : Pc) : Prop := pcs[i]? = some p ∧ p.o = o ∧ ∀ j, j < i → ∀ q, pcs[j]? = some q → ¬ q.o = o
theorem At.ex {pcs : List Pc} {o : Int} (h : ∃ p ∈ pcs, p.o = o) : ∃ i p, At pcs o i p := by
  induction pcs with
  | nil => obtain ⟨p, hp, _⟩ := h; simp at hp
  | cons a l ih =>
    by_cases ha : a.o = o
    · exact ⟨0, a, rfl, ha, fun j hj => by omega⟩
    · obtain ⟨p, hp, hpo⟩ := h
      rcases List.mem_cons.1 hp with rfl | hp
      · exact absurd hpo ha
      · obtain ⟨i, q, h1, h2, h3⟩ := ih ⟨p, hp, hpo⟩
        refine ⟨i + 1, q, by simpa using h1, h2, fun j hj q' hq => ?_⟩
        cases j with
        | zero => simp at hq; subst hq; exact ha
        | succ j => exact h3 j (by omega) q' (by simpa using hq)
theorem ld_new (A : AHeap) (x : AV) (l : List AV) : ldA 1 false (.ptr A.length 0) (A ++ [.cells true (x :: l)]) = some x := by
  simp [ldA, partA]
theorem c_own1 (p : Pc) (o : Int) (A : AHeap) : ACalls Try.prog 123 [.agg (e5 p), .ptr A.length 0] (A ++ [.cells true [I o]]) (B (decide (p.o = o))) (A ++ [.cells true [I o]]) := by
  refine acalls hmix Try.func123 (by kernel_rfl) t123 2 rfl (by decide) ?_
  dsimp only [m123]
  simp (maxSteps := 4000000) -implicitDefEqProofs -dsimp (disch := omega) only [↓AW_ops, ↓AW_seq, ↓AW_ret, ↓AOps_nil, ↓AOps_pu, ↓AOps_ld, on_some, ↓then_normal, ↓Fin_ret, pval, lval, rd_S, rd_C, put_S, resV, resL, chkd, isAdr, bgot, AV.cells?, partA, eq_self, List.replicate_succ, List.replicate_zero, List.set_cons_zero, List.set_cons_succ, List.getElem?_cons_zero, List.getElem?_cons_succ, List.drop_zero, List.take_zero, List.take_succ_cons, Option.getD_some, List.length_cons, List.length_nil, Nat.reduceAdd, Nat.reduceSub, Nat.reduceLeDiff, Nat.zero_add, List.cons_append, List.nil_append, bin_eql, if_true, if_false, Bool.false_eq_true, e5, ld_new]
  exact gc_same rfl
theorem c_idx5 {pcs : List Pc} {v : AV} {A : AHeap} (hx : L5 A v pcs) (hl : pcs.length ≤ 1000000) (f : FuncId) (cap : List AV) (o : Int) (hg : ∀ p : Pc, ACalls Try.prog f ([.agg (e5 p)] ++ cap) A (B (decide (p.o = o))) A) {i : Nat} {p : Pc} (hp : At pcs o i p) : ACalls Try.prog 122 [v, .fn f cap] A (I i) A := by
  refine acalls hmix Try.func122 (by kernel_rfl) t122 2 rfl (by decide) ?_
  obtain ⟨h1, h2, h3⟩ := hp
  have hi0 : i < pcs.length := (List.getElem?_eq_some_iff.1 h1).1
  dsimp only [m122]
  simp (maxSteps := 4000000) -implicitDefEqProofs -dsimp (disch := omega) only [↓AW_ops, ↓AW_seq, ↓AW_block, ↓AOps_nil, ↓AOps_pu, on_some, ↓then_normal, pval, rd_S, rd_C, put_S, ↓AW_toLoop, List.replicate_succ, List.replicate_zero, List.set_cons_zero, List.set_cons_succ, List.getElem?_cons_zero, List.getElem?_cons_succ, Option.getD_some, Nat.reduceSub, List.cons_append, List.nil_append, hx.len]
  refine LoopK.by 19 (fun k : Nat => k ≤ i) (fun k => [(0, v), (1, .fn f cap), (7, I pcs.length), (8, I k)]) (fun _ => A) (fun k => pcs.length - k) 0 (by omega) rfl (by simp [Has, rd_s]) rfl ?_
  intro k hk
  have hlt : k < pcs.length := by omega
  obtain ⟨z, hz⟩ : ∃ z, pcs[k]? = some z := ⟨_, List.getElem?_eq_getElem hlt⟩
  have hlt' : (k : Int) < pcs.length := by omega
  have hcz := hg z
  unfold e5 at hcz
  simp (maxSteps := 4000000) -implicitDefEqProofs -dsimp (disch := omega) only [↓AW_skip, ↓AW_ops, ↓AW_seq, ↓AW_cond, ↓AW_block, ↓AOps_nil, ↓AOps_pu, ↓AOps_ld, ↓AOps_callv, on_some, CallF_fn, condB_t, ↓then_normal, pval, lval, rd_S, put_S, partA, eq_self, mk, List.foldl_cons, List.foldl_nil, List.replicate_succ, List.replicate_zero, List.set_cons_zero, List.set_cons_succ, List.getElem?_cons_zero, List.getElem?_cons_succ, List.drop_zero, List.take_succ_cons, List.take_nil, Option.getD_some, map_c, map_n, List.length_cons, List.length_nil, Nat.reduceAdd, Nat.reduceLeDiff, Nat.reduceEqDiff, Nat.zero_add, List.cons_append, List.nil_append, bin_lss, if_true, if_false, decide_true, hlt', hx.idx hlt, hx.ld0 hz 5 true (by decide), e5]
  by_cases hki : k = i
  · subst hki
    rw [hz] at h1
    have := Option.some.inj h1
    subst this
    refine CallK.of (hcz) ?_
    simp (maxSteps := 4000000) -implicitDefEqProofs -dsimp (disch := omega) only [↓AW_ops, ↓AW_seq, ↓AW_cond, ↓AW_ret, ↓AOps_nil, ↓AOps_pu, on_some, extK_same, condB_t, ↓then_normal, ↓then_ret, ↓inBlock_ret, ↓Fin_ret, pval, rd_S, put_S, resV, resL, eq_self, mk, List.foldl_cons, List.foldl_nil, List.replicate_succ, List.replicate_zero, List.set_cons_zero, List.set_cons_succ, List.getElem?_cons_zero, List.getElem?_cons_succ, Option.getD_some, decide_true, h2]
    exact gc_same rfl
  · have hne := h3 k (by omega) z hz
    refine CallK.of (hcz) ?_
    simp (maxSteps := 4000000) -implicitDefEqProofs -dsimp (disch := omega) only [↓AW_skip, ↓AW_ops, ↓AW_cond, ↓AOps_nil, ↓AOps_pu, on_some, extK_same, condB_f, ↓then_normal, ↓inBlock_normal, pval, rd_S, rd_C, put_S, eq_self, mk, List.foldl_cons, List.foldl_nil, List.replicate_succ, List.replicate_zero, List.set_cons_zero, List.set_cons_succ, List.getElem?_cons_zero, List.getElem?_cons_succ, Option.getD_some, List.length_cons, List.length_nil, Nat.reduceAdd, Nat.zero_add, bin_add, w64, decide_false, true_and, hne]
    exact ⟨k + 1, by omega, by simp [Has, rd_s], by omega⟩
theorem c_own {pcs : List Pc} {v : AV} {A : AHeap} (hx : L5 A v pcs) (hl : pcs.length ≤ 1000000) {o : Int} {i : Nat} {p : Pc} (hp : At pcs o i p) : ACalls Try.prog 101 [v, I o] A (.agg [I p.o, I p.r.1, I p.r.2, I p.s.1, I p.s.2]) A := by
  refine acalls hmix Try.func101 (by kernel_rfl) t101 2 rfl (by decide) ?_
  have hpr := pre_app A [.cells true [I o]]
  have hx1 := hx.mono hpr
  have hlt : i < pcs.length := (List.getElem?_eq_some_iff.1 hp.1).1
  dsimp only [m101]
  simp (maxSteps := 4000000) -implicitDefEqProofs -dsimp (disch := omega) only [↓AW_ops, ↓AW_seq, ↓AOps_nil, ↓AOps_pu, ↓AOps_ha, ↓AOps_call, on_some, extK_app, ↓then_normal, pval, hval, rd_S, rd_C, put_S, AV.cells?, List.replicate_succ, List.replicate_zero, List.set_cons_zero, List.set_cons_succ, List.getElem?_cons_zero, List.getElem?_cons_succ, Option.getD_some, map_c, map_n, Nat.reduceSub, List.cons_append, List.nil_append]
  refine CallK.of (c_idx5 hx1 hl 123 [.ptr A.length 0] o (fun p => c_own1 p o A) hp) ?_
  simp (maxSteps := 4000000) -implicitDefEqProofs -dsimp (disch := omega) only [↓AW_ret, ↓AOps_nil, ↓AOps_pu, ↓AOps_ld, on_some, extK_same, ↓then_normal, ↓Fin_ret, pval, lval, rd_S, put_S, resV, resL, chkd, bput, bgot, AV.cells?, splice, partA, eq_self, List.replicate_succ, List.replicate_zero, List.set_cons_zero, List.set_cons_succ, List.getElem?_cons_zero, List.getElem?_cons_succ, List.drop_zero, List.drop_succ_cons, List.drop_nil, List.take_zero, List.take_succ_cons, List.take_nil, Option.getD_some, List.length_cons, List.length_nil, Nat.reduceAdd, Nat.reduceSub, Nat.reduceLeDiff, Nat.reduceEqDiff, Nat.zero_add, List.cons_append, List.nil_append, List.append_nil, if_true, if_false, ne_eq, not_true_eq_false, hx1.idx hlt, hx1.ld0 hp.1 5 true (by decide), e5]
  exact gc_val hpr rfl
theorem pc_beq {z w : Pc} (h : z ≠ w) : (z.o == w.o && (z.r.1 == w.r.1 && (z.r.2 == w.r.2 && (z.s.1 == w.s.1 && z.s.2 == w.s.2)))) = false := by
  rw [Bool.eq_false_iff]
  intro he
  simp only [Bool.and_eq_true, beq_iff_eq] at he
  obtain ⟨h1, h2, h3, h4, h5⟩ := he
  obtain ⟨a, ⟨b, c⟩, ⟨d, e⟩⟩ := z
  obtain ⟨a', ⟨b', c'⟩, ⟨d', e'⟩⟩ := w
  simp only at h1 h2 h3 h4 h5
  subst h1 h2 h3 h4 h5
  exact h rfl
theorem c_same {xs ys : List Pc} {v u : AV} {A : AHeap} (hx : L5 A v xs) (hy : L5 A u ys) (hl : xs.length ≤ 1000000) : ACalls Try.prog 30 [v, u] A (B (decide (xs = ys))) A := by
  refine acalls hmix Try.func30 (by kernel_rfl) t30 2 rfl (by decide) ?_
  by_cases hle : xs.length = ys.length
  · have hle' : (xs.length : Int) = ys.length := by omega
    dsimp only [m30]
    simp (maxSteps := 4000000) -implicitDefEqProofs -dsimp (disch := omega) only [↓AW_skip, ↓AW_ops, ↓AW_seq, ↓AW_cond, ↓AW_block, ↓AOps_nil, ↓AOps_pu, on_some, condB_f, ↓then_normal, pval, rd_S, rd_C, put_S, ↓AW_toLoop, eq_self, List.replicate_succ, List.replicate_zero, List.set_cons_zero, List.set_cons_succ, List.getElem?_cons_zero, List.getElem?_cons_succ, Option.getD_some, Nat.reduceSub, List.cons_append, List.nil_append, bin_neq, decide_false, not_true_eq_false, hx.len, hy.len, hle']
    refine LoopK.by 26 (fun i : Nat => i ≤ xs.length ∧ xs.take i = ys.take i) (fun i => [(0, v), (1, u), (5, I i)]) (fun _ => A) (fun i => xs.length - i) 0 ⟨by omega, rfl⟩ rfl (by simp [Has, rd_s]) rfl ?_
    rintro i ⟨hi, he⟩
    by_cases hlt : i < xs.length
    · obtain ⟨z, hz⟩ : ∃ z, xs[i]? = some z := ⟨_, List.getElem?_eq_getElem hlt⟩
      have hlt' : (i : Int) < xs.length := by omega
      have hlt2 : i < ys.length := by omega
      obtain ⟨w, hw⟩ : ∃ w, ys[i]? = some w := ⟨_, List.getElem?_eq_getElem hlt2⟩
      by_cases hzw : z = w
      · subst hzw
        simp (maxSteps := 4000000) -implicitDefEqProofs -dsimp (disch := omega) only [↓AW_skip, ↓AW_ops, ↓AW_seq, ↓AW_cond, ↓AW_block, ↓AOps_nil, ↓AOps_pu, ↓AOps_ld, on_some, condB_t, condB_f, ↓then_normal, ↓inBlock_normal, pval, lval, rd_S, rd_C, put_S, partA, eqc, beq_self_eq_true, eq_self, mk, List.foldl_cons, List.foldl_nil, List.replicate_succ, List.replicate_zero, List.set_cons_zero, List.set_cons_succ, List.getElem?_cons_zero, List.getElem?_cons_succ, List.drop_zero, List.take_succ_cons, List.take_nil, Option.getD_some, Option.map_some, List.length_cons, List.length_nil, Nat.reduceAdd, Nat.reduceLeDiff, Nat.reduceEqDiff, Nat.zero_add, bin_add, bin_lss, w64, if_true, if_false, Bool.not_true, Bool.true_and, decide_true, true_and, hlt', hx.len, hx.idx hlt, hx.ld0 hz 5 true (by decide), hy.idx hlt2, hy.ld0 hw 5 true (by decide), e5]
        exact ⟨i + 1, ⟨hlt, by rw [List.take_add_one, List.take_add_one, hz, hw, he]⟩, by simp [Has, rd_s], by omega⟩
      · have hb := pc_beq hzw
        simp (maxSteps := 4000000) -implicitDefEqProofs -dsimp (disch := omega) only [↓AW_skip, ↓AW_ops, ↓AW_seq, ↓AW_cond, ↓AW_block, ↓AW_ret, ↓AOps_nil, ↓AOps_pu, ↓AOps_ld, on_some, condB_t, ↓then_normal, ↓then_ret, ↓inBlock_ret, ↓Fin_ret, pval, lval, rd_S, rd_C, put_S, resV, resL, partA, eqc, Bool.and_true, eq_self, mk, List.foldl_cons, List.foldl_nil, List.replicate_succ, List.replicate_zero, List.set_cons_zero, List.set_cons_succ, List.getElem?_cons_zero, List.getElem?_cons_succ, List.drop_zero, List.take_succ_cons, List.take_nil, Option.getD_some, Option.map_some, List.length_cons, List.length_nil, Nat.reduceAdd, Nat.reduceLeDiff, Nat.reduceEqDiff, Nat.zero_add, bin_lss, if_true, if_false, Bool.not_false, decide_true, hlt', hx.len, hx.idx hlt, hx.ld0 hz 5 true (by decide), hy.idx hlt2, hy.ld0 hw 5 true (by decide), e5, hb]
        refine gc_same ?_
        have : ¬ xs = ys := by rintro rfl; rw [hz] at hw; exact hzw (Option.some.inj hw)
        simp [this]
    · have hlt' : ¬ ((i : Int) < xs.length) := by omega
      simp (maxSteps := 4000000) -implicitDefEqProofs -dsimp (disch := omega) only [↓AW_ops, ↓AW_seq, ↓AW_cond, ↓AW_exit, ↓AW_ret, ↓AOps_nil, ↓AOps_pu, on_some, condB_f, ↓then_normal, ↓then_exit, ↓inBlock_exit, ↓Fin_ret, pval, rd_S, rd_C, put_S, resV, resL, eq_self, mk, List.foldl_cons, List.foldl_nil, List.replicate_succ, List.replicate_zero, List.set_cons_zero, List.set_cons_succ, List.getElem?_cons_zero, List.getElem?_cons_succ, Option.getD_some, bin_lss, if_true, decide_false, hlt', hx.len]
      rw [List.take_of_length_le (by omega), List.take_of_length_le (by omega)] at he
      exact gc_same (by simp [he])
  · have hle' : ¬ (xs.length : Int) = ys.length := by omega
    dsimp only [m30]
    simp (maxSteps := 4000000) -implicitDefEqProofs -dsimp (disch := omega) only [↓AW_ops, ↓AW_seq, ↓AW_cond, ↓AW_ret, ↓AOps_nil, ↓AOps_pu, on_some, condB_t, ↓then_normal, ↓then_ret, ↓Fin_ret, pval, rd_S, rd_C, put_S, resV, resL, List.replicate_succ, List.replicate_zero, List.set_cons_zero, List.set_cons_succ, List.getElem?_cons_zero, List.getElem?_cons_succ, Option.getD_some, Nat.reduceSub, List.cons_append, List.nil_append, bin_neq, decide_true, not_false_eq_true, hx.len, hy.len, hle']
    have : ¬ xs = ys := by rintro rfl; exact hle rfl
    exact gc_same (by simp [this])
section
variable {L : List Int} {ws : List (AV × List Int)} {x y : AV} {A : AHeap}
/-- Two pieces. -/
def pcs2 (L : List Int) (c : Int) (z : Rat) : List Pc := [⟨c, (0, 1), rp z⟩, ⟨1 - c, rp z, (L.sum, 1)⟩]
def cells2 (L : List Int) (c : Int) (z : Rat) : List AV := (pcs2 L c z).flatMap e5
theorem L5_2 (A : AHeap) (c : Int) (z : Rat) : L5 (A ++ [.cells true (cells2 L c z)]) (.sl 5 A.length 0 2 true) (pcs2 L c z) := ⟨e5_len, by simp [slCells, cellsAt, cells2, pcs2, e5]⟩
theorem c_halves (hL : L1 A x L) (h : KG L (lists ws)) (c : Int) (hc : c = 0 ∨ c = 1) (z : Rat) : ACalls Try.prog 74 [.agg [x, y], R z, I c] A (.sl 5 A.length 0 2 true) (A ++ [.cells true (cells2 L c z)]) := by
  refine acalls hmix Try.func74 (by kernel_rfl) t74 3 rfl (by decide) ?_
  dsimp only [m74]
  simp (maxSteps := 4000000) -implicitDefEqProofs -dsimp (disch := omega) only [↓AW_ops, ↓AW_seq, ↓AOps_nil, ↓AOps_pu, ↓AOps_call, on_some, ↓then_normal, pval, rd_S, rd_C, put_S, AV.cells?, List.replicate_succ, List.replicate_zero, List.set_cons_zero, List.set_cons_succ, List.getElem?_cons_zero, List.getElem?_cons_succ, Option.getD_some, map_c, map_n, Nat.reduceSub, List.cons_append, List.nil_append]
  refine CallK.of (s76 _ _) ?_
  simp (maxSteps := 4000000) -implicitDefEqProofs -dsimp (disch := omega) only [↓AOps_pu, ↓AOps_call, on_some, extK_same, pval, rd_S, rd_C, put_S, chkd, bgot, AV.cells?, splice, partA, fillA, eq_self, List.replicate_succ, List.replicate_zero, List.set_cons_zero, List.set_cons_succ, List.getElem?_cons_zero, List.getElem?_cons_succ, List.drop_zero, List.drop_succ_cons, List.drop_nil, List.take_zero, List.take_succ_cons, List.take_nil, Option.getD_some, Option.map_some, map_c, map_n, List.length_cons, List.length_nil, Nat.reduceAdd, Nat.reduceSub, Nat.reduceLeDiff, Nat.reduceEqDiff, Nat.zero_add, List.cons_append, List.nil_append, List.append_nil, bin_sub, w64, if_true, if_false, and_true]
  refine CallK.of (c_end (y := y) hL h) ?_
  simp (maxSteps := 4000000) -implicitDefEqProofs -dsimp (disch := omega) only [↓AOps_call, extK_same, rd_S, put_S, List.replicate_succ, List.replicate_zero, List.set_cons_zero, List.set_cons_succ, List.getElem?_cons_zero, List.getElem?_cons_succ, Option.getD_some, map_c, map_n, Nat.reduceSub, List.cons_append, List.nil_append]
  refine CallK.of (s76 _ _) ?_
  simp (maxSteps := 4000000) -implicitDefEqProofs -dsimp (disch := omega) only [↓AW_ret, ↓AOps_nil, ↓AOps_pu, ↓AOps_ha, on_some, extK_app, extK_same, ↓then_normal, ↓Fin_ret, pval, hval, rd_S, put_S, resV, resL, AV.cells?, splice, fillA, repl, eq_self, List.replicate_succ, List.replicate_zero, List.set_cons_zero, List.set_cons_succ, List.getElem?_cons_zero, List.getElem?_cons_succ, List.drop_zero, List.drop_succ_cons, List.drop_nil, List.take_zero, List.take_succ_cons, Option.getD_some, Option.map_some, map_c, map_n, List.length_cons, List.length_nil, Nat.reduceAdd, Nat.reduceSub, Nat.reduceLeDiff, Nat.zero_add, List.cons_append, List.nil_append, List.append_nil, if_true, and_true, R]
  exact gc_all
theorem c_cutAt (hL : L1 A x L) (hV : LL A y ws) (h : KG L (lists ws)) (c : Int) (hc : c = 0 ∨ c = 1) (z : Rat) : ACalls Try.prog 81 [.agg [x, y], I c, R z] A (.sl 5 A.length 0 2 true) (A ++ [.cells true (cells2 L c z)]) := by
  refine acalls hmix Try.func81 (by kernel_rfl) t81 3 rfl (by decide) ?_
  dsimp only [m81]
  simp (maxSteps := 4000000) -implicitDefEqProofs -dsimp (disch := omega) only [↓AW_ops, ↓AW_seq, ↓AOps_nil, ↓AOps_pu, ↓AOps_call, on_some, ↓then_normal, pval, rd_S, rd_C, put_S, AV.cells?, List.replicate_succ, List.replicate_zero, List.set_cons_zero, List.set_cons_succ, List.getElem?_cons_zero, List.getElem?_cons_succ, Option.getD_some, map_c, map_n, Nat.reduceSub, List.cons_append, List.nil_append]
  refine CallK.of (s36 _ _) ?_
  simp (maxSteps := 4000000) -implicitDefEqProofs -dsimp (disch := omega) only [↓AOps_pu, ↓AOps_call, on_some, extK_same, pval, rd_S, rd_C, put_S, chkd, bgot, AV.cells?, splice, partA, fillA, eq_self, List.replicate_succ, List.replicate_zero, List.set_cons_zero, List.set_cons_succ, List.getElem?_cons_zero, List.getElem?_cons_succ, List.drop_zero, List.drop_succ_cons, List.drop_nil, List.take_zero, List.take_succ_cons, List.take_nil, Option.getD_some, Option.map_some, map_c, map_n, List.length_cons, List.length_nil, Nat.reduceAdd, Nat.reduceSub, Nat.reduceLeDiff, Nat.reduceEqDiff, Nat.zero_add, List.cons_append, List.nil_append, List.append_nil, bin_sub, w64, if_true, if_false, and_true]
  refine CallK.of (c_rend hL hV h) ?_
  simp (maxSteps := 4000000) -implicitDefEqProofs -dsimp (disch := omega) only [↓AW_ret, ↓AOps_nil, ↓AOps_pu, ↓AOps_ha, on_some, extK_app, extK_same, ↓then_normal, ↓Fin_ret, pval, hval, rd_S, put_S, resV, resL, AV.cells?, splice, fillA, repl, eq_self, List.replicate_succ, List.replicate_zero, List.set_cons_zero, List.set_cons_succ, List.getElem?_cons_zero, List.getElem?_cons_succ, List.drop_zero, List.drop_succ_cons, List.drop_nil, List.take_zero, List.take_succ_cons, Option.getD_some, Option.map_some, map_c, map_n, List.length_cons, List.length_nil, Nat.reduceAdd, Nat.reduceSub, Nat.reduceLeDiff, Nat.zero_add, List.cons_append, List.nil_append, List.append_nil, if_true, and_true, R]
  exact gc_all
/-- The first error of a field that must have two owners. -/
def twE (L : List Int) (V : List (List Int)) : Int := if kE L V = 0 then (if (V.length : Int) = 2 then 0 else 5) else kE L V
theorem s73 (hL : L1 A x L) (hV : LL A y ws) (hs : Sz L ws) : ACalls Try.prog 73 [.agg [x, y]] A (I (twE L (lists ws))) A := by
  refine acalls hmix Try.func73 (by kernel_rfl) t73 1 rfl (by decide) ?_
  have hll : ((lists ws).length : Int) = ws.length := by simp
  dsimp only [m73]
  simp (maxSteps := 4000000) -implicitDefEqProofs -dsimp (disch := omega) only [↓AW_ops, ↓AW_seq, ↓AOps_nil, ↓AOps_pu, ↓AOps_call, on_some, ↓then_normal, pval, rd_S, rd_C, put_S, chkd, bgot, AV.cells?, partA, eq_self, List.replicate_succ, List.replicate_zero, List.set_cons_zero, List.set_cons_succ, List.getElem?_cons_zero, List.getElem?_cons_succ, List.drop_zero, List.take_succ_cons, List.take_nil, Option.getD_some, map_c, map_n, List.length_cons, List.length_nil, Nat.reduceAdd, Nat.reduceSub, Nat.reduceLeDiff, Nat.reduceEqDiff, Nat.zero_add, List.cons_append, List.nil_append, if_true, if_false]
  refine CallK.of (s26 hL hV hs.l hs.v hs.w) ?_
  by_cases h0 : kE L (lists ws) = 0
  · by_cases h1 : (ws.length : Int) = 2
    · simp (maxSteps := 4000000) -implicitDefEqProofs -dsimp (disch := omega) only [↓AW_skip, ↓AW_ops, ↓AW_seq, ↓AW_cond, ↓AW_ret, ↓AOps_nil, ↓AOps_pu, on_some, extK_same, condB_f, ↓then_normal, ↓Fin_ret, pval, rd_S, rd_C, put_S, resV, resL, chkd, isAdr, bgot, AV.cells?, partA, eq_self, List.replicate_succ, List.replicate_zero, List.set_cons_zero, List.set_cons_succ, List.getElem?_cons_zero, List.getElem?_cons_succ, List.drop_zero, List.drop_succ_cons, List.take_succ_cons, List.take_nil, Option.getD_some, List.length_cons, List.length_nil, Nat.reduceAdd, Nat.reduceSub, Nat.reduceLeDiff, Nat.zero_add, List.cons_append, List.nil_append, bin_neq, if_true, if_false, Bool.false_eq_true, decide_false, not_true_eq_false, h0, hV.ls.len, h1]
      exact gc_same (by rw [twE, if_pos h0, hll, if_pos h1])
    · simp (maxSteps := 4000000) -implicitDefEqProofs -dsimp (disch := omega) only [↓AW_skip, ↓AW_ops, ↓AW_seq, ↓AW_cond, ↓AW_ret, ↓AOps_nil, ↓AOps_pu, on_some, extK_same, condB_t, condB_f, ↓then_normal, ↓then_ret, ↓Fin_ret, pval, rd_S, rd_C, put_S, resV, resL, chkd, isAdr, bgot, AV.cells?, partA, eq_self, List.replicate_succ, List.replicate_zero, List.set_cons_zero, List.set_cons_succ, List.getElem?_cons_zero, List.getElem?_cons_succ, List.drop_zero, List.drop_succ_cons, List.take_succ_cons, List.take_nil, Option.getD_some, List.length_cons, List.length_nil, Nat.reduceAdd, Nat.reduceSub, Nat.reduceLeDiff, Nat.zero_add, List.cons_append, List.nil_append, bin_neq, if_true, if_false, Bool.false_eq_true, decide_true, decide_false, not_true_eq_false, not_false_eq_true, h0, hV.ls.len, h1]
      exact gc_same (by rw [twE, if_pos h0, hll, if_neg h1])
  · simp (maxSteps := 4000000) -implicitDefEqProofs -dsimp (disch := omega) only [↓AW_ops, ↓AW_seq, ↓AW_cond, ↓AW_ret, ↓AOps_nil, ↓AOps_pu, on_some, extK_same, condB_t, ↓then_normal, ↓then_ret, ↓Fin_ret, pval, rd_S, rd_C, put_S, resV, resL, List.replicate_succ, List.replicate_zero, List.set_cons_zero, List.set_cons_succ, List.getElem?_cons_zero, List.getElem?_cons_succ, Option.getD_some, Nat.reduceSub, List.cons_append, List.nil_append, bin_neq, decide_true, not_false_eq_true, h0]
    exact gc_same (by rw [twE, if_neg h0])
theorem s78 (hL : L1 A x L) (hV : LL A y ws) (hs : Sz L ws) : ACalls Try.prog 78 [.agg [x, y]] A (I (twE L (lists ws))) A := by
  refine acalls hmix Try.func78 (by kernel_rfl) t78 1 rfl (by decide) ?_
  have hll : ((lists ws).length : Int) = ws.length := by simp
  dsimp only [m78]
  simp (maxSteps := 4000000) -implicitDefEqProofs -dsimp (disch := omega) only [↓AW_ops, ↓AW_seq, ↓AOps_nil, ↓AOps_pu, ↓AOps_call, on_some, ↓then_normal, pval, rd_S, rd_C, put_S, chkd, bgot, AV.cells?, partA, eq_self, List.replicate_succ, List.replicate_zero, List.set_cons_zero, List.set_cons_succ, List.getElem?_cons_zero, List.getElem?_cons_succ, List.drop_zero, List.take_succ_cons, List.take_nil, Option.getD_some, map_c, map_n, List.length_cons, List.length_nil, Nat.reduceAdd, Nat.reduceSub, Nat.reduceLeDiff, Nat.reduceEqDiff, Nat.zero_add, List.cons_append, List.nil_append, if_true, if_false]
  refine CallK.of (s27 hL hV hs.l hs.v hs.w) ?_
  by_cases h0 : kE L (lists ws) = 0
  · by_cases h1 : (ws.length : Int) = 2
    · simp (maxSteps := 4000000) -implicitDefEqProofs -dsimp (disch := omega) only [↓AW_skip, ↓AW_ops, ↓AW_seq, ↓AW_cond, ↓AW_ret, ↓AOps_nil, ↓AOps_pu, ↓AOps_guard, on_some, extK_same, guardB_tt, condB_f, ↓then_normal, ↓Fin_ret, pval, rd_S, rd_C, put_S, resV, resL, chkd, isAdr, bgot, AV.cells?, partA, eq_self, List.replicate_succ, List.replicate_zero, List.set_cons_zero, List.set_cons_succ, List.getElem?_cons_zero, List.getElem?_cons_succ, List.drop_zero, List.drop_succ_cons, List.take_succ_cons, List.take_nil, Option.getD_some, List.length_cons, List.length_nil, Nat.reduceAdd, Nat.reduceSub, Nat.reduceLeDiff, Nat.zero_add, List.cons_append, List.nil_append, bin_eql, bin_neq, if_true, if_false, Bool.false_eq_true, decide_true, decide_false, not_true_eq_false, h0, hV.ls.len, h1]
      exact gc_same (by rw [twE, if_pos h0, hll, if_pos h1])
    · simp (maxSteps := 4000000) -implicitDefEqProofs -dsimp (disch := omega) only [↓AW_ops, ↓AW_seq, ↓AW_cond, ↓AW_ret, ↓AOps_nil, ↓AOps_pu, ↓AOps_guard, on_some, extK_same, guardB_tt, condB_t, ↓then_normal, ↓then_ret, ↓Fin_ret, pval, rd_S, rd_C, put_S, resV, resL, chkd, isAdr, bgot, AV.cells?, partA, eq_self, List.replicate_succ, List.replicate_zero, List.set_cons_zero, List.set_cons_succ, List.getElem?_cons_zero, List.getElem?_cons_succ, List.drop_zero, List.drop_succ_cons, List.take_succ_cons, List.take_nil, Option.getD_some, List.length_cons, List.length_nil, Nat.reduceAdd, Nat.reduceSub, Nat.reduceLeDiff, Nat.zero_add, List.cons_append, List.nil_append, bin_eql, bin_neq, if_true, if_false, Bool.false_eq_true, decide_true, not_false_eq_true, h0, hV.ls.len, h1]
      exact gc_same (by rw [twE, if_pos h0, hll, if_neg h1])
  · simp (maxSteps := 4000000) -implicitDefEqProofs -dsimp (disch := omega) only [↓AW_skip, ↓AW_ops, ↓AW_seq, ↓AW_cond, ↓AW_ret, ↓AOps_nil, ↓AOps_pu, ↓AOps_guard, on_some, extK_same, guardB_ft, skipS_some, condB_f, ↓then_normal, ↓Fin_ret, pval, rd_S, rd_C, put_S, resV, resL, List.replicate_succ, List.replicate_zero, List.set_cons_zero, List.set_cons_succ, List.getElem?_cons_zero, List.getElem?_cons_succ, Option.getD_some, Nat.reduceSub, List.cons_append, List.nil_append, bin_eql, if_false, Bool.false_eq_true, decide_false, h0]
    exact gc_same (by rw [twE, if_neg h0])
theorem twE_0 {ws : List (AV × List Int)} (h : twE L (lists ws) = 0) : KG L (lists ws) ∧ ∃ w0 w1, ws = [w0, w1] := by
  unfold twE at h
  split at h
  · rename_i h0
    split at h
    · rename_i h1
      have hll : ((lists ws).length : Int) = ws.length := by simp
      have hl2 : ws.length = 2 := by omega
      match ws, hl2 with
      | [a, b], _ => exact ⟨KG.of h0, a, b, rfl⟩
    · cases h
  · rename_i h0; exact absurd h h0
theorem rp_isK {V : List (List Int)} (h : KG L V) {z : Rat} (h0 : 0 ≤ z) (h1 : z ≤ ((L.sum : Int) : Rat)) (hd : (z.den : Int) ≤ 1000000) : isK L (rp z) ∧ qr (rp z) = z := by
  refine ⟨⟨⟨⟨?_, hd⟩, ?_⟩, ?_, ?_⟩, (R_self z).symm⟩
  · have := den_pos z
    show 1 ≤ (z.den : Int)
    omega
  · show Int.gcd z.num (z.den : Int) = 1
    have := z.reduced
    unfold Int.gcd
    simpa [Nat.Coprime] using this
  · exact Rat.num_nonneg.2 h0
  · rw [Rat.le_iff] at h1
    have h1 : z.num * (1 : Int) ≤ L.sum * (z.den : Int) := h1
    show z.num ≤ L.sum * (z.den : Int)
    omega
theorem CP2 {V : List (List Int)} (h : KG L V) (hV2 : V.length = 2) {z : Rat} (h0 : 0 ≤ z) (h1 : z ≤ ((L.sum : Int) : Rat)) (hd : (z.den : Int) ≤ 1000000) {c : Int} (hc : c = 0 ∨ c = 1) : CP L V (pcs2 L c z) := by
  obtain ⟨k1, k2⟩ := rp_isK h h0 h1 hd
  obtain ⟨i1, i2⟩ := isK_ends h
  have hdp := den_pos z
  refine ⟨by simp [pcs2, hV2], fun i hi => ?_, rfl, ?_⟩
  · have hi2 : i = 0 ∨ i = 1 := by simp [pcs2] at hi; omega
    rcases hi2 with rfl | rfl
    · refine ⟨by show 0 ≤ c ∧ c ≤ (V.length : Int) - 1; omega, by simp, i1, k1, rfl, ?_⟩
      show ¬ qr (rp z) < qr (0, 1)
      rw [k2, qr_zero]
      exact Rat.not_lt.2 h0
    · refine ⟨by show 0 ≤ 1 - c ∧ 1 - c ≤ (V.length : Int) - 1; omega, ?_, k1, i2, rfl, ?_⟩
      · show ¬ (1 - c) ∈ [c]
        simp
        omega
      · show ¬ qr (L.sum, 1) < qr (rp z)
        rw [k2, qr_one]
        exact Rat.not_lt.2 h1
  · refine cmn_le (D := z.den) ⟨hdp, hd⟩ _ 1 (by omega) (Int.one_dvd _) ?_
    intro d hdm
    have : d = 1 ∨ d = (z.den : Int) := by simp [plcs, pcs2, rp] at hdm; omega
    rcases this with rfl | rfl
    · exact ⟨by omega, Int.one_dvd _⟩
    · exact ⟨hdp, Int.dvd_refl _⟩
end
end Go.Proofs.Ytmblehbjedpjoaa

namespace Go.Proofs.Ytmblehbjedpjoaa
open Go Go.Eng
theorem rch_ex (x : Rat) : ∀ (us : List Int) (b a : Int), (a : Rat) < x → x ≤ ((a + us.sum : Int) : Rat) → ∃ z, rch b a us x = some z
  | [], b, a, h, k => by
    rw [List.sum_nil, Int.add_zero] at k
    exact absurd h (Rat.not_lt.2 k)
  | u :: us, b, a, h, k => by
    rw [rch]
    split
    · exact ⟨_, rfl⟩
    · rename_i hn
      rw [List.sum_cons, ← Int.add_assoc] at k
      exact rch_ex x us (b + 1) (a + u) (Rat.not_le.1 hn) k
/-- A worth that is there is found. -/
theorem plc_ex {f : List (Int × Int)} (hg : good f) {p w : Rat} (hp : Pl f p) (hw : Wh w) (h : upTo 0 f p + w ≤ ((tot f : Int) : Rat)) : ∃ z, plc f p w = some z := by
  unfold plc
  split
  · exact ⟨_, rfl⟩
  · rename_i h0
    have hwp : 0 < w := by
      have := Rat.num_nonneg.2 hw.h0
      exact num_pos_iff w |>.1 (by omega)
    have hbp := upTo_bounds hg 0 p
    refine rch_ex _ _ 0 0 (by rw [int0]; grind) ?_
    rw [Int.zero_add, sum_units hg.2]
    exact h
/-- The denominator of what is found. -/
theorem plc_den {f : List (Int × Int)} (hg : good f) {p w z : Rat} (hp : Pl f p) (hw : Wh w) (h : plc f p w = some z) : ∃ v : Int, (1 ≤ v ∧ v ≤ 20) ∧ Dv ((p.den : Int) * w.den * v) z := by
  have d1 := den_pos p
  have d2 := den_pos w
  have hDp : Dv ((p.den : Int) * w.den) p := (Dv_self p).dvd (Int.dvd_mul_right _ _)
  have hDu : Dv ((p.den : Int) * w.den) (upTo 0 f p) := (upTo_Dv (Dv_self p) f 0).dvd (Int.dvd_mul_right _ _)
  have hDw : Dv ((p.den : Int) * w.den) w := (Dv_self w).dvd (Int.dvd_mul_left _ _)
  unfold plc at h
  split at h
  · have : p = z := Option.some.inj h
    subst this
    exact ⟨1, by omega, by rw [Int.mul_one]; exact hDp⟩
  · rename_i h0
    have hwp : 0 < w := by
      have := Rat.num_nonneg.2 hw.h0
      exact num_pos_iff w |>.1 (by omega)
    have hbp := upTo_bounds hg 0 p
    obtain ⟨⟨v, hv, b', a', hy⟩, _, _⟩ := rch_some _ (units f) 0 0 z (units_le hg.2) (by have : ((0 : Int) : Rat) = 0 := rfl; grind) h
    refine ⟨v, hv, ?_⟩
    rw [hy]
    exact (Dv_int _ _).add (((hDu.add hDw).sub (Dv_int _ _)).div v (by omega))
theorem Dv_den {D : Int} {q : Rat} (hD : 0 < D) (h : Dv D q) : (q.den : Int) ≤ D := by
  obtain ⟨k, hk⟩ := h
  have e : q = (k : Rat) / (D : Rat) := by have := cast_ne (show D ≠ 0 by omega); grind
  have := (ratio_le k D hD).2
  rw [← e] at this
  exact this
/-- Where the field's first half ends. -/
theorem half_at {f : List (Int × Int)} (hg : good f) (ht : 1 ≤ tot f) : ∃ z, hP f = some z ∧ 0 ≤ z ∧ z ≤ ((len f : Int) : Rat) ∧ upTo 0 f z + upTo 0 f z = ((tot f : Int) : Rat) ∧ (z.den : Int) ≤ 40 := by
  have hw := pw_wh hg (n := 1) (m := 2) (by omega) (by omega)
  have hp0 := Pl_zero hg
  have hu0 : upTo 0 f ((0 : Int) : Rat) = 0 := upTo_none _ f 0 (all_pos hg.2) Rat.le_refl
  have hpw : pw f 1 2 + pw f 1 2 = ((tot f : Int) : Rat) := by
    unfold pw
    rw [Int.mul_one]
    have : ((2 : Int) : Rat) = 2 := rfl
    rw [this]
    grind
  have hpos := cast_nonneg (show 0 ≤ tot f by omega)
  obtain ⟨z, hz⟩ := plc_ex hg hp0 hw (by rw [hu0]; have := hw.h0; grind)
  obtain ⟨h1, h2, h3, _⟩ := plc_y hg hp0 hw hz
  obtain ⟨v, hv, hd⟩ := plc_den hg hp0 hw hz
  have hwd : ((pw f 1 2).den : Int) ≤ 2 := (ratio_le (tot f * 1) 2 (by omega)).2
  have hwp := den_pos (pw f 1 2)
  have e1 : ((((0 : Int) : Rat).den : Nat) : Int) = 1 := rfl
  rw [e1, Int.one_mul] at hd
  have hm : ((pw f 1 2).den : Int) * v ≤ 2 * 20 := Int.mul_le_mul hwd hv.2 (by omega) (by omega)
  have hm0 : 0 < ((pw f 1 2).den : Int) * v := Int.mul_pos hwp (by omega)
  refine ⟨z, hz, h1, h2, ?_, ?_⟩
  · rw [h3, hu0]; grind
  · have := Dv_den hm0 hd
    omega
section
variable {L : List Int} {ws : List (AV × List Int)} {x y : AV} {A : AHeap}
/-- Who takes the left piece: 'true': owner 0. -/
def chW (f1 : List (Int × Int)) (z : Rat) : Bool := decide (upTo 0 f1 z < ((tot f1 : Int) : Rat) - upTo 0 f1 z)
theorem Pl_of {V : List (List Int)} (h : KG L V) {r : List Int} (hr : r ∈ V) {z : Rat} (h0 : 0 ≤ z) (h1 : z ≤ ((L.sum : Int) : Rat)) (hd : (z.den : Int) ≤ 1048576) : Pl (L.zip r) z := Pl.of h0 (by rw [h.lenz hr]; exact h1) hd
theorem Sm_upTo {f : List (Int × Int)} (hg : good f) {z : Rat} (hd : (z.den : Int) ≤ 1048576) : Sm (upTo 0 f z) := by
  have hb := upTo_bounds hg 0 z
  exact Sm_of (M := 2400) (den_pos z) hd (by omega) (upTo_Dv (Dv_self z) f 0) (int_neg_le_zero (by omega) hb.1) hb.2
theorem upTo_end {V : List (List Int)} (h : KG L V) {r : List Int} (hr : r ∈ V) : upTo 0 (L.zip r) ((L.sum : Int) : Rat) = ((tot (L.zip r) : Int) : Rat) := by
  have hg := h.gd hr
  exact upTo_full _ _ 0 (all_pos hg.2) (by rw [Int.zero_add, h.lenz hr]; exact Rat.le_refl)
theorem flat_e5 (p : Pc) : ∀ y ∈ e5 p, flat y = true := by simp [e5, flat]
theorem OL_pcs2 {A A1 : AHeap} (hp : A <+: A1) (c : Int) (z : Rat) : OL 5 e5 A (A1 ++ [.cells true (cells2 L c z)]) A1.length (.sl 5 A1.length 0 2 true) (pcs2 L c z) :=
  ⟨e5_len, hp.trans (pre_app _ _), hp.length_le, by simp [cells2], true, rfl⟩
set_option maxRecDepth 20000 in
theorem s46 (hL : L1 A x L) (hV : LL A y ws) (hs : Sz L ws) : (∃ e, twE L (lists ws) = e ∧ e ≠ 0 ∧ ACalls Try.prog 46 [.agg [x, y]] A (.tuple [.nilS, I e]) A) ∨
    ∃ (w0 w1 : AV × List Int) (z : Rat) (c : Int), ws = [w0, w1] ∧ KG L (lists ws) ∧ hP (L.zip w0.2) = some z ∧ c = (if chW (L.zip w1.2) z then 0 else 1) ∧ twE L (lists ws) = 0 ∧ ACalls Try.prog 46 [.agg [x, y]] A (.tuple [.sl 5 A.length 0 2 true, I 0]) (A ++ [.cells true (cells2 L c z)]) := by
  by_cases h0 : twE L (lists ws) = 0
  · right
    obtain ⟨hg, w0, w1, hws⟩ := twE_0 h0
    have hk0 : ws[0]? = some w0 := by rw [hws]; rfl
    have hk1 : ws[1]? = some w1 := by rw [hws]; rfl
    have m0 := mem_lists (List.mem_of_getElem? hk0)
    have m1 := mem_lists (List.mem_of_getElem? hk1)
    have g0 := hg.gd m0
    have g1 := hg.gd m1
    obtain ⟨z, hz, z0, z1, z2, z3⟩ := half_at g0 (hg.tot_pos m0)
    rw [hg.lenz m0] at z1
    have hLs := hg.sum
    have hb1 := upTo_bounds g1 0 z
    have ht1 := tot_bound g1
    refine ⟨w0, w1, z, (if chW (L.zip w1.2) z then 0 else 1), hws, hg, hz, rfl, h0, ?_⟩
    refine acalls hmix Try.func46 (by kernel_rfl) t46 1 rfl (by decide) ?_
    dsimp only [m46]
    simp (maxSteps := 4000000) -implicitDefEqProofs -dsimp (disch := omega) only [↓AW_ops, ↓AW_seq, ↓AOps_nil, ↓AOps_pu, ↓AOps_call, on_some, ↓then_normal, pval, rd_S, rd_C, put_S, chkd, bgot, AV.cells?, partA, eq_self, List.replicate_succ, List.replicate_zero, List.set_cons_zero, List.set_cons_succ, List.getElem?_cons_zero, List.getElem?_cons_succ, List.drop_zero, List.take_succ_cons, List.take_nil, Option.getD_some, map_c, map_n, List.length_cons, List.length_nil, Nat.reduceAdd, Nat.reduceSub, Nat.reduceLeDiff, Nat.reduceEqDiff, Nat.zero_add, List.cons_append, List.nil_append, if_true, if_false]
    refine CallK.of (s73 hL hV hs) ?_
    have hh := c_half hL hV hg hk0
    rw [hz] at hh
    have p0 := Pl_of hg m1 (z := ((0 : Int) : Rat)) (by rw [int0]; exact Rat.le_refl) (Rat.intCast_le_intCast.2 (by omega)) (by show (1 : Int) ≤ 1048576; omega)
    have pz := Pl_of hg m1 z0 z1 (by omega)
    have pe := Pl_of hg m1 (z := ((L.sum : Int) : Rat)) (cast_nonneg (by omega)) Rat.le_refl (by show (1 : Int) ≤ 1048576; omega)
    have hwa := c_worth hL hV hg hk1 _ _ p0 pz z0
    have hwb := c_worth hL hV hg hk1 _ _ pz pe z1
    have e0 := upTo_at0 g1
    have e1' := upTo_end hg m1
    rw [e0] at hwa
    rw [e1'] at hwb
    have ea : upTo 0 (L.zip w1.2) z - 0 = upTo 0 (L.zip w1.2) z := by grind
    rw [ea] at hwa
    rw [show ((0 : Nat) : Int) = 0 from rfl] at hh
    rw [show ((1 : Nat) : Int) = 1 from rfl] at hwa hwb
    unfold oR at hh
    simp (maxSteps := 4000000) -implicitDefEqProofs -dsimp (disch := omega) only [↓AW_skip, ↓AW_ops, ↓AW_seq, ↓AW_cond, ↓AOps_nil, ↓AOps_pu, ↓AOps_call, on_some, extK_same, condB_f, ↓then_normal, pval, rd_S, rd_C, put_S, chkd, bgot, partA, eq_self, List.replicate_succ, List.replicate_zero, List.set_cons_zero, List.set_cons_succ, List.getElem?_cons_zero, List.getElem?_cons_succ, List.drop_zero, List.take_succ_cons, List.take_nil, Option.getD_some, map_c, map_n, List.length_cons, List.length_nil, Nat.reduceAdd, Nat.reduceSub, Nat.reduceLeDiff, Nat.reduceEqDiff, Nat.zero_add, List.cons_append, List.nil_append, bin_neq, if_true, if_false, decide_false, not_true_eq_false, h0]
    refine CallK.of hh ?_
    simp (maxSteps := 4000000) -implicitDefEqProofs -dsimp (disch := omega) only [↓AW_ops, ↓AW_seq, ↓AOps_nil, ↓AOps_pu, ↓AOps_call, on_some, extK_same, ↓then_normal, pval, rd_S, rd_C, put_S, chkd, bput, bgot, AV.cells?, splice, partA, eq_self, List.replicate_succ, List.replicate_zero, List.set_cons_zero, List.set_cons_succ, List.getElem?_cons_zero, List.getElem?_cons_succ, List.drop_zero, List.drop_succ_cons, List.drop_nil, List.take_zero, List.take_succ_cons, List.take_nil, Option.getD_some, map_c, map_n, List.length_cons, List.length_nil, Nat.reduceAdd, Nat.reduceSub, Nat.reduceLeDiff, Nat.reduceEqDiff, Nat.zero_add, List.cons_append, List.nil_append, List.append_nil, if_true, if_false, ne_eq, not_true_eq_false, R]
    refine CallK.of (s76 _ _) ?_
    simp (maxSteps := 4000000) -implicitDefEqProofs -dsimp (disch := omega) only [↓AOps_pu, ↓AOps_call, on_some, extK_same, pval, rd_S, rd_C, put_S, chkd, bgot, partA, eq_self, List.replicate_succ, List.replicate_zero, List.set_cons_zero, List.set_cons_succ, List.getElem?_cons_zero, List.getElem?_cons_succ, List.drop_zero, List.take_succ_cons, List.take_nil, Option.getD_some, map_c, map_n, List.length_cons, List.length_nil, Nat.reduceAdd, Nat.reduceSub, Nat.reduceLeDiff, Nat.reduceEqDiff, Nat.zero_add, List.cons_append, List.nil_append, if_true, if_false]
    have hRz : AV.agg [I z.num, I (z.den : Int)] = R z := rfl
    rw [hRz]
    refine CallK.of hwa ?_
    simp (maxSteps := 4000000) -implicitDefEqProofs -dsimp (disch := omega) only [↓AOps_pu, ↓AOps_call, on_some, extK_same, pval, rd_S, put_S, chkd, bgot, partA, eq_self, List.replicate_succ, List.replicate_zero, List.set_cons_zero, List.set_cons_succ, List.getElem?_cons_zero, List.getElem?_cons_succ, List.drop_zero, List.take_succ_cons, List.take_nil, Option.getD_some, map_c, map_n, List.length_cons, List.length_nil, Nat.reduceAdd, Nat.reduceSub, Nat.reduceLeDiff, Nat.reduceEqDiff, Nat.zero_add, List.cons_append, List.nil_append, if_true, if_false, R]
    refine CallK.of (c_end (y := y) hL hg) ?_
    simp (maxSteps := 4000000) -implicitDefEqProofs -dsimp (disch := omega) only [↓AOps_call, extK_same, rd_S, put_S, List.replicate_succ, List.replicate_zero, List.set_cons_zero, List.set_cons_succ, List.getElem?_cons_zero, List.getElem?_cons_succ, Option.getD_some, map_c, map_n, Nat.reduceSub, List.cons_append, List.nil_append]
    refine CallK.of (s76 _ _) ?_
    simp (maxSteps := 4000000) -implicitDefEqProofs -dsimp (disch := omega) only [↓AOps_call, extK_same, rd_S, rd_C, put_S, List.replicate_succ, List.replicate_zero, List.set_cons_zero, List.set_cons_succ, List.getElem?_cons_zero, List.getElem?_cons_succ, Option.getD_some, map_c, map_n, Nat.reduceSub, List.cons_append, List.nil_append]
    rw [hRz]
    refine CallK.of hwb ?_
    simp (maxSteps := 4000000) -implicitDefEqProofs -dsimp (disch := omega) only [↓AOps_call, extK_same, rd_S, put_S, List.replicate_succ, List.replicate_zero, List.set_cons_zero, List.set_cons_succ, List.getElem?_cons_zero, List.getElem?_cons_succ, Option.getD_some, map_c, map_n, Nat.reduceSub, List.cons_append, List.nil_append]
    have s1 := Sm_upTo g1 (z := z) (by omega)
    have s2 : Sm (((tot (L.zip w1.2) : Int) : Rat) - upTo 0 (L.zip w1.2) z) := by
      refine Sm_of (M := 2400) (den_pos z) (by omega) (by omega) ((Dv_int _ _).sub (upTo_Dv (Dv_self z) _ 0)) ?_ ?_
      · have hT : (0 : Rat) ≤ ((tot (L.zip w1.2) : Int) : Rat) := cast_nonneg ht1.1
        have := hb1.2
        rw [Rat.intCast_neg]
        grind
      · have hT : ((tot (L.zip w1.2) : Int) : Rat) ≤ ((2400 : Int) : Rat) := Rat.intCast_le_intCast.2 ht1.2
        have := hb1.1
        grind
    refine CallK.of (s65 _ _ _ s1 s2) ?_
    by_cases hc : upTo 0 (L.zip w1.2) z < ((tot (L.zip w1.2) : Int) : Rat) - upTo 0 (L.zip w1.2) z
    · have hn := (sub_neg_iff _ _).2 hc
      have hn' : ¬ 0 ≤ (upTo 0 (L.zip w1.2) z - (((tot (L.zip w1.2) : Int) : Rat) - upTo 0 (L.zip w1.2) z)).num := by omega
      simp (maxSteps := 4000000) -implicitDefEqProofs -dsimp (disch := omega) only [↓AW_skip, ↓AW_ops, ↓AW_seq, ↓AW_cond, ↓AOps_nil, ↓AOps_pu, ↓AOps_call, on_some, extK_same, condB_f, ↓then_normal, pval, rd_S, rd_C, put_S, chkd, bgot, partA, eq_self, List.replicate_succ, List.replicate_zero, List.set_cons_zero, List.set_cons_succ, List.getElem?_cons_zero, List.getElem?_cons_succ, List.drop_zero, List.take_succ_cons, List.take_nil, Option.getD_some, map_c, map_n, List.length_cons, List.length_nil, Nat.reduceAdd, Nat.reduceSub, Nat.reduceLeDiff, Nat.reduceEqDiff, Nat.zero_add, List.cons_append, List.nil_append, bin_geq, if_true, if_false, decide_false, hn']
      rw [hRz]
      refine CallK.of (c_halves hL hg 0 (.inl rfl) z) ?_
      simp (maxSteps := 4000000) -implicitDefEqProofs -dsimp (disch := omega) only [↓AW_ret, ↓AOps_nil, ↓AOps_pu, on_some, extK_app, ↓then_normal, ↓Fin_ret, pval, rd_S, rd_C, put_S, resV, resL, List.replicate_succ, List.replicate_zero, List.set_cons_zero, List.set_cons_succ, List.getElem?_cons_zero, List.getElem?_cons_succ, Option.getD_some, Nat.reduceSub, List.cons_append, List.nil_append]
      have hcc : chW (L.zip w1.2) z = true := decide_eq_true hc
      rw [hcc]
      exact gc_all
    · have hn' : 0 ≤ (upTo 0 (L.zip w1.2) z - (((tot (L.zip w1.2) : Int) : Rat) - upTo 0 (L.zip w1.2) z)).num := by
        have : ¬ (upTo 0 (L.zip w1.2) z - (((tot (L.zip w1.2) : Int) : Rat) - upTo 0 (L.zip w1.2) z)).num < 0 := fun h => hc ((sub_neg_iff _ _).1 h)
        omega
      simp (maxSteps := 4000000) -implicitDefEqProofs -dsimp (disch := omega) only [↓AW_ops, ↓AW_seq, ↓AW_cond, ↓AOps_nil, ↓AOps_pu, ↓AOps_call, on_some, extK_same, condB_t, ↓then_normal, pval, rd_S, rd_C, put_S, chkd, bgot, partA, eq_self, List.replicate_succ, List.replicate_zero, List.set_cons_zero, List.set_cons_succ, List.getElem?_cons_zero, List.getElem?_cons_succ, List.drop_zero, List.take_succ_cons, List.take_nil, Option.getD_some, map_c, map_n, List.length_cons, List.length_nil, Nat.reduceAdd, Nat.reduceSub, Nat.reduceLeDiff, Nat.reduceEqDiff, Nat.zero_add, List.cons_append, List.nil_append, bin_geq, if_true, if_false, decide_true, hn']
      rw [hRz]
      refine CallK.of (c_halves hL hg 1 (.inr rfl) z) ?_
      simp (maxSteps := 4000000) -implicitDefEqProofs -dsimp (disch := omega) only [↓AW_ret, ↓AOps_nil, ↓AOps_pu, on_some, extK_app, ↓then_normal, ↓then_ret, ↓Fin_ret, pval, rd_S, rd_C, put_S, resV, resL, List.replicate_succ, List.replicate_zero, List.set_cons_zero, List.set_cons_succ, List.getElem?_cons_zero, List.getElem?_cons_succ, Option.getD_some, Nat.reduceSub, List.cons_append, List.nil_append]
      have hcc : chW (L.zip w1.2) z = false := decide_eq_false hc
      rw [hcc]
      exact gc_all
  · left
    refine ⟨_, rfl, h0, ?_⟩
    refine acalls hmix Try.func46 (by kernel_rfl) t46 1 rfl (by decide) ?_
    dsimp only [m46]
    simp (maxSteps := 4000000) -implicitDefEqProofs -dsimp (disch := omega) only [↓AW_ops, ↓AW_seq, ↓AOps_nil, ↓AOps_pu, ↓AOps_call, on_some, ↓then_normal, pval, rd_S, rd_C, put_S, chkd, bgot, AV.cells?, partA, eq_self, List.replicate_succ, List.replicate_zero, List.set_cons_zero, List.set_cons_succ, List.getElem?_cons_zero, List.getElem?_cons_succ, List.drop_zero, List.take_succ_cons, List.take_nil, Option.getD_some, map_c, map_n, List.length_cons, List.length_nil, Nat.reduceAdd, Nat.reduceSub, Nat.reduceLeDiff, Nat.reduceEqDiff, Nat.zero_add, List.cons_append, List.nil_append, if_true, if_false]
    refine CallK.of (s73 hL hV hs) ?_
    simp (maxSteps := 4000000) -implicitDefEqProofs -dsimp (disch := omega) only [↓AW_ops, ↓AW_seq, ↓AW_cond, ↓AW_ret, ↓AOps_nil, ↓AOps_pu, on_some, extK_same, condB_t, ↓then_normal, ↓then_ret, ↓Fin_ret, pval, rd_S, rd_C, put_S, resV, resL, List.replicate_succ, List.replicate_zero, List.set_cons_zero, List.set_cons_succ, List.getElem?_cons_zero, List.getElem?_cons_succ, Option.getD_some, Nat.reduceSub, List.cons_append, List.nil_append, bin_neq, decide_true, not_false_eq_true, h0]
    exact gc_same rfl
set_option maxRecDepth 20000 in
theorem s47 (hL : L1 A x L) (hV : LL A y ws) (hs : Sz L ws) : (twE L (lists ws) ≠ 0 → ACalls Try.prog 47 [.agg [x, y]] A (.tuple [.nilS, I (twE L (lists ws))]) A) ∧
    ∀ (w0 w1 : AV × List Int) (z : Rat) (c : Int), ws = [w0, w1] → KG L (lists ws) → hP (L.zip w0.2) = some z → c = (if chW (L.zip w1.2) z then 0 else 1) → twE L (lists ws) = 0 → ACalls Try.prog 47 [.agg [x, y]] A (.tuple [outV 5 A (pcs2 L c z).length, I 0]) (outH A ((pcs2 L c z).flatMap e5) (pcs2 L c z).length) := by
  constructor
  · intro h0
    refine acalls hmix Try.func47 (by kernel_rfl) t47 1 rfl (by decide) ?_
    dsimp only [m47]
    simp (maxSteps := 4000000) -implicitDefEqProofs -dsimp (disch := omega) only [↓AW_ops, ↓AW_seq, ↓AOps_nil, ↓AOps_pu, ↓AOps_call, on_some, ↓then_normal, pval, rd_S, rd_C, put_S, chkd, bgot, AV.cells?, partA, eq_self, List.replicate_succ, List.replicate_zero, List.set_cons_zero, List.set_cons_succ, List.getElem?_cons_zero, List.getElem?_cons_succ, List.drop_zero, List.take_succ_cons, List.take_nil, Option.getD_some, map_c, map_n, List.length_cons, List.length_nil, Nat.reduceAdd, Nat.reduceSub, Nat.reduceLeDiff, Nat.reduceEqDiff, Nat.zero_add, List.cons_append, List.nil_append, if_true, if_false]
    refine CallK.of (s78 hL hV hs) ?_
    simp (maxSteps := 4000000) -implicitDefEqProofs -dsimp (disch := omega) only [↓AW_ops, ↓AW_seq, ↓AW_cond, ↓AW_ret, ↓AOps_nil, ↓AOps_pu, on_some, extK_same, condB_t, ↓then_normal, ↓then_ret, ↓Fin_ret, pval, rd_S, rd_C, put_S, resV, resL, List.replicate_succ, List.replicate_zero, List.set_cons_zero, List.set_cons_succ, List.getElem?_cons_zero, List.getElem?_cons_succ, Option.getD_some, Nat.reduceSub, List.cons_append, List.nil_append, bin_neq, decide_true, not_false_eq_true, h0]
    exact gc_same rfl
  · intro w0 w1 z c hws hg hz hcd h0
    subst hcd
    have hk0 : ws[0]? = some w0 := by rw [hws]; rfl
    have hk1 : ws[1]? = some w1 := by rw [hws]; rfl
    have m0 := mem_lists (List.mem_of_getElem? hk0)
    have m1 := mem_lists (List.mem_of_getElem? hk1)
    have g0 := hg.gd m0
    have g1 := hg.gd m1
    obtain ⟨z', hz', z0, z1, z2, z3⟩ := half_at g0 (hg.tot_pos m0)
    rw [hz] at hz'
    have := Option.some.inj hz'
    subst this
    rw [hg.lenz m0] at z1
    have hLs := hg.sum
    have hb1 := upTo_bounds g1 0 z
    have ht1 := tot_bound g1
    have hu1 := len_units g1.2
    have hlb1 := len_bound g1
    refine acalls hmix Try.func47 (by kernel_rfl) t47 1 rfl (by decide) ?_
    dsimp only [m47]
    simp (maxSteps := 4000000) -implicitDefEqProofs -dsimp (disch := omega) only [↓AW_ops, ↓AW_seq, ↓AOps_nil, ↓AOps_pu, ↓AOps_call, on_some, ↓then_normal, pval, rd_S, rd_C, put_S, chkd, bgot, AV.cells?, partA, eq_self, List.replicate_succ, List.replicate_zero, List.set_cons_zero, List.set_cons_succ, List.getElem?_cons_zero, List.getElem?_cons_succ, List.drop_zero, List.take_succ_cons, List.take_nil, Option.getD_some, map_c, map_n, List.length_cons, List.length_nil, Nat.reduceAdd, Nat.reduceSub, Nat.reduceLeDiff, Nat.reduceEqDiff, Nat.zero_add, List.cons_append, List.nil_append, if_true, if_false]
    refine CallK.of (s78 hL hV hs) ?_
    simp (maxSteps := 4000000) -implicitDefEqProofs -dsimp (disch := omega) only [↓AW_skip, ↓AW_ops, ↓AW_seq, ↓AW_cond, ↓AOps_nil, ↓AOps_pu, ↓AOps_call, on_some, extK_same, condB_f, ↓then_normal, pval, rd_S, rd_C, put_S, chkd, bgot, partA, eq_self, List.replicate_succ, List.replicate_zero, List.set_cons_zero, List.set_cons_succ, List.getElem?_cons_zero, List.getElem?_cons_succ, List.drop_zero, List.take_succ_cons, List.take_nil, Option.getD_some, map_c, map_n, List.length_cons, List.length_nil, Nat.reduceAdd, Nat.reduceSub, Nat.reduceLeDiff, Nat.reduceEqDiff, Nat.zero_add, List.cons_append, List.nil_append, bin_neq, if_true, if_false, decide_false, not_true_eq_false, h0]
    refine CallK.of (s36 _ _) ?_
    simp (maxSteps := 4000000) -implicitDefEqProofs -dsimp (disch := omega) only [↓AOps_call, extK_same, rd_S, rd_C, put_S, List.replicate_succ, List.replicate_zero, List.set_cons_zero, List.set_cons_succ, List.getElem?_cons_zero, List.getElem?_cons_succ, Option.getD_some, map_c, map_n, Nat.reduceSub, List.cons_append, List.nil_append]
    have hm := c_rmark hL hV hg hk0 _ (Pl_zero g0) (n := 1) (m := 2) (by omega) (by omega)
    have hz2 := hz
    unfold hP at hz2
    rw [hz2, show ((0 : Nat) : Int) = 0 from rfl] at hm
    unfold oR at hm
    refine CallK.of hm ?_
    simp (maxSteps := 4000000) -implicitDefEqProofs -dsimp (disch := omega) only [↓AW_ops, ↓AW_seq, ↓AOps_nil, ↓AOps_pu, ↓AOps_call, on_some, extK_same, ↓then_normal, pval, rd_S, rd_C, put_S, chkd, bput, bgot, AV.cells?, splice, partA, eq_self, List.replicate_succ, List.replicate_zero, List.set_cons_zero, List.set_cons_succ, List.getElem?_cons_zero, List.getElem?_cons_succ, List.drop_zero, List.drop_succ_cons, List.drop_nil, List.take_zero, List.take_succ_cons, List.take_nil, Option.getD_some, map_c, map_n, List.length_cons, List.length_nil, Nat.reduceAdd, Nat.reduceSub, Nat.reduceLeDiff, Nat.reduceEqDiff, Nat.zero_add, List.cons_append, List.nil_append, List.append_nil, if_true, if_false, ne_eq, not_true_eq_false, R]
    have hun := c_units hL hV hg hk1
    rw [show ((1 : Nat) : Int) = 1 from rfl] at hun
    refine CallK.of hun ?_
    have hu := units_ls A (L.zip w1.2)
    have hp := pre_out A ((units (L.zip w1.2)).flatMap e1) (units (L.zip w1.2)).length
    simp (maxSteps := 4000000) -implicitDefEqProofs -dsimp (disch := omega) only [↓AOps_pu, ↓AOps_call, on_some, extK_false, pval, rd_S, put_S, chkd, bgot, partA, eq_self, List.replicate_succ, List.replicate_zero, List.set_cons_zero, List.set_cons_succ, List.getElem?_cons_zero, List.getElem?_cons_succ, List.drop_zero, List.take_succ_cons, List.take_nil, Option.getD_some, map_c, map_n, List.length_cons, List.length_nil, Nat.reduceAdd, Nat.reduceSub, Nat.reduceLeDiff, Nat.reduceEqDiff, Nat.zero_add, List.cons_append, List.nil_append, if_true, if_false]
    generalize outV 1 A (units (L.zip w1.2)).length = u at *
    generalize outH A ((units (L.zip w1.2)).flatMap e1) (units (L.zip w1.2)).length = A1 at *
    have hRz : AV.agg [I z.num, I (z.den : Int)] = R z := rfl
    rw [hRz]
    have pz := Pl_of hg m1 z0 z1 (by omega)
    have hbf := s104 hu (by omega) (units_le g1.2) z (pz.sm g1) pz.1.1 (by rw [hu1]; exact pz.1.2)
    rw [upTo_units _ _ 0 g1.2] at hbf
    refine CallK.of hbf ?_
    simp (maxSteps := 4000000) -implicitDefEqProofs -dsimp (disch := omega) only [↓AW_ops, ↓AW_seq, ↓AOps_nil, ↓AOps_pu, ↓AOps_call, on_some, extK_same, ↓then_normal, pval, rd_S, rd_C, put_S, chkd, bput, bgot, AV.cells?, splice, partA, eq_self, List.replicate_succ, List.replicate_zero, List.set_cons_zero, List.set_cons_succ, List.getElem?_cons_zero, List.getElem?_cons_succ, List.drop_zero, List.drop_succ_cons, List.drop_nil, List.take_zero, List.take_succ_cons, List.take_nil, Option.getD_some, map_c, map_n, List.length_cons, List.length_nil, Nat.reduceAdd, Nat.reduceSub, Nat.reduceLeDiff, Nat.reduceEqDiff, Nat.zero_add, List.cons_append, List.nil_append, List.append_nil, if_true, if_false, ne_eq, not_true_eq_false, R]
    have hal := c_all (hL.mono hp) (hV.mono hp) hg hk1
    rw [show ((1 : Nat) : Int) = 1 from rfl] at hal
    refine CallK.of hal ?_
    simp (maxSteps := 4000000) -implicitDefEqProofs -dsimp (disch := omega) only [↓AOps_call, extK_same, rd_S, put_S, List.replicate_succ, List.replicate_zero, List.set_cons_zero, List.set_cons_succ, List.getElem?_cons_zero, List.getElem?_cons_succ, Option.getD_some, map_c, map_n, Nat.reduceSub, List.cons_append, List.nil_append]
    refine CallK.of (s36 _ _) ?_
    simp (maxSteps := 4000000) -implicitDefEqProofs -dsimp (disch := omega) only [↓AOps_pu, ↓AOps_call, on_some, extK_same, pval, rd_S, put_S, chkd, bgot, partA, eq_self, List.replicate_succ, List.replicate_zero, List.set_cons_zero, List.set_cons_succ, List.getElem?_cons_zero, List.getElem?_cons_succ, List.drop_zero, List.take_succ_cons, List.take_nil, Option.getD_some, map_c, map_n, List.length_cons, List.length_nil, Nat.reduceAdd, Nat.reduceSub, Nat.reduceLeDiff, Nat.reduceEqDiff, Nat.zero_add, List.cons_append, List.nil_append, if_true, if_false]
    have hRu : AV.agg [I (upTo 0 (L.zip w1.2) z).num, I ((upTo 0 (L.zip w1.2) z).den : Int)] = R (upTo 0 (L.zip w1.2) z) := rfl
    rw [hRu]
    have s1 := Sm_upTo g1 (z := z) (by omega)
    have s2 : Sm (((tot (L.zip w1.2) : Int) : Rat) - upTo 0 (L.zip w1.2) z) := by
      refine Sm_of (M := 2400) (den_pos z) (by omega) (by omega) ((Dv_int _ _).sub (upTo_Dv (Dv_self z) _ 0)) ?_ ?_
      · have hT : (0 : Rat) ≤ ((tot (L.zip w1.2) : Int) : Rat) := cast_nonneg ht1.1
        have := hb1.2
        rw [Rat.intCast_neg]
        grind
      · have hT : ((tot (L.zip w1.2) : Int) : Rat) ≤ ((2400 : Int) : Rat) := Rat.intCast_le_intCast.2 ht1.2
        have := hb1.1
        grind
    refine CallK.of (s55 _ _ _ (Sm_int (by omega)) s1) ?_
    simp (maxSteps := 4000000) -implicitDefEqProofs -dsimp (disch := omega) only [↓AOps_call, extK_same, rd_S, put_S, List.replicate_succ, List.replicate_zero, List.set_cons_zero, List.set_cons_succ, List.getElem?_cons_zero, List.getElem?_cons_succ, Option.getD_some, map_c, map_n, Nat.reduceSub, List.cons_append, List.nil_append]
    refine CallK.of (s19 _ _ _ s1 s2) ?_
    by_cases hc : upTo 0 (L.zip w1.2) z < ((tot (L.zip w1.2) : Int) : Rat) - upTo 0 (L.zip w1.2) z
    · simp (maxSteps := 4000000) -implicitDefEqProofs -dsimp (disch := omega) only [↓AW_ops, ↓AW_seq, ↓AW_cond, ↓AOps_nil, ↓AOps_pu, ↓AOps_call, on_some, extK_same, condB_t, ↓then_normal, pval, rd_S, rd_C, put_S, chkd, bgot, partA, eq_self, List.replicate_succ, List.replicate_zero, List.set_cons_zero, List.set_cons_succ, List.getElem?_cons_zero, List.getElem?_cons_succ, List.drop_zero, List.take_succ_cons, List.take_nil, Option.getD_some, map_c, map_n, List.length_cons, List.length_nil, Nat.reduceAdd, Nat.reduceSub, Nat.reduceLeDiff, Nat.reduceEqDiff, Nat.zero_add, List.cons_append, List.nil_append, if_true, if_false, decide_true, hc]
      rw [hRz]
      have hcc : chW (L.zip w1.2) z = true := decide_eq_true hc
      rw [hcc]
      refine CallK.of (c_cutAt (hL.mono hp) (hV.mono hp) hg 0 (.inl rfl) z) ?_
      simp (maxSteps := 4000000) -implicitDefEqProofs -dsimp (disch := omega) only [↓AW_ret, ↓AOps_nil, ↓AOps_pu, on_some, extK_app, ↓then_normal, ↓then_ret, ↓Fin_ret, pval, rd_S, rd_C, put_S, resV, resL, eq_self, List.replicate_succ, List.replicate_zero, List.set_cons_zero, List.set_cons_succ, List.getElem?_cons_zero, List.getElem?_cons_succ, Option.getD_some, Nat.reduceSub, List.cons_append, List.nil_append, if_true]
      exact (OL_pcs2 hp 0 z).gc2 (by simp [pcs2]) flat_e5 _ rfl
    · simp (maxSteps := 4000000) -implicitDefEqProofs -dsimp (disch := omega) only [↓AW_skip, ↓AW_ops, ↓AW_seq, ↓AW_cond, ↓AOps_nil, ↓AOps_pu, ↓AOps_call, on_some, extK_same, condB_f, ↓then_normal, pval, rd_S, rd_C, put_S, chkd, bgot, partA, eq_self, List.replicate_succ, List.replicate_zero, List.set_cons_zero, List.set_cons_succ, List.getElem?_cons_zero, List.getElem?_cons_succ, List.drop_zero, List.take_succ_cons, List.take_nil, Option.getD_some, map_c, map_n, List.length_cons, List.length_nil, Nat.reduceAdd, Nat.reduceSub, Nat.reduceLeDiff, Nat.reduceEqDiff, Nat.zero_add, List.cons_append, List.nil_append, if_true, if_false, decide_false, hc]
      rw [hRz]
      have hcc : chW (L.zip w1.2) z = false := decide_eq_false hc
      rw [hcc]
      refine CallK.of (c_cutAt (hL.mono hp) (hV.mono hp) hg 1 (.inr rfl) z) ?_
      simp (maxSteps := 4000000) -implicitDefEqProofs -dsimp (disch := omega) only [↓AW_ret, ↓AOps_nil, ↓AOps_pu, on_some, extK_app, ↓then_normal, ↓Fin_ret, pval, rd_S, rd_C, put_S, resV, resL, List.replicate_succ, List.replicate_zero, List.set_cons_zero, List.set_cons_succ, List.getElem?_cons_zero, List.getElem?_cons_succ, Option.getD_some, Nat.reduceSub, List.cons_append, List.nil_append, if_false, Bool.false_eq_true]
      exact (OL_pcs2 hp 1 z).gc2 (by simp [pcs2]) flat_e5 _ rfl
end
end Go.Proofs.Ytmblehbjedpjoaa

namespace Go.Proofs.Ytmblehbjedpjoaa
open Go Go.Eng
section
variable {L : List Int} {ws : List (AV × List Int)} {x y : AV} {A : AHeap}
/-- What a piece is worth. -/
def pwo (f : List (Int × Int)) (p : Pc) : Rat := upTo 0 f (qr p.s) - upTo 0 f (qr p.r)
theorem CP.at {V : List (List Int)} {pcs : List Pc} (h : CP L V pcs) {p : Pc} (hp : p ∈ pcs) : isK L p.r ∧ isK L p.s ∧ qr p.r ≤ qr p.s := by
  obtain ⟨j, hj, rfl⟩ := List.mem_iff_getElem.1 hp
  have := h.2.1 j hj
  exact ⟨this.2.2.1, this.2.2.2.1, Rat.not_lt.1 this.2.2.2.2.2⟩
theorem c_pwo (hL : L1 A x L) (hV : LL A y ws) (h : KG L (lists ws)) {pcs : List Pc} (hc : CP L (lists ws) pcs) {o : Nat} {w : AV × List Int} (ho : ws[o]? = some w) {p : Pc} (hp : p ∈ pcs) :
    ACalls Try.prog 66 [.agg [x, y], I o, .agg [I p.r.1, I p.r.2], .agg [I p.s.1, I p.s.2]] A (R (pwo (L.zip w.2) p)) A := by
  have hmr := mem_lists (List.mem_of_getElem? ho)
  obtain ⟨h1, h2, h3⟩ := hc.at hp
  obtain ⟨k1, _, _, p1⟩ := isK_R h h1
  obtain ⟨k2, _, _, p2⟩ := isK_R h h2
  rw [k1, k2]
  exact c_worth hL hV h ho _ _ (p1 _ hmr) (p2 _ hmr) h3
theorem pwo_facts {V : List (List Int)} (h : KG L V) {pcs : List Pc} (hc : CP L V pcs) {r : List Int} (hr : r ∈ V) {p : Pc} (hp : p ∈ pcs) : 0 ≤ pwo (L.zip r) p ∧ pwo (L.zip r) p ≤ ((tot (L.zip r) : Int) : Rat) ∧ Sm (pwo (L.zip r) p) ∧ ((pwo (L.zip r) p).num.natAbs ≤ 2400000000 ∧ ((pwo (L.zip r) p).den : Int) ≤ 1000000) := by
  obtain ⟨D, hD, hDp⟩ := hc.dv
  obtain ⟨h1, h2, h3⟩ := hc.at hp
  obtain ⟨d1, d2⟩ := hDp p hp
  have hg := h.gd hr
  obtain ⟨_, _, _, p2⟩ := isK_R h h2
  have hle := (p2 _ hr).le
  have b1 := upTo_bounds hg 0 (qr p.r)
  have b2 := upTo_bounds hg 0 (qr p.s)
  have hmo := upTo_mono h3 (L.zip r) 0 hg.2
  have hm2 := upTo_mono hle.2 (L.zip r) 0 hg.2
  rw [h.lenz hr, upTo_end h hr] at hm2
  unfold pwo
  have w0 : 0 ≤ upTo 0 (L.zip r) (qr p.s) - upTo 0 (L.zip r) (qr p.r) := by grind
  have w1 : upTo 0 (L.zip r) (qr p.s) - upTo 0 (L.zip r) (qr p.r) ≤ ((2400 : Int) : Rat) := by grind
  have dw := (upTo_Dv d2 (L.zip r) 0).sub (upTo_Dv d1 (L.zip r) 0)
  have nw := num_le (M := 2400) hD.1 dw (int_neg_le_zero (by omega) w0) w1
  exact ⟨w0, by grind, Sm_of (M := 2400) hD.1 (by omega) (by omega) dw (int_neg_le_zero (by omega) w0) w1, by omega, by omega⟩
set_option maxRecDepth 20000 in
theorem s42 (hL : L1 A x L) (hV : LL A y ws) (hs : Sz L ws) {pcs : List Pc} {v : AV} (hP : L5 A v pcs) (hl : pcs.length ≤ 1000000) (hW : ∀ p ∈ pcs, W p.r.1 ∧ W p.s.1) (hg : KG L (lists ws)) (hc : CP L (lists ws) pcs)
    (hown : ∀ o : Nat, o < ws.length → ∃ p ∈ pcs, p.o = o)
    (hne : ∀ (i j k l : Nat) (w : AV × List Int) (p q : Pc), ws[i]? = some w → j < ws.length → At pcs i k p → At pcs j l q → pwo (L.zip w.2) q ≤ pwo (L.zip w.2) p) :
    ACalls Try.prog 42 [.agg [x, y], v] A (.tuple [.nilS, I 0]) A := by
  refine acalls hmix Try.func42 (by kernel_rfl) t42 2 rfl (by decide) ?_
  have hcE : cpE L (lists ws) pcs = 0 := by rw [cpE, if_pos hg.e, if_pos hc]
  have hv5 := hg.v5
  have hll : (lists ws).length = ws.length := by simp
  dsimp only [m42]
  simp (maxSteps := 4000000) -implicitDefEqProofs -dsimp (disch := omega) only [↓AW_ops, ↓AW_seq, ↓AOps_nil, ↓AOps_pu, ↓AOps_call, on_some, ↓then_normal, pval, rd_S, rd_C, put_S, chkd, bgot, AV.cells?, partA, eq_self, List.replicate_succ, List.replicate_zero, List.set_cons_zero, List.set_cons_succ, List.getElem?_cons_zero, List.getElem?_cons_succ, List.drop_zero, List.take_succ_cons, List.take_nil, Option.getD_some, map_c, map_n, List.length_cons, List.length_nil, Nat.reduceAdd, Nat.reduceSub, Nat.reduceLeDiff, Nat.reduceEqDiff, Nat.zero_add, List.cons_append, List.nil_append, if_true, if_false]
  refine CallK.of (s35 hL hV hs hP hl hW) ?_
  simp (maxSteps := 4000000) -implicitDefEqProofs -dsimp (disch := omega) only [↓AW_skip, ↓AW_ops, ↓AW_seq, ↓AW_cond, ↓AW_block, ↓AOps_nil, ↓AOps_pu, on_some, extK_same, condB_f, ↓then_normal, pval, rd_S, rd_C, put_S, ↓AW_toLoop, chkd, isAdr, bgot, AV.cells?, partA, eq_self, List.replicate_succ, List.replicate_zero, List.set_cons_zero, List.set_cons_succ, List.getElem?_cons_zero, List.getElem?_cons_succ, List.drop_zero, List.drop_succ_cons, List.take_succ_cons, List.take_nil, Option.getD_some, List.length_cons, List.length_nil, Nat.reduceAdd, Nat.reduceSub, Nat.reduceLeDiff, Nat.zero_add, List.cons_append, List.nil_append, bin_neq, if_true, if_false, Bool.false_eq_true, decide_false, not_true_eq_false, hcE, hV.ls.len]
  refine LoopK.by 61 (fun i : Nat => i ≤ ws.length) (fun i => [(1, v), (2, .agg [x, y]), (7, .nilS), (20, I ws.length), (21, I i)]) (fun _ => A) (fun i => ws.length - i) 0 (by omega) rfl (by simp [Has, rd_s]) rfl ?_
  intro i hi
  by_cases hlt : i < ws.length
  · obtain ⟨w, hz⟩ : ∃ z, ws[i]? = some z := ⟨_, List.getElem?_eq_getElem hlt⟩
    have hlt' : (i : Int) < ws.length := by omega
    obtain ⟨k, p, hat⟩ := At.ex (hown i hlt)
    have hpm := List.mem_of_getElem? hat.1
    have hmr := mem_lists (List.mem_of_getElem? hz)
    simp (maxSteps := 4000000) -implicitDefEqProofs -dsimp (disch := omega) only [↓AW_skip, ↓AW_ops, ↓AW_seq, ↓AW_cond, ↓AW_block, ↓AOps_nil, ↓AOps_pu, ↓AOps_call, on_some, condB_t, ↓then_normal, pval, rd_S, put_S, mk, List.foldl_cons, List.foldl_nil, List.replicate_succ, List.replicate_zero, List.set_cons_zero, List.set_cons_succ, List.getElem?_cons_zero, List.getElem?_cons_succ, Option.getD_some, map_c, map_n, bin_lss, decide_true, hlt']
    refine CallK.of (c_own hP hl hat) ?_
    simp (maxSteps := 4000000) -implicitDefEqProofs -dsimp (disch := omega) only [↓AW_ops, ↓AW_seq, ↓AW_block, ↓AOps_nil, ↓AOps_pu, on_some, extK_same, ↓then_normal, pval, rd_S, rd_C, put_S, ↓AW_toLoop, chkd, isAdr, bput, bgot, AV.cells?, splice, partA, eq_self, mk, List.foldl_cons, List.foldl_nil, List.replicate_succ, List.replicate_zero, List.set_cons_zero, List.set_cons_succ, List.getElem?_cons_zero, List.getElem?_cons_succ, List.drop_zero, List.drop_succ_cons, List.drop_nil, List.take_zero, List.take_succ_cons, List.take_nil, Option.getD_some, List.length_cons, List.length_nil, Nat.reduceAdd, Nat.reduceLeDiff, Nat.zero_add, List.nil_append, List.append_nil, if_true, if_false, Bool.false_eq_true, ne_eq, not_true_eq_false, hV.ls.len]
    refine LoopK.by 61 (fun j : Nat => j ≤ ws.length) (fun j => [(1, v), (2, .agg [x, y]), (7, .nilS), (8, I i), (9, .agg [I p.o, I p.r.1, I p.r.2, I p.s.1, I p.s.2]), (20, I ws.length), (21, I i), (29, I ws.length), (30, I j)]) (fun _ => A) (fun j => ws.length - j) 0 (by omega) rfl (by simp [Has, rd_s]) rfl ?_
    intro j hj
    by_cases hltj : j < ws.length
    · have hltj' : (j : Int) < ws.length := by omega
      obtain ⟨l, q, hatq⟩ := At.ex (hown j hltj)
      have hqm := List.mem_of_getElem? hatq.1
      obtain ⟨_, _, sp, _⟩ := pwo_facts hg hc hmr hpm
      obtain ⟨_, _, sq, _⟩ := pwo_facts hg hc hmr hqm
      have hle := hne i j k l w p q hz hltj hat hatq
      have hn : ¬ 0 < (pwo (L.zip w.2) q - pwo (L.zip w.2) p).num := fun hh => absurd ((sub_pos_iff _ _).1 hh) (Rat.not_lt.2 hle)
      simp (maxSteps := 4000000) -implicitDefEqProofs -dsimp (disch := omega) only [↓AW_skip, ↓AW_ops, ↓AW_seq, ↓AW_cond, ↓AW_block, ↓AOps_nil, ↓AOps_pu, ↓AOps_call, on_some, condB_t, ↓then_normal, pval, rd_S, put_S, mk, List.foldl_cons, List.foldl_nil, List.replicate_succ, List.replicate_zero, List.set_cons_zero, List.set_cons_succ, List.getElem?_cons_zero, List.getElem?_cons_succ, Option.getD_some, map_c, map_n, bin_lss, decide_true, hltj']
      refine CallK.of (c_own hP hl hatq) ?_
      simp (maxSteps := 4000000) -implicitDefEqProofs -dsimp (disch := omega) only [↓AW_ops, ↓AW_seq, ↓AOps_nil, ↓AOps_pu, ↓AOps_call, on_some, extK_same, ↓then_normal, pval, rd_S, rd_C, put_S, chkd, isAdr, bput, bgot, AV.cells?, splice, partA, eq_self, mk, List.foldl_cons, List.foldl_nil, List.replicate_succ, List.replicate_zero, List.set_cons_zero, List.set_cons_succ, List.getElem?_cons_zero, List.getElem?_cons_succ, List.drop_zero, List.drop_succ_cons, List.drop_nil, List.take_zero, List.take_succ_cons, List.take_nil, Option.getD_some, map_c, map_n, List.length_cons, List.length_nil, Nat.reduceAdd, Nat.reduceLeDiff, Nat.reduceEqDiff, Nat.zero_add, List.nil_append, List.append_nil, if_true, if_false, ne_eq, not_true_eq_false]
      refine CallK.of (c_pwo hL hV hg hc hz hqm) ?_
      simp (maxSteps := 4000000) -implicitDefEqProofs -dsimp (disch := omega) only [↓AOps_pu, ↓AOps_call, on_some, extK_same, pval, rd_S, put_S, chkd, isAdr, bgot, AV.cells?, partA, eq_self, mk, List.foldl_cons, List.foldl_nil, List.replicate_succ, List.replicate_zero, List.set_cons_zero, List.set_cons_succ, List.getElem?_cons_zero, List.getElem?_cons_succ, List.drop_zero, List.drop_succ_cons, List.take_zero, List.take_succ_cons, List.take_nil, Option.getD_some, map_c, map_n, List.length_cons, List.length_nil, Nat.reduceAdd, Nat.reduceLeDiff, Nat.reduceEqDiff, Nat.zero_add, if_true, if_false]
      refine CallK.of (c_pwo hL hV hg hc hz hpm) ?_
      simp (maxSteps := 4000000) -implicitDefEqProofs -dsimp (disch := omega) only [↓AOps_call, extK_same, rd_S, put_S, mk, List.foldl_cons, List.foldl_nil, List.replicate_succ, List.replicate_zero, List.set_cons_zero, List.set_cons_succ, List.getElem?_cons_zero, List.getElem?_cons_succ, Option.getD_some, map_c, map_n]
      refine CallK.of (s65 _ _ _ sq sp) ?_
      simp (maxSteps := 4000000) -implicitDefEqProofs -dsimp (disch := omega) only [↓AW_skip, ↓AW_ops, ↓AW_cond, ↓AOps_nil, ↓AOps_pu, on_some, extK_same, condB_f, ↓then_normal, ↓inBlock_normal, pval, rd_S, rd_C, put_S, eq_self, mk, List.foldl_cons, List.foldl_nil, List.replicate_succ, List.replicate_zero, List.set_cons_zero, List.set_cons_succ, List.getElem?_cons_zero, List.getElem?_cons_succ, Option.getD_some, List.length_cons, List.length_nil, Nat.reduceAdd, Nat.zero_add, bin_add, bin_gtr, w64, decide_false, true_and, hn]
      exact ⟨j + 1, hltj, by simp [Has, rd_s], by omega⟩
    · have hltj' : ¬ ((j : Int) < ws.length) := by omega
      simp (maxSteps := 4000000) -implicitDefEqProofs -dsimp (disch := omega) only [↓AW_ops, ↓AW_seq, ↓AW_cond, ↓AW_exit, ↓AW_ret, ↓AOps_nil, ↓AOps_pu, on_some, condB_f, ↓then_normal, ↓then_exit, ↓inBlock_normal, ↓inBlock_exit, ↓Fin_ret, pval, rd_S, rd_C, put_S, resV, resL, eq_self, mk, List.foldl_cons, List.foldl_nil, List.replicate_succ, List.replicate_zero, List.set_cons_zero, List.set_cons_succ, List.getElem?_cons_zero, List.getElem?_cons_succ, Option.getD_some, List.length_cons, List.length_nil, Nat.reduceAdd, Nat.reduceEqDiff, Nat.zero_add, bin_add, bin_lss, w64, if_true, if_false, decide_false, true_and, reduceCtorEq, hltj']
      exact ⟨i + 1, hlt, by simp [Has, rd_s], by omega⟩
  · have hlt' : ¬ ((i : Int) < ws.length) := by omega
    simp (maxSteps := 4000000) -implicitDefEqProofs -dsimp (disch := omega) only [↓AW_ops, ↓AW_seq, ↓AW_cond, ↓AW_exit, ↓AW_ret, ↓AOps_nil, ↓AOps_pu, on_some, condB_f, ↓then_normal, ↓then_exit, ↓inBlock_exit, ↓Fin_ret, pval, rd_S, rd_C, put_S, resV, resL, eq_self, mk, List.foldl_cons, List.foldl_nil, List.replicate_succ, List.replicate_zero, List.set_cons_zero, List.set_cons_succ, List.getElem?_cons_zero, List.getElem?_cons_succ, Option.getD_some, bin_lss, if_true, decide_false, hlt']
    exact gc_same rfl
theorem At.o {pcs : List Pc} {o : Int} {i : Nat} {p : Pc} (h : At pcs o i p) : p ∈ pcs ∧ p.o = o := ⟨List.mem_of_getElem? h.1, h.2.1⟩
theorem num_W {z : Rat} {M : Int} (h0 : 0 ≤ z) (h1 : z ≤ (M : Rat)) (hM : M ≤ 1000000) (hd : (z.den : Int) ≤ 1000000) : W z.num := by
  have hM0 : 0 ≤ M := by
    have := Rat.le_trans h0 h1
    rw [← int0] at this
    exact Rat.intCast_le_intCast.1 this
  have := num_le (M := M) (den_pos z) (Dv_self z) (int_neg_le_zero hM0 h0) h1
  have hm := Int.mul_le_mul hM hd (by have := den_pos z; omega) (by omega : (0 : Int) ≤ 1000000)
  constructor <;> omega
/-- The words of two pieces. -/
theorem pcs2_W {V : List (List Int)} (h : KG L V) {z : Rat} (h0 : 0 ≤ z) (h1 : z ≤ ((L.sum : Int) : Rat)) (hd : (z.den : Int) ≤ 1000000) (c : Int) : ∀ p ∈ pcs2 L c z, W p.r.1 ∧ W p.s.1 := by
  have hs := h.sum
  have hw := num_W h0 h1 (by omega) hd
  intro p hp
  simp only [pcs2, List.mem_cons, List.not_mem_nil, or_false] at hp
  rcases hp with rfl | rfl
  · exact ⟨by show W 0; omega, hw⟩
  · exact ⟨hw, by show W L.sum; omega⟩
set_option maxRecDepth 20000 in
set_option maxHeartbeats 2000000 in
theorem s11 (hL : L1 A x L) (hV : LL A y ws) (hl : ws.length ≤ 9223372036854775807) : ACalls Try.prog 11 [.agg [x, y]] A (B true) A := by
  refine acalls hmix Try.func11 (by kernel_rfl) t11 1 rfl (by decide) ?_
  dsimp only [m11]
  simp (maxSteps := 4000000) -implicitDefEqProofs -dsimp (disch := omega) only [↓AW_ops, ↓AW_seq, ↓AOps_nil, ↓AOps_pu, ↓AOps_call, on_some, ↓then_normal, pval, rd_S, rd_C, put_S, chkd, bgot, AV.cells?, partA, eq_self, List.replicate_succ, List.replicate_zero, List.set_cons_zero, List.set_cons_succ, List.getElem?_cons_zero, List.getElem?_cons_succ, List.drop_zero, List.take_succ_cons, List.take_nil, Option.getD_some, map_c, map_n, List.length_cons, List.length_nil, Nat.reduceAdd, Nat.reduceSub, Nat.reduceLeDiff, Nat.reduceEqDiff, Nat.zero_add, List.cons_append, List.nil_append, if_true, if_false]
  refine CallK.of (c_Long hL hV hl) ?_
  by_cases h : longK L ws
  · simp (maxSteps := 4000000) -implicitDefEqProofs -dsimp (disch := omega) only [↓AW_ops, ↓AW_seq, ↓AW_cond, ↓AOps_nil, ↓AOps_call, extK_same, condB_t, ↓then_normal, rd_S, put_S, List.replicate_succ, List.replicate_zero, List.set_cons_zero, List.set_cons_succ, List.getElem?_cons_zero, List.getElem?_cons_succ, Option.getD_some, map_n, Nat.reduceSub, List.cons_append, List.nil_append, decide_true, h]
    refine CallK.of (known A) ?_
    simp (maxSteps := 4000000) -implicitDefEqProofs -dsimp (disch := omega) only [↓AW_ret, ↓AOps_nil, ↓AOps_pu, on_some, extK_same, ↓then_normal, ↓then_ret, ↓Fin_ret, pval, rd_S, put_S, resV, resL, List.replicate_succ, List.replicate_zero, List.set_cons_zero, List.set_cons_succ, List.getElem?_cons_zero, List.getElem?_cons_succ, Option.getD_some, Nat.reduceSub, List.cons_append, List.nil_append]
    exact gc_same rfl
  have hs := Sz_of h
  simp (maxSteps := 4000000) -implicitDefEqProofs -dsimp (disch := omega) only [↓AW_skip, ↓AW_ops, ↓AW_seq, ↓AW_cond, ↓AOps_nil, ↓AOps_pu, ↓AOps_call, on_some, extK_same, condB_f, ↓then_normal, pval, rd_S, put_S, chkd, bgot, partA, eq_self, List.replicate_succ, List.replicate_zero, List.set_cons_zero, List.set_cons_succ, List.getElem?_cons_zero, List.getElem?_cons_succ, List.drop_zero, List.take_succ_cons, List.take_nil, Option.getD_some, map_c, map_n, List.length_cons, List.length_nil, Nat.reduceAdd, Nat.reduceSub, Nat.reduceLeDiff, Nat.reduceEqDiff, Nat.zero_add, List.cons_append, List.nil_append, if_true, if_false, decide_false, h]
  rcases s46 hL hV hs with ⟨e, he, hne, h46⟩ | ⟨w0, w1, z, c, hws, hg, hz, hcd, h0, h46⟩
  · have h47 := (s47 hL hV hs).1 (by rw [he]; exact hne)
    rw [he] at h47
    refine CallK.of h46 ?_
    simp (maxSteps := 4000000) -implicitDefEqProofs -dsimp (disch := omega) only [↓AW_ops, ↓AW_seq, ↓AOps_nil, ↓AOps_pu, ↓AOps_call, on_some, extK_same, ↓then_normal, pval, rd_S, put_S, chkd, bgot, partA, eq_self, List.replicate_succ, List.replicate_zero, List.set_cons_zero, List.set_cons_succ, List.getElem?_cons_zero, List.getElem?_cons_succ, List.drop_zero, List.take_succ_cons, List.take_nil, Option.getD_some, map_c, map_n, List.length_cons, List.length_nil, Nat.reduceAdd, Nat.reduceSub, Nat.reduceLeDiff, Nat.reduceEqDiff, Nat.zero_add, List.cons_append, List.nil_append, if_true, if_false]
    refine CallK.of h47 ?_
    simp (maxSteps := 4000000) -implicitDefEqProofs -dsimp (disch := omega) only [↓AW_ops, ↓AW_seq, ↓AOps_nil, ↓AOps_pu, ↓AOps_call, ↓AOps_guard, on_some, extK_same, guardB_ff, ↓then_normal, pval, rd_S, put_S, eq_self, List.replicate_succ, List.replicate_zero, List.set_cons_zero, List.set_cons_succ, List.getElem?_cons_zero, List.getElem?_cons_succ, Option.getD_some, map_c, map_n, Nat.reduceSub, List.cons_append, List.nil_append, bin_neq, decide_false, not_true_eq_false]
    refine CallK.of (c_same (xs := []) (ys := []) ⟨e5_len, rfl⟩ ⟨e5_len, rfl⟩ (by simp)) ?_
    simp (maxSteps := 4000000) -implicitDefEqProofs -dsimp (disch := omega) only [↓AW_skip, ↓AW_ops, ↓AW_seq, ↓AW_cond, ↓AOps_nil, ↓AOps_pu, ↓AOps_call, ↓AOps_guard, on_some, extK_same, guardB_ff, condB_t, condB_f, ↓then_normal, pval, rd_S, rd_C, put_S, eq_self, List.replicate_succ, List.replicate_zero, List.set_cons_zero, List.set_cons_succ, List.getElem?_cons_zero, List.getElem?_cons_succ, Option.getD_some, map_n, Nat.reduceSub, List.cons_append, List.nil_append, bin_neq, if_false, Bool.false_eq_true, Bool.not_true, decide_true, not_false_eq_true, hne]
    refine CallK.of (known A) ?_
    simp (maxSteps := 4000000) -implicitDefEqProofs -dsimp (disch := omega) only [↓AW_ret, ↓AOps_nil, ↓AOps_pu, on_some, extK_same, ↓then_normal, ↓then_ret, ↓Fin_ret, pval, rd_S, put_S, resV, resL, eq_self, List.replicate_succ, List.replicate_zero, List.set_cons_zero, List.set_cons_succ, List.getElem?_cons_zero, List.getElem?_cons_succ, Option.getD_some, Nat.reduceSub, List.cons_append, List.nil_append, decide_true]
    exact gc_same rfl
  · have hc01 : c = 0 ∨ c = 1 := by rw [hcd]; split <;> simp
    have hk0 : ws[0]? = some w0 := by rw [hws]; rfl
    have hk1 : ws[1]? = some w1 := by rw [hws]; rfl
    have m0 := mem_lists (List.mem_of_getElem? hk0)
    have m1 := mem_lists (List.mem_of_getElem? hk1)
    have g0 := hg.gd m0
    have g1 := hg.gd m1
    obtain ⟨z', hz', z0, z1, z2, z3⟩ := half_at g0 (hg.tot_pos m0)
    rw [hz] at hz'
    have := Option.some.inj hz'
    subst this
    rw [hg.lenz m0] at z1
    have hp1 := pre_app A [.cells true (cells2 L c z)]
    have hq1 := L5_2 (L := L) A c z
    have h47 := (s47 (hL.mono hp1) (hV.mono hp1) hs).2 w0 w1 z c hws hg hz hcd h0
    refine CallK.of h46 ?_
    generalize A ++ [AObj.cells true (cells2 L c z)] = A1 at *
    generalize AV.sl 5 A.length 0 2 true = v1 at *
    simp (maxSteps := 4000000) -implicitDefEqProofs -dsimp (disch := omega) only [↓AW_ops, ↓AW_seq, ↓AOps_nil, ↓AOps_pu, ↓AOps_call, on_some, extK_false, ↓then_normal, pval, rd_S, put_S, chkd, bgot, partA, eq_self, List.replicate_succ, List.replicate_zero, List.set_cons_zero, List.set_cons_succ, List.getElem?_cons_zero, List.getElem?_cons_succ, List.drop_zero, List.take_succ_cons, List.take_nil, Option.getD_some, map_c, map_n, List.length_cons, List.length_nil, Nat.reduceAdd, Nat.reduceSub, Nat.reduceLeDiff, Nat.reduceEqDiff, Nat.zero_add, List.cons_append, List.nil_append, if_true, if_false]
    refine CallK.of h47 ?_
    have hp2 := pre_out A1 ((pcs2 L c z).flatMap e5) (pcs2 L c z).length
    have hq2 := Ls_out A1 e5_len (pcs2 L c z)
    generalize outV 5 A1 (pcs2 L c z).length = v2 at *
    generalize outH A1 ((pcs2 L c z).flatMap e5) (pcs2 L c z).length = A2 at *
    have hq1 := hq1.mono hp2
    simp (maxSteps := 4000000) -implicitDefEqProofs -dsimp (disch := omega) only [↓AW_ops, ↓AW_seq, ↓AOps_nil, ↓AOps_pu, ↓AOps_call, ↓AOps_guard, on_some, extK_false, guardB_ff, ↓then_normal, pval, rd_S, put_S, eq_self, List.replicate_succ, List.replicate_zero, List.set_cons_zero, List.set_cons_succ, List.getElem?_cons_zero, List.getElem?_cons_succ, Option.getD_some, map_c, map_n, Nat.reduceSub, List.cons_append, List.nil_append, bin_neq, decide_false, not_true_eq_false]
    have hws2 : ws.length = 2 := by rw [hws]; rfl
    have hCP := CP2 hg (by simp [hws2]) z0 z1 (by omega) hc01
    have hkz := (rp_isK hg z0 z1 (by omega)).2
    refine CallK.of (c_same hq1 hq2 (by simp [pcs2])) ?_
    simp (maxSteps := 4000000) -implicitDefEqProofs -dsimp (disch := omega) only [↓AW_skip, ↓AW_ops, ↓AW_seq, ↓AW_cond, ↓AOps_nil, ↓AOps_pu, ↓AOps_call, ↓AOps_guard, on_some, extK_same, guardB_ff, condB_f, ↓then_normal, pval, rd_S, rd_C, put_S, chkd, bgot, partA, eq_self, List.replicate_succ, List.replicate_zero, List.set_cons_zero, List.set_cons_succ, List.getElem?_cons_zero, List.getElem?_cons_succ, List.drop_zero, List.take_succ_cons, List.take_nil, Option.getD_some, map_c, map_n, List.length_cons, List.length_nil, Nat.reduceAdd, Nat.reduceSub, Nat.reduceLeDiff, Nat.reduceEqDiff, Nat.zero_add, List.cons_append, List.nil_append, bin_neq, if_true, if_false, Bool.false_eq_true, Bool.not_true, decide_true, decide_false, not_true_eq_false]
    have hp := hp1.trans hp2
    have e0 := upTo_at0 g0
    have e1' := upTo_end hg m0
    have f0 := upTo_at0 g1
    have f1 := upTo_end hg m1
    refine CallK.of (s42 (hL.mono hp) (hV.mono hp) hs hq1 (by simp [pcs2]) (pcs2_W hg z0 z1 (by omega) c) hg hCP ?_ ?_) ?_
    · intro o ho
      rw [hws2] at ho
      by_cases hoc : (o : Int) = c
      · exact ⟨_, List.mem_cons_self, hoc.symm⟩
      · refine ⟨⟨1 - c, rp z, (L.sum, 1)⟩, by simp [pcs2], ?_⟩
        show 1 - c = (o : Int)
        omega
    · intro i j k l w p q hw hj ha hb
      rw [hws2] at hj
      have hi2 : i < ws.length := (List.getElem?_eq_some_iff.1 hw).1
      rw [hws2] at hi2
      obtain ⟨pm, po⟩ := ha.o
      obtain ⟨qm, qo⟩ := hb.o
      have hpc : ∀ p ∈ pcs2 L c z, (p.o = c ∧ ∀ f, pwo f p = upTo 0 f z - upTo 0 f ((0 : Int) : Rat)) ∨ (p.o = 1 - c ∧ ∀ f, pwo f p = upTo 0 f ((L.sum : Int) : Rat) - upTo 0 f z) := by
        intro p hp
        simp only [pcs2, List.mem_cons, List.not_mem_nil, or_false] at hp
        rcases hp with rfl | rfl
        · exact .inl ⟨rfl, fun f => by unfold pwo; simp only [hkz, qr_zero]⟩
        · exact .inr ⟨rfl, fun f => by unfold pwo; simp only [hkz, qr_one]⟩
      have hi01 : i = 0 ∨ i = 1 := by omega
      rcases hi01 with rfl | rfl
      · have : w = w0 := by rw [hk0] at hw; exact (Option.some.inj hw).symm
        subst this
        rcases hpc p pm with ⟨_, ep⟩ | ⟨_, ep⟩ <;> rcases hpc q qm with ⟨_, eq⟩ | ⟨_, eq⟩ <;> rw [ep, eq] <;> first | exact Rat.le_refl | (rw [e0, e1']; grind)
      · have : w = w1 := by rw [hk1] at hw; exact (Option.some.inj hw).symm
        subst this
        by_cases hch : chW (L.zip w.2) z = true
        · have hlt := of_decide_eq_true hch
          rw [if_pos hch] at hcd
          subst hcd
          rcases hpc p pm with ⟨op, ep⟩ | ⟨op, ep⟩
          · omega
          · rcases hpc q qm with ⟨_, eq⟩ | ⟨_, eq⟩
            · rw [ep, eq, f0, f1]; grind
            · rw [ep, eq]; exact Rat.le_refl
        · have hnl : ¬ upTo 0 (L.zip w.2) z < ((tot (L.zip w.2) : Int) : Rat) - upTo 0 (L.zip w.2) z := fun hh => hch (decide_eq_true hh)
          rw [if_neg hch] at hcd
          subst hcd
          rcases hpc p pm with ⟨op, ep⟩ | ⟨op, ep⟩
          · rcases hpc q qm with ⟨_, eq⟩ | ⟨_, eq⟩
            · rw [ep, eq]; exact Rat.le_refl
            · rw [ep, eq, f0, f1]; grind
          · omega
    simp (maxSteps := 4000000) -implicitDefEqProofs -dsimp (disch := omega) only [↓AW_ops, ↓AW_seq, ↓AOps_nil, ↓AOps_pu, ↓AOps_call, ↓AOps_guard, on_some, extK_same, guardB_tt, ↓then_normal, pval, rd_S, rd_C, put_S, eq_self, List.replicate_succ, List.replicate_zero, List.set_cons_zero, List.set_cons_succ, List.getElem?_cons_zero, List.getElem?_cons_succ, Option.getD_some, map_n, Nat.reduceSub, List.cons_append, List.nil_append, bin_eql, if_true, decide_true, lenA]
    refine CallK.of (known A2) ?_
    simp (maxSteps := 4000000) -implicitDefEqProofs -dsimp (disch := omega) only [↓AW_ret, ↓AOps_nil, ↓AOps_pu, on_some, extK_same, ↓then_normal, ↓Fin_ret, pval, rd_S, rd_C, put_S, resV, resL, eq_self, List.replicate_succ, List.replicate_zero, List.set_cons_zero, List.set_cons_succ, List.getElem?_cons_zero, List.getElem?_cons_succ, Option.getD_some, Nat.reduceSub, List.cons_append, List.nil_append, if_true, decide_true]
    exact gc_val hp rfl
end
end Go.Proofs.Ytmblehbjedpjoaa

