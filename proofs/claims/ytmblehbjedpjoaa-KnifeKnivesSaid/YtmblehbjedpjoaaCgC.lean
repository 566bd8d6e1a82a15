/- What the law's proof rests on, part 5: for all that is said in each line. No conditions. -/
import Derived.Test.YtmblehbjedpjoaaCgB
namespace Go.Proofs.Ytmblehbjedpjoaa
open Go Go.Eng
/-- A piece: an owner and two places. -/
structure Pc where
  o : Int
  r : Int × Int
  s : Int × Int
  deriving DecidableEq
def e5 (p : Pc) : List AV := [I p.o, I p.r.1, I p.r.2, I p.s.1, I p.s.2]
abbrev L5 := Ls 5 e5
theorem e5_len (p : Pc) : (e5 p).length = 5 := rfl
def eb (b : Bool) : List AV := [.bool b]
theorem eb_len (b : Bool) : (eb b).length = 1 := rfl
theorem repl_eb (b : Bool) : ∀ n, repl [AV.bool b] n = (List.replicate n b).flatMap eb
  | 0 => rfl
  | n + 1 => by rw [repl, repl_eb b n, List.replicate_succ, List.flatMap_cons]; rfl
/-- Where a piece must begin. -/
def atI (pcs : List Pc) (i : Nat) : Int × Int := match (pcs.take i).getLast? with | some p => p.s | none => (0, 1)
theorem atI_zero (pcs : List Pc) : atI pcs 0 = (0, 1) := rfl
theorem atI_succ {pcs : List Pc} {i : Nat} {p : Pc} (h : pcs[i]? = some p) : atI pcs (i + 1) = p.s := by
  unfold atI
  rw [List.take_add_one, h, Option.toList_some, List.getLast?_concat]
def CPi (L : List Int) (V : List (List Int)) (pcs : List Pc) (i : Nat) (p : Pc) : Prop :=
  (0 ≤ p.o ∧ p.o ≤ (V.length : Int) - 1) ∧ p.o ∉ (pcs.take i).map Pc.o ∧ isK L p.r ∧ isK L p.s ∧ p.r = atI pcs i ∧ ¬ qr p.s < qr p.r
instance (L : List Int) (V : List (List Int)) (pcs : List Pc) (i : Nat) (p : Pc) : Decidable (CPi L V pcs i p) := by unfold CPi; exact inferInstance
/-- The common denominator, step by step; one more than the greatest if it is too great. -/
def cmn : Int → List Int → Int
  | out, [] => out
  | out, d :: ds => if 1000000 < out / (Int.gcd out d : Int) * d then 1000001 else cmn (out / (Int.gcd out d : Int) * d) ds
def plcs (pcs : List Pc) : List (Int × Int) := pcs.flatMap fun p => [p.r, p.s]
def CP (L : List Int) (V : List (List Int)) (pcs : List Pc) : Prop :=
  pcs.length = V.length ∧ (∀ i, (h : i < pcs.length) → CPi L V pcs i pcs[i]) ∧ atI pcs pcs.length = (L.sum, 1) ∧ cmn 1 ((plcs pcs).map Prod.snd) ≤ 1000000
instance (L : List Int) (V : List (List Int)) (pcs : List Pc) : Decidable (CP L V pcs) := by unfold CP; exact inferInstance
def cpE (L : List Int) (V : List (List Int)) (pcs : List Pc) : Int := if kE L V = 0 then (if CP L V pcs then 0 else 1) else kE L V
theorem gcd_div {out d : Int} (h0 : 0 < out) (hd : 0 < d) : out.tdiv (Int.gcd out d) = out / (Int.gcd out d : Int) ∧ 0 < out / (Int.gcd out d : Int) ∧ out / (Int.gcd out d : Int) ≤ out := by
  obtain ⟨g1, g2⟩ := gcd_pos (a := out) hd
  obtain ⟨x, hx⟩ := Int.gcd_dvd_left out d
  generalize (Int.gcd out d : Nat) = g at *
  have hg : (0 : Int) < g := by omega
  refine ⟨Int.tdiv_eq_ediv_of_nonneg (by omega), ?_, ?_⟩
  · rw [hx, Int.mul_ediv_cancel_left _ (by omega)]
    rcases Int.lt_or_le 0 x with h | h
    · exact h
    · have := Int.mul_nonpos_of_nonneg_of_nonpos (Int.le_of_lt hg) h; omega
  · exact Int.ediv_le_self _ (by omega)
theorem c_Common {rs : List (Int × Int)} {v : AV} {A : AHeap} (hr : L2 A v rs) (hl : rs.length ≤ 1000000) (hd : ∀ r ∈ rs, 1 ≤ r.2 ∧ r.2 ≤ 1000000) : ACalls Try.prog 90 [v, I 1000000] A (I (cmn 1 (rs.map Prod.snd))) A := by
  refine acalls hmix Try.func90 (by kernel_rfl) t90 2 rfl (by decide) ?_
  dsimp only [m90]
  simp (maxSteps := 4000000) -implicitDefEqProofs -dsimp (disch := omega) only [↓AW_ops, ↓AW_seq, ↓AW_block, ↓AOps_nil, ↓AOps_pu, on_some, ↓then_normal, pval, rd_S, rd_C, put_S, ↓AW_toLoop, List.replicate_succ, List.replicate_zero, List.set_cons_zero, List.set_cons_succ, List.getElem?_cons_zero, List.getElem?_cons_succ, Option.getD_some, Nat.reduceSub, List.cons_append, List.nil_append, hr.len]
  revert hl
  intro _
  refine LoopK.by 30 (fun x : Nat × Int => x.1 ≤ rs.length ∧ (1 ≤ x.2 ∧ x.2 ≤ 1000000) ∧ cmn 1 (rs.map Prod.snd) = cmn x.2 ((rs.drop x.1).map Prod.snd)) (fun x => [(1, I 1000000), (5, I x.2), (8, v), (9, I rs.length), (10, I x.1)]) (fun _ => A) (fun x => rs.length - x.1) (0, 1) ⟨by omega, by omega, by simp⟩ rfl (by simp [Has, rd_s]) rfl ?_
  rintro ⟨i, out⟩ ⟨hi, ho, he⟩
  simp only at hi ho he
  by_cases hlt : i < rs.length
  · obtain ⟨z, hz⟩ : ∃ z, rs[i]? = some z := ⟨_, List.getElem?_eq_getElem hlt⟩
    have hlt' : (i : Int) < rs.length := by omega
    have hz2 := hd z (List.mem_of_getElem? hz)
    have hdr : rs.drop i = z :: rs.drop (i + 1) := by
      have := (List.getElem?_eq_some_iff.1 hz).2
      rw [← this]; exact List.drop_eq_getElem_cons hlt
    rw [hdr, List.map_cons, cmn] at he
    obtain ⟨q1, q2, q3⟩ := gcd_div (out := out) (d := z.2) (by omega) (by omega)
    have hg0 : ¬ (Int.gcd out z.2 : Int) = 0 := by have := gcd_pos (a := out) (b := z.2) (by omega); omega
    simp (maxSteps := 4000000) -implicitDefEqProofs -dsimp (disch := omega) only [↓AW_skip, ↓AW_ops, ↓AW_seq, ↓AW_cond, ↓AW_block, ↓AOps_nil, ↓AOps_pu, ↓AOps_ld, ↓AOps_call, on_some, condB_t, ↓then_normal, pval, lval, rd_S, rd_C, put_S, chkd, isAdr, bput, bgot, AV.cells?, splice, partA, eq_self, mk, List.foldl_cons, List.foldl_nil, List.replicate_succ, List.replicate_zero, List.set_cons_zero, List.set_cons_succ, List.getElem?_cons_zero, List.getElem?_cons_succ, List.drop_zero, List.drop_succ_cons, List.drop_nil, List.take_zero, List.take_succ_cons, List.take_nil, Option.getD_some, map_c, map_n, List.length_cons, List.length_nil, Nat.reduceAdd, Nat.reduceLeDiff, Nat.reduceEqDiff, Nat.zero_add, List.nil_append, List.append_nil, bin_lss, if_true, if_false, Bool.false_eq_true, decide_true, Go.Eng.e2, ne_eq, not_true_eq_false, hlt', hr.idx hlt, hr.ld0 hz 2 true (by decide), e2]
    refine CallK.of (s111 _ ⟨by omega, by omega⟩ (by omega) (by omega)) ?_
    have hm := Int.mul_le_mul (Int.le_trans q3 ho.2) hz2.2 (by omega) (by omega : (0 : Int) ≤ 1000000)
    have hm0 : 0 < out / (Int.gcd out z.2 : Int) * z.2 := Int.mul_pos q2 (by omega)
    by_cases h1 : 1000000 < out / (Int.gcd out z.2 : Int) * z.2
    · simp (maxSteps := 4000000) -implicitDefEqProofs -dsimp (disch := omega) only [↓AW_ops, ↓AW_seq, ↓AW_cond, ↓AW_ret, ↓AOps_nil, ↓AOps_pu, on_some, extK_same, condB_t, ↓then_normal, ↓then_ret, ↓inBlock_ret, ↓Fin_ret, pval, rd_S, rd_C, put_S, resV, resL, chkd, isAdr, bgot, AV.cells?, partA, eq_self, mk, List.foldl_cons, List.foldl_nil, List.replicate_succ, List.replicate_zero, List.set_cons_zero, List.set_cons_succ, List.getElem?_cons_zero, List.getElem?_cons_succ, List.drop_zero, List.drop_succ_cons, List.take_succ_cons, List.take_nil, Option.getD_some, List.length_cons, List.length_nil, Nat.reduceAdd, Nat.reduceLeDiff, Nat.zero_add, bin_add, bin_mul, bin_quo, bin_gtr, w64, if_true, if_false, Bool.false_eq_true, decide_true, Int.reduceAdd, hg0, q1, h1]
      rw [if_pos h1] at he
      exact gc_same (by rw [he])
    · simp (maxSteps := 4000000) -implicitDefEqProofs -dsimp (disch := omega) only [↓AW_skip, ↓AW_ops, ↓AW_seq, ↓AW_cond, ↓AOps_nil, ↓AOps_pu, on_some, extK_same, condB_f, ↓then_normal, ↓inBlock_normal, pval, rd_S, rd_C, put_S, chkd, isAdr, bgot, AV.cells?, partA, eq_self, mk, List.foldl_cons, List.foldl_nil, List.replicate_succ, List.replicate_zero, List.set_cons_zero, List.set_cons_succ, List.getElem?_cons_zero, List.getElem?_cons_succ, List.drop_zero, List.drop_succ_cons, List.take_succ_cons, List.take_nil, Option.getD_some, List.length_cons, List.length_nil, Nat.reduceAdd, Nat.reduceLeDiff, Nat.zero_add, bin_add, bin_mul, bin_quo, bin_gtr, w64, if_true, if_false, Bool.false_eq_true, decide_false, true_and, hg0, q1, h1]
      rw [if_neg h1] at he
      exact ⟨(i + 1, out / (Int.gcd out z.2 : Int) * z.2), ⟨hlt, by simp only; omega, he⟩, by simp [Has, rd_s], by simp only; omega⟩
  · have hlt' : ¬ ((i : Int) < rs.length) := by omega
    simp (maxSteps := 4000000) -implicitDefEqProofs -dsimp (disch := omega) only [↓AW_ops, ↓AW_seq, ↓AW_cond, ↓AW_exit, ↓AW_ret, ↓AOps_nil, ↓AOps_pu, on_some, condB_f, ↓then_normal, ↓then_exit, ↓inBlock_exit, ↓Fin_ret, pval, rd_S, put_S, resV, resL, eq_self, mk, List.foldl_cons, List.foldl_nil, List.replicate_succ, List.replicate_zero, List.set_cons_zero, List.set_cons_succ, List.getElem?_cons_zero, List.getElem?_cons_succ, Option.getD_some, bin_lss, if_true, decide_false, hlt']
    rw [List.drop_of_length_le (by omega)] at he
    exact gc_same (by rw [he]; rfl)
/-- What an older object becomes does not touch what is appended to. -/
theorem AccL_set {α : Type} {es : Nat} {e : α → List AV} {H H1 : AHeap} {v : AV} {xs : List α} (h : AccL es e H H1 v xs) {n : Nat} (hn : n < H.length) (o : AObj) : AccL es e (H.set n o) (H1.set n o) v xs := by
  obtain ⟨⟨t, rfl⟩, h2, h3⟩ := h
  refine ⟨⟨t, by rw [List.set_append_left _ _ hn]⟩, h2, ?_⟩
  rcases h3 with h3 | ⟨h0, m, h4, h5, h6⟩
  · exact .inl h3
  · refine .inr ⟨h0, m, h4, by simpa using h5, ?_⟩
    rw [List.getElem?_set_ne (by omega)]
    exact h6
theorem L2_two (A : AHeap) (r s : Int × Int) : L2 (A ++ [.cells true [I r.1, I r.2, I s.1, I s.2]]) (.sl 2 A.length 0 2 true) [r, s] := ⟨e2_len, by simp [slCells, cellsAt, e2]⟩
section
variable {L : List Int} {ws : List (AV × List Int)} {x y : AV} {A : AHeap}
theorem CP_not {V : List (List Int)} {pcs : List Pc} {i : Nat} {p : Pc} (hp : pcs[i]? = some p) (h : ¬ CPi L V pcs i p) : ¬ CP L V pcs := by
  intro hc
  obtain ⟨hi, he⟩ := List.getElem?_eq_some_iff.1 hp
  exact h (he ▸ hc.2.1 i hi)
set_option maxRecDepth 20000 in
set_option maxHeartbeats 4000000 in
theorem s35 (hL : L1 A x L) (hV : LL A y ws) (hs : Sz L ws) {pcs : List Pc} {v : AV} (hP : L5 A v pcs) (hl : pcs.length ≤ 1000000) (hW : ∀ p ∈ pcs, W p.r.1 ∧ W p.s.1) : ACalls Try.prog 35 [.agg [x, y], v] A (I (cpE L (lists ws) pcs)) A := by
  refine acalls hmix Try.func35 (by kernel_rfl) t35 2 rfl (by decide) ?_
  dsimp only [m35]
  simp (maxSteps := 4000000) -implicitDefEqProofs -dsimp (disch := omega) only [↓AW_ops, ↓AW_seq, ↓AOps_nil, ↓AOps_pu, ↓AOps_call, on_some, ↓then_normal, pval, rd_S, rd_C, put_S, chkd, bgot, AV.cells?, partA, eq_self, List.replicate_succ, List.replicate_zero, List.set_cons_zero, List.set_cons_succ, List.getElem?_cons_zero, List.getElem?_cons_succ, List.drop_zero, List.take_succ_cons, List.take_nil, Option.getD_some, map_c, map_n, List.length_cons, List.length_nil, Nat.reduceAdd, Nat.reduceSub, Nat.reduceLeDiff, Nat.reduceEqDiff, Nat.zero_add, List.cons_append, List.nil_append, if_true, if_false]
  refine CallK.of (s26 hL hV hs.l hs.v hs.w) ?_
  by_cases h0 : kE L (lists ws) = 0
  case neg =>
    simp (maxSteps := 4000000) -implicitDefEqProofs -dsimp (disch := omega) only [↓AW_ops, ↓AW_seq, ↓AW_cond, ↓AW_ret, ↓AOps_nil, ↓AOps_pu, on_some, extK_same, condB_t, ↓then_normal, ↓then_ret, ↓Fin_ret, pval, rd_S, rd_C, put_S, resV, resL, List.replicate_succ, List.replicate_zero, List.set_cons_zero, List.set_cons_succ, List.getElem?_cons_zero, List.getElem?_cons_succ, Option.getD_some, Nat.reduceSub, List.cons_append, List.nil_append, bin_neq, decide_true, not_false_eq_true, h0]
    exact gc_same (by rw [cpE, if_neg h0])
  have hg := KG.of h0
  have hv5 := hg.v5
  have hv1 := hg.v1
  have hll : (lists ws).length = ws.length := by simp
  have bad : ¬ CP L (lists ws) pcs → cpE L (lists ws) pcs = 1 := fun h => by rw [cpE, if_pos h0, if_neg h]
  by_cases hn : (pcs.length : Int) = ws.length
  case neg =>
    simp (maxSteps := 4000000) -implicitDefEqProofs -dsimp (disch := omega) only [↓AW_skip, ↓AW_ops, ↓AW_seq, ↓AW_cond, ↓AW_ret, ↓AOps_nil, ↓AOps_pu, on_some, extK_same, condB_t, condB_f, ↓then_normal, ↓then_ret, ↓Fin_ret, pval, rd_S, rd_C, put_S, resV, resL, chkd, isAdr, bgot, AV.cells?, partA, eq_self, List.replicate_succ, List.replicate_zero, List.set_cons_zero, List.set_cons_succ, List.getElem?_cons_zero, List.getElem?_cons_succ, List.drop_zero, List.drop_succ_cons, List.take_succ_cons, List.take_nil, Option.getD_some, List.length_cons, List.length_nil, Nat.reduceAdd, Nat.reduceSub, Nat.reduceLeDiff, Nat.zero_add, List.cons_append, List.nil_append, bin_neq, if_true, if_false, Bool.false_eq_true, decide_true, decide_false, not_true_eq_false, not_false_eq_true, h0, hP.len, hV.ls.len, hn]
    exact gc_same (by rw [bad (fun hc => hn (by have := hc.1; omega))])
  have hmk : (0 : Int) ≤ ws.length ∧ (ws.length : Int) ≤ ((lim : Nat) : Int) := by unfold lim; omega
  have hmk1 : ((ws.length : Int) ≤ ws.length) := Int.le_refl _
  simp (maxSteps := 4000000) -implicitDefEqProofs -dsimp (disch := omega) only [↓AW_skip, ↓AW_ops, ↓AW_seq, ↓AW_cond, ↓AOps_nil, ↓AOps_pu, ↓AOps_ha, ↓AOps_call, on_some, extK_app, extK_same, condB_f, ↓then_normal, pval, hval_mks, rd_S, rd_C, put_S, chkd, isAdr, bgot, cells_agg, partA, beq_self_eq_true, eq_self, List.replicate_succ, List.replicate_zero, List.set_cons_zero, List.set_cons_succ, List.getElem?_cons_zero, List.getElem?_cons_succ, List.drop_zero, List.drop_succ_cons, List.take_succ_cons, List.take_nil, Option.getD_some, map_c, map_n, List.length_cons, List.length_nil, Nat.reduceAdd, Nat.reduceSub, Nat.reduceLeDiff, Nat.zero_add, List.cons_append, List.nil_append, bin_neq, if_true, if_false, Bool.false_eq_true, decide_false, and_true, not_true_eq_false, h0, hP.len, hV.ls.len, hn, hmk, hmk1, Int.toNat_natCast]
  refine CallK.of (s76 _ _) ?_
  simp (maxSteps := 4000000) -implicitDefEqProofs -dsimp (disch := omega) only [↓AW_ops, ↓AW_seq, ↓AW_block, ↓AOps_nil, ↓AOps_pu, on_some, extK_same, ↓then_normal, pval, rd_S, rd_C, put_S, ↓AW_toLoop, chkd, bput, cells_agg, splice, eq_self, List.replicate_succ, List.replicate_zero, List.set_cons_zero, List.set_cons_succ, List.getElem?_cons_zero, List.getElem?_cons_succ, List.drop_succ_cons, List.drop_nil, List.take_zero, Option.getD_some, List.length_cons, List.length_nil, Nat.reduceAdd, Nat.reduceSub, Nat.reduceLeDiff, Nat.zero_add, List.cons_append, List.nil_append, List.append_nil, if_true, if_false, ne_eq, not_true_eq_false, R_int, hP.len, hn]
  rw [repl_eb]
  -- who has a piece
  have hblz : (List.range ws.length).map (fun (o : Nat) => decide ((o : Int) ∈ ((pcs.take 0).map Pc.o))) = List.replicate ws.length false := by
    apply List.ext_getElem
    · simp
    · intro i h1 h2; simp
  rw [← hblz]
  refine LoopK.by 100 (fun z : Nat × AV × AHeap => z.1 ≤ pcs.length ∧ (∀ j, (h : j < pcs.length) → j < z.1 → CPi L (lists ws) pcs j pcs[j]) ∧
      AccL 2 e2 (A ++ [.cells true (((List.range ws.length).map (fun (o : Nat) => decide ((o : Int) ∈ ((pcs.take z.1).map Pc.o)))).flatMap eb)]) z.2.2 z.2.1 (plcs (pcs.take z.1)))
    (fun z => [(2, .agg [x, y]), (6, z.2.1), (7, .sl 1 A.length 0 ws.length true), (8, .agg [I (atI pcs z.1).1, I (atI pcs z.1).2]), (27, v), (28, I ws.length), (29, I z.1)]) (fun z => z.2.2) (fun z => pcs.length - z.1) (0, .nilS, _) ⟨by omega, fun j _ hj => by omega, AccL.nil (List.prefix_refl _)⟩ rfl (by simp [Has, rd_s, atI_zero]) rfl ?_
  rintro ⟨i, u, H⟩ ⟨hi, hc, hu⟩
  simp only at hi hc hu
  have hpre : A <+: H := (pre_app _ _).trans hu.pre
  have hP1 := hP.mono hpre
  have hL1 := hL.mono hpre
  have hV1 := hV.mono hpre
  generalize hbl : (List.range ws.length).map (fun (o : Nat) => decide ((o : Int) ∈ ((pcs.take i).map Pc.o))) = bl at *
  have hbll : bl.length = ws.length := by rw [← hbl]; simp
  have hOL : OL 1 eb A H A.length (.sl 1 A.length 0 ws.length true) bl := ⟨eb_len, hpre, Nat.le_refl _, pre_get hu.pre (by simp), true, by rw [hbll]⟩
  by_cases hlt : i < pcs.length
  · obtain ⟨p, hz⟩ : ∃ z, pcs[i]? = some z := ⟨_, List.getElem?_eq_getElem hlt⟩
    have hlt' : (i : Int) < pcs.length := by omega
    have hlt2 : (i : Int) < ws.length := by omega
    obtain ⟨wr, wsn⟩ := hW p (List.mem_of_getElem? hz)
    have hnot : ∀ hh : ¬ CPi L (lists ws) pcs i p, cpE L (lists ws) pcs = 1 := fun hh => bad (CP_not hz hh)
    by_cases h1 : 0 ≤ p.o ∧ p.o ≤ (ws.length : Int) - 1
    case neg =>
      simp (maxSteps := 4000000) -implicitDefEqProofs -dsimp (disch := omega) only [↓AW_skip, ↓AW_ops, ↓AW_seq, ↓AW_cond, ↓AW_block, ↓AOps_nil, ↓AOps_pu, ↓AOps_ld, ↓AOps_call, on_some, condB_t, ↓then_normal, pval, lval, rd_S, rd_C, put_S, chkd, isAdr, bput, bgot, cells_agg, splice, partA, eq_self, mk, List.foldl_cons, List.foldl_nil, List.replicate_succ, List.replicate_zero, List.set_cons_zero, List.set_cons_succ, List.getElem?_cons_zero, List.getElem?_cons_succ, List.drop_zero, List.drop_succ_cons, List.drop_nil, List.take_zero, List.take_succ_cons, List.take_nil, Option.getD_some, map_c, map_n, List.length_cons, List.length_nil, Nat.reduceAdd, Nat.reduceLeDiff, Nat.reduceEqDiff, Nat.zero_add, List.nil_append, List.append_nil, bin_sub, bin_lss, w64, if_true, if_false, Bool.false_eq_true, decide_true, ne_eq, not_true_eq_false, hlt2, hP1.idx hlt, hP1.ld0 hz 5 true (by decide), e5, hV1.ls.len]
      refine CallK.of (c_kw _ _ _ _) ?_
      simp (maxSteps := 4000000) -implicitDefEqProofs -dsimp (disch := omega) only [↓AW_ops, ↓AW_seq, ↓AW_cond, ↓AW_ret, ↓AOps_nil, ↓AOps_pu, ↓AOps_guard, on_some, extK_same, guardB_tf, skipS_some, condB_t, ↓then_normal, ↓then_ret, ↓inBlock_ret, ↓Fin_ret, pval, rd_S, rd_C, put_S, resV, resL, eq_self, mk, List.foldl_cons, List.foldl_nil, List.replicate_succ, List.replicate_zero, List.set_cons_zero, List.set_cons_succ, List.getElem?_cons_zero, List.getElem?_cons_succ, Option.getD_some, if_true, Bool.not_false, decide_false, h1]
      exact gc_val hpre (by rw [hnot (fun hh => h1 (by have := hh.1; omega))]; rfl)
    have hidx := hOL.ls.idxI (k := .i64) h1.1 (by omega : p.o < bl.length)
    have hol : p.o.toNat < bl.length := by omega
    obtain ⟨b, hb⟩ : ∃ b, bl[p.o.toNat]? = some b := ⟨_, List.getElem?_eq_getElem hol⟩
    have hbd : b = decide (p.o ∈ (pcs.take i).map Pc.o) := by
      rw [← hbl] at hb
      have hr : (List.range ws.length)[p.o.toNat]? = some p.o.toNat := by rw [List.getElem?_range (by omega)]
      rw [List.getElem?_map, hr, Option.map_some] at hb
      have := Option.some.inj hb
      rw [← this, show ((p.o.toNat : Nat) : Int) = p.o by omega]
    have hld := hOL.ls.ld0 hb 1 false (by decide)
    have fin1 : ∀ hh : ¬ CPi L (lists ws) pcs i p, GC A (I 1) H (I (cpE L (lists ws) pcs)) A := fun hh => gc_val hpre (by rw [hnot hh]; rfl)
    by_cases h2 : p.o ∈ (pcs.take i).map Pc.o
    case pos =>
      have hbt : b = true := by rw [hbd]; exact decide_eq_true h2
      subst hbt
      simp (maxSteps := 4000000) -implicitDefEqProofs -dsimp (disch := omega) only [↓AW_skip, ↓AW_ops, ↓AW_seq, ↓AW_cond, ↓AW_block, ↓AOps_nil, ↓AOps_pu, ↓AOps_ld, ↓AOps_call, on_some, condB_t, ↓then_normal, pval, lval, rd_S, rd_C, put_S, chkd, isAdr, bput, bgot, cells_agg, splice, partA, eq_self, mk, List.foldl_cons, List.foldl_nil, List.replicate_succ, List.replicate_zero, List.set_cons_zero, List.set_cons_succ, List.getElem?_cons_zero, List.getElem?_cons_succ, List.drop_zero, List.drop_succ_cons, List.drop_nil, List.take_zero, List.take_succ_cons, List.take_nil, Option.getD_some, map_c, map_n, List.length_cons, List.length_nil, Nat.reduceAdd, Nat.reduceLeDiff, Nat.reduceEqDiff, Nat.zero_add, List.nil_append, List.append_nil, bin_sub, bin_lss, w64, if_true, if_false, Bool.false_eq_true, decide_true, ne_eq, not_true_eq_false, hlt2, hP1.idx hlt, hP1.ld0 hz 5 true (by decide), e5, hV1.ls.len]
      refine CallK.of (c_kw _ _ _ _) ?_
      simp (maxSteps := 4000000) -implicitDefEqProofs -dsimp (disch := omega) only [↓AW_ops, ↓AW_seq, ↓AW_cond, ↓AW_ret, ↓AOps_nil, ↓AOps_pu, ↓AOps_ld, ↓AOps_guard, on_some, extK_same, guardB_tf, guardB_ff, skipS_some, condB_t, ↓then_normal, ↓then_ret, ↓inBlock_ret, ↓Fin_ret, pval, lval, rd_S, rd_C, put_S, resV, resL, chkd, isAdr, bgot, cells_agg, partA, eq_self, mk, List.foldl_cons, List.foldl_nil, List.replicate_succ, List.replicate_zero, List.set_cons_zero, List.set_cons_succ, List.getElem?_cons_zero, List.getElem?_cons_succ, List.drop_zero, List.take_zero, List.take_succ_cons, List.take_nil, Option.getD_some, List.length_cons, List.length_nil, Nat.reduceAdd, Nat.reduceLeDiff, Nat.zero_add, if_true, if_false, Bool.false_eq_true, Bool.not_true, decide_true, and_true, h1, hidx, hld, eb]
      exact fin1 (fun hh => hh.2.1 h2)
    have hbf : b = false := by rw [hbd]; exact decide_eq_false h2
    subst hbf
    simp (maxSteps := 4000000) -implicitDefEqProofs -dsimp (disch := omega) only [↓AW_skip, ↓AW_ops, ↓AW_seq, ↓AW_cond, ↓AW_block, ↓AOps_nil, ↓AOps_pu, ↓AOps_ld, ↓AOps_call, on_some, condB_t, ↓then_normal, pval, lval, rd_S, rd_C, put_S, chkd, isAdr, bput, bgot, cells_agg, splice, partA, eq_self, mk, List.foldl_cons, List.foldl_nil, List.replicate_succ, List.replicate_zero, List.set_cons_zero, List.set_cons_succ, List.getElem?_cons_zero, List.getElem?_cons_succ, List.drop_zero, List.drop_succ_cons, List.drop_nil, List.take_zero, List.take_succ_cons, List.take_nil, Option.getD_some, map_c, map_n, List.length_cons, List.length_nil, Nat.reduceAdd, Nat.reduceLeDiff, Nat.reduceEqDiff, Nat.zero_add, List.nil_append, List.append_nil, bin_sub, bin_lss, w64, if_true, if_false, Bool.false_eq_true, decide_true, ne_eq, not_true_eq_false, hlt2, hP1.idx hlt, hP1.ld0 hz 5 true (by decide), e5, hV1.ls.len]
    refine CallK.of (c_kw _ _ _ _) ?_
    simp (maxSteps := 4000000) -implicitDefEqProofs -dsimp (disch := omega) only [↓AOps_pu, ↓AOps_ld, ↓AOps_call, ↓AOps_guard, on_some, extK_same, guardB_ff, pval, lval, rd_S, rd_C, put_S, chkd, isAdr, bgot, cells_agg, partA, eq_self, mk, List.foldl_cons, List.foldl_nil, List.replicate_succ, List.replicate_zero, List.set_cons_zero, List.set_cons_succ, List.getElem?_cons_zero, List.getElem?_cons_succ, List.drop_zero, List.drop_succ_cons, List.take_zero, List.take_succ_cons, List.take_nil, Option.getD_some, map_c, map_n, List.length_cons, List.length_nil, Nat.reduceAdd, Nat.reduceLeDiff, Nat.reduceEqDiff, Nat.zero_add, if_true, if_false, Bool.false_eq_true, Bool.not_true, decide_true, and_true, h1, hidx, hld, eb]
    refine CallK.of (c_isK hL1 hg p.r wr) ?_
    by_cases h3 : isK L p.r
    case neg =>
      simp (maxSteps := 4000000) -implicitDefEqProofs -dsimp (disch := omega) only [↓AW_ops, ↓AW_seq, ↓AW_cond, ↓AW_ret, ↓AOps_nil, ↓AOps_pu, ↓AOps_guard, on_some, extK_same, guardB_tf, guardB_ff, skipS_some, condB_t, ↓then_normal, ↓then_ret, ↓inBlock_ret, ↓Fin_ret, pval, rd_S, rd_C, put_S, resV, resL, eq_self, mk, List.foldl_cons, List.foldl_nil, List.replicate_succ, List.replicate_zero, List.set_cons_zero, List.set_cons_succ, List.getElem?_cons_zero, List.getElem?_cons_succ, Option.getD_some, if_true, if_false, Bool.false_eq_true, Bool.not_false, decide_false, h3]
      exact fin1 (fun hh => h3 hh.2.2.1)
    simp (maxSteps := 4000000) -implicitDefEqProofs -dsimp (disch := omega) only [↓AOps_pu, ↓AOps_call, ↓AOps_guard, on_some, extK_same, guardB_ff, pval, rd_S, rd_C, put_S, chkd, isAdr, bgot, cells_agg, partA, eq_self, mk, List.foldl_cons, List.foldl_nil, List.replicate_succ, List.replicate_zero, List.set_cons_zero, List.set_cons_succ, List.getElem?_cons_zero, List.getElem?_cons_succ, List.drop_zero, List.drop_succ_cons, List.take_succ_cons, List.take_nil, Option.getD_some, map_c, map_n, List.length_cons, List.length_nil, Nat.reduceAdd, Nat.reduceLeDiff, Nat.reduceEqDiff, Nat.zero_add, if_true, if_false, Bool.false_eq_true, Bool.not_true, decide_true, h3]
    refine CallK.of (c_isK hL1 hg p.s wsn) ?_
    by_cases h4 : isK L p.s
    case neg =>
      simp (maxSteps := 4000000) -implicitDefEqProofs -dsimp (disch := omega) only [↓AW_ops, ↓AW_seq, ↓AW_cond, ↓AW_ret, ↓AOps_nil, ↓AOps_pu, ↓AOps_guard, on_some, extK_same, guardB_tf, guardB_ff, skipS_some, condB_t, ↓then_normal, ↓then_ret, ↓inBlock_ret, ↓Fin_ret, pval, rd_S, rd_C, put_S, resV, resL, eq_self, mk, List.foldl_cons, List.foldl_nil, List.replicate_succ, List.replicate_zero, List.set_cons_zero, List.set_cons_succ, List.getElem?_cons_zero, List.getElem?_cons_succ, Option.getD_some, if_true, if_false, Bool.false_eq_true, Bool.not_false, decide_false, h4]
      exact fin1 (fun hh => h4 hh.2.2.2.1)
    by_cases h5 : p.r = atI pcs i
    case neg =>
      have hpb := pair_beq h5
      simp (maxSteps := 4000000) -implicitDefEqProofs -dsimp (disch := omega) only [↓AW_ops, ↓AW_seq, ↓AW_cond, ↓AW_ret, ↓AOps_nil, ↓AOps_pu, ↓AOps_guard, on_some, extK_same, guardB_tf, guardB_ff, skipS_some, condB_t, ↓then_normal, ↓then_ret, ↓inBlock_ret, ↓Fin_ret, pval, rd_S, rd_C, put_S, resV, resL, chkd, isAdr, bgot, cells_agg, partA, eqc, Bool.and_true, eq_self, mk, List.foldl_cons, List.foldl_nil, List.replicate_succ, List.replicate_zero, List.set_cons_zero, List.set_cons_succ, List.getElem?_cons_zero, List.getElem?_cons_succ, List.drop_zero, List.drop_succ_cons, List.take_zero, List.take_succ_cons, List.take_nil, Option.getD_some, Option.map_some, List.length_cons, List.length_nil, Nat.reduceAdd, Nat.reduceLeDiff, Nat.reduceEqDiff, Nat.zero_add, if_true, if_false, Bool.false_eq_true, Bool.not_true, Bool.not_false, decide_true, h4, hpb]
      exact fin1 (fun hh => h5 hh.2.2.2.2.1)
    obtain ⟨w0, hw0⟩ := first_row hg
    have hmr := mem_lists (List.mem_of_getElem? hw0)
    have hgd := hg.gd hmr
    obtain ⟨k1, _, _, p1⟩ := isK_R hg h3
    obtain ⟨k2, _, _, p2⟩ := isK_R hg h4
    have p1 := p1 _ hmr
    have p2 := p2 _ hmr
    have hcmp := s65 (qr p.r) (qr p.s) H (p1.sm hgd) (p2.sm hgd)
    rw [← k1, ← k2] at hcmp
    simp (maxSteps := 4000000) -implicitDefEqProofs -dsimp (disch := omega) only [↓AOps_pu, ↓AOps_call, ↓AOps_guard, on_some, extK_same, guardB_ff, pval, rd_S, rd_C, put_S, chkd, isAdr, bgot, cells_agg, partA, eqc, beq_self_eq_true, eq_self, mk, List.foldl_cons, List.foldl_nil, List.replicate_succ, List.replicate_zero, List.set_cons_zero, List.set_cons_succ, List.getElem?_cons_zero, List.getElem?_cons_succ, List.drop_zero, List.drop_succ_cons, List.take_zero, List.take_succ_cons, List.take_nil, Option.getD_some, Option.map_some, map_c, map_n, List.length_cons, List.length_nil, Nat.reduceAdd, Nat.reduceLeDiff, Nat.reduceEqDiff, Nat.zero_add, if_true, if_false, Bool.false_eq_true, Bool.not_true, Bool.true_and, decide_true, h4, ← h5]
    refine CallK.of hcmp ?_
    by_cases h6 : qr p.s < qr p.r
    case pos =>
      have h6' := (sub_pos_iff (qr p.r) (qr p.s)).2 h6
      simp (maxSteps := 4000000) -implicitDefEqProofs -dsimp (disch := omega) only [↓AW_ops, ↓AW_seq, ↓AW_cond, ↓AW_ret, ↓AOps_nil, ↓AOps_pu, ↓AOps_guard, on_some, extK_same, guardB_ff, condB_t, ↓then_normal, ↓then_ret, ↓inBlock_ret, ↓Fin_ret, pval, rd_S, rd_C, put_S, resV, resL, mk, List.foldl_cons, List.foldl_nil, List.replicate_succ, List.replicate_zero, List.set_cons_zero, List.set_cons_succ, List.getElem?_cons_zero, List.getElem?_cons_succ, Option.getD_some, bin_gtr, if_false, Bool.false_eq_true, decide_true, h6']
      exact fin1 (fun hh => hh.2.2.2.2.2 h6)
    have h6' : ¬ 0 < (qr p.r - qr p.s).num := fun hh => h6 ((sub_pos_iff _ _).1 hh)
    have hst := hOL.st hol (B true) true rfl
    have hset := hOL.set p.o.toNat true
    generalize hH1 : H.set A.length (.cells true ((bl.set p.o.toNat true).flatMap eb)) = H1 at *
    have hu1 := AccL_set hu (n := A.length) (by simp) (.cells true ((bl.set p.o.toNat true).flatMap eb))
    rw [hH1] at hu1
    have hBe : (A ++ [AObj.cells true (bl.flatMap eb)]).set A.length (.cells true ((bl.set p.o.toNat true).flatMap eb)) = A ++ [.cells true ((bl.set p.o.toNat true).flatMap eb)] := by simp
    rw [hBe] at hu1
    have hu2 := hu1.mono (pre_app H1 [.cells true [I p.r.1, I p.r.2, I p.s.1, I p.s.2]])
    have hpl : ((plcs (pcs.take i)).length : Int) ≤ 2 * i := by
      have : ∀ l : List Pc, (plcs l).length = 2 * l.length := by
        intro l
        induction l with
        | nil => rfl
        | cons a l ih => simp only [plcs, List.flatMap_cons, List.length_append, List.length_cons, List.length_nil] at *; omega
      rw [this, List.length_take]; omega
    obtain ⟨u3, H3, happ, hu3⟩ := hu2.pushes (L2_two H1 p.r p.s) (by simp [lim]; omega)
    have hbl2 : (List.range ws.length).map (fun (o : Nat) => decide ((o : Int) ∈ ((pcs.take (i + 1)).map Pc.o))) = bl.set p.o.toNat true := by
      rw [← hbl]
      apply List.ext_getElem
      · simp
      · intro k g1 g2
        simp only [List.length_map, List.length_range] at g1
        rw [List.getElem_set]
        simp only [List.getElem_map, List.getElem_range]
        have hmem : ((k : Int) ∈ (pcs.take (i + 1)).map Pc.o) ↔ ((k : Int) ∈ (pcs.take i).map Pc.o ∨ (k : Int) = p.o) := by
          rw [List.take_add_one, hz, Option.toList_some, List.map_append, List.mem_append]
          simp
        rw [decide_eq_decide.2 hmem]
        by_cases hk : p.o.toNat = k
        · rw [if_pos hk, decide_eq_true]; right; omega
        · rw [if_neg hk, decide_eq_decide]
          constructor
          · rintro (h | h)
            · exact h
            · omega
          · exact fun h => .inl h
    have hpl2 : plcs (pcs.take (i + 1)) = plcs (pcs.take i) ++ [p.r, p.s] := by
      rw [List.take_add_one, hz, Option.toList_some]
      simp [plcs]
    simp (maxSteps := 4000000) -implicitDefEqProofs -dsimp (disch := omega) only [↓AW_skip, ↓AW_ops, ↓AW_seq, ↓AW_cond, ↓AOps_nil, ↓AOps_pu, ↓AOps_ha, ↓AOps_guard, on_some, extK_false, extK_app, extK_same, guardB_ff, condB_f, ↓then_normal, ↓inBlock_normal, pval, hval_st, hval_blds, hval_app, rd_S, rd_C, put_S, putS_none, chkd, isAdr, bput, bgot, cells_agg, splice, partA, fillA, repl, eq_self, mk, List.foldl_cons, List.foldl_nil, List.replicate_succ, List.replicate_zero, List.set_cons_zero, List.set_cons_succ, List.getElem?_cons_zero, List.getElem?_cons_succ, List.drop_zero, List.drop_succ_cons, List.drop_nil, List.take_zero, List.take_succ_cons, List.take_nil, Option.getD_some, Option.map_some, map_c, map_n, List.length_cons, List.length_nil, Nat.reduceAdd, Nat.reduceLeDiff, Nat.reduceEqDiff, Nat.zero_add, List.cons_append, List.nil_append, List.append_nil, bin_add, bin_gtr, w64, if_true, if_false, Bool.false_eq_true, decide_false, true_and, and_true, ne_eq, not_true_eq_false, h6', hidx, hst, happ]
    refine ⟨(i + 1, u3, H3), ⟨hlt, fun j hj hji => ?_, ?_⟩, by simp [Has, rd_s, atI_succ hz], rfl, by simp only; omega⟩
    · by_cases hji' : j < i
      · exact hc j hj hji'
      · have : j = i := by simp only at hji; omega
        subst this
        have he : pcs[j] = p := (List.getElem?_eq_some_iff.1 hz).2
        rw [he]
        exact ⟨by omega, h2, h3, h4, h5, h6⟩
    · simp only
      rw [hbl2, hpl2]
      exact hu3
  · have hiE : i = pcs.length := by omega
    subst hiE
    have hlt' : ¬ ((pcs.length : Int) < ws.length) := by omega
    rw [List.take_length] at hu
    have hkd : ∀ r ∈ plcs pcs, 1 ≤ r.2 ∧ r.2 ≤ 1000000 := by
      intro r hr
      obtain ⟨p, hp, hr⟩ := List.mem_flatMap.1 hr
      obtain ⟨j, hj, rfl⟩ := List.mem_iff_getElem.1 hp
      have := hc j hj hj
      simp only [List.mem_cons, List.not_mem_nil, or_false] at hr
      rcases hr with rfl | rfl
      · exact this.2.2.1.1.1
      · exact this.2.2.2.1.1.1
    have hpl : (plcs pcs).length = 2 * pcs.length := by
      have : ∀ l : List Pc, (plcs l).length = 2 * l.length := by
        intro l
        induction l with
        | nil => rfl
        | cons a l ih => simp only [plcs, List.flatMap_cons, List.length_append, List.length_cons, List.length_nil] at *; omega
      exact this pcs
    simp (maxSteps := 4000000) -implicitDefEqProofs -dsimp (disch := omega) only [↓AW_ops, ↓AW_seq, ↓AW_cond, ↓AW_exit, ↓AOps_nil, ↓AOps_pu, ↓AOps_call, on_some, condB_f, ↓then_normal, ↓then_exit, ↓inBlock_exit, pval, rd_S, put_S, chkd, bgot, partA, eq_self, mk, List.foldl_cons, List.foldl_nil, List.replicate_succ, List.replicate_zero, List.set_cons_zero, List.set_cons_succ, List.getElem?_cons_zero, List.getElem?_cons_succ, List.drop_zero, List.take_succ_cons, List.take_nil, Option.getD_some, map_c, map_n, List.length_cons, List.length_nil, Nat.reduceAdd, Nat.reduceLeDiff, Nat.reduceEqDiff, Nat.zero_add, bin_lss, if_true, if_false, decide_false, hlt']
    refine CallK.of (c_end (y := y) hL1 hg) ?_
    simp (maxSteps := 4000000) -implicitDefEqProofs -dsimp (disch := omega) only [↓AOps_call, extK_same, rd_S, put_S, mk, List.foldl_cons, List.foldl_nil, List.replicate_succ, List.replicate_zero, List.set_cons_zero, List.set_cons_succ, List.getElem?_cons_zero, List.getElem?_cons_succ, Option.getD_some, map_c, map_n]
    refine CallK.of (s76 _ _) ?_
    simp (maxSteps := 4000000) -implicitDefEqProofs -dsimp (disch := omega) only [↓AOps_pu, ↓AOps_guard, on_some, extK_same, pval, rd_S, put_S, eqc, Bool.and_true, eq_self, mk, List.foldl_cons, List.foldl_nil, List.replicate_succ, List.replicate_zero, List.set_cons_zero, List.set_cons_succ, List.getElem?_cons_zero, List.getElem?_cons_succ, Option.getD_some, Option.map_some, if_true, R_int]
    by_cases h7 : atI pcs pcs.length = (L.sum, 1)
    case neg =>
      have hpb : ((atI pcs pcs.length).1 == L.sum && (atI pcs pcs.length).2 == 1) = false := pair_beq h7
      simp (maxSteps := 4000000) -implicitDefEqProofs -dsimp (disch := omega) only [↓AW_ops, ↓AW_seq, ↓AW_cond, ↓AW_ret, ↓AOps_nil, ↓AOps_pu, ↓AOps_guard, on_some, guardB_tf, skipS_some, condB_t, ↓then_normal, ↓then_ret, ↓Fin_ret, pval, rd_S, rd_C, put_S, resV, resL, eq_self, mk, List.foldl_cons, List.foldl_nil, List.replicate_succ, List.replicate_zero, List.set_cons_zero, List.set_cons_succ, List.getElem?_cons_zero, List.getElem?_cons_succ, Option.getD_some, if_true, Bool.not_false, hpb]
      exact gc_val hpre (by rw [bad (fun hc => h7 hc.2.2.1)]; rfl)
    have h7a : (atI pcs pcs.length).1 = L.sum := by rw [h7]
    have h7b : (atI pcs pcs.length).2 = 1 := by rw [h7]
    simp (maxSteps := 4000000) -implicitDefEqProofs -dsimp (disch := omega) only [↓AOps_pu, ↓AOps_call, ↓AOps_guard, on_some, guardB_ff, pval, rd_S, rd_C, put_S, beq_self_eq_true, Bool.and_self, mk, List.foldl_cons, List.foldl_nil, List.replicate_succ, List.replicate_zero, List.set_cons_zero, List.set_cons_succ, List.getElem?_cons_zero, List.getElem?_cons_succ, Option.getD_some, map_c, map_n, Bool.not_true, h7a, h7b]
    refine CallK.of (c_Common (AccL_ls hu e2_len) (by omega) hkd) ?_
    by_cases h8 : cmn 1 ((plcs pcs).map Prod.snd) ≤ 1000000
    · have h8' : ¬ 1000000 < cmn 1 ((plcs pcs).map Prod.snd) := by omega
      simp (maxSteps := 4000000) -implicitDefEqProofs -dsimp (disch := omega) only [↓AW_skip, ↓AW_ops, ↓AW_seq, ↓AW_cond, ↓AW_ret, ↓AOps_nil, ↓AOps_pu, ↓AOps_guard, on_some, extK_same, guardB_ff, condB_f, ↓then_normal, ↓Fin_ret, pval, rd_S, rd_C, put_S, resV, resL, beq_self_eq_true, Bool.and_self, mk, List.foldl_cons, List.foldl_nil, List.replicate_succ, List.replicate_zero, List.set_cons_zero, List.set_cons_succ, List.getElem?_cons_zero, List.getElem?_cons_succ, Option.getD_some, bin_gtr, if_false, Bool.false_eq_true, Bool.not_true, decide_false, h8', h7a, h7b]
      refine gc_val hpre ?_
      rw [cpE, if_pos h0, if_pos ⟨by omega, fun j hj => hc j hj hj, h7, h8⟩]
      rfl
    · have h8' : 1000000 < cmn 1 ((plcs pcs).map Prod.snd) := by omega
      simp (maxSteps := 4000000) -implicitDefEqProofs -dsimp (disch := omega) only [↓AW_ops, ↓AW_seq, ↓AW_cond, ↓AW_ret, ↓AOps_nil, ↓AOps_pu, ↓AOps_guard, on_some, extK_same, guardB_ff, condB_t, ↓then_normal, ↓then_ret, ↓Fin_ret, pval, rd_S, rd_C, put_S, resV, resL, beq_self_eq_true, Bool.and_self, mk, List.foldl_cons, List.foldl_nil, List.replicate_succ, List.replicate_zero, List.set_cons_zero, List.set_cons_succ, List.getElem?_cons_zero, List.getElem?_cons_succ, Option.getD_some, bin_gtr, if_false, Bool.false_eq_true, Bool.not_true, decide_true, h8', h7a, h7b]
      exact gc_val hpre (by rw [bad (fun hc => h8 hc.2.2.2)]; rfl)
end
end Go.Proofs.Ytmblehbjedpjoaa

namespace Go.Proofs.Ytmblehbjedpjoaa
open Go Go.Eng
theorem lcm_facts {out d : Int} (h0 : 0 < out) (hd : 0 < d) : 0 < out / (Int.gcd out d : Int) * d ∧ out ∣ out / (Int.gcd out d : Int) * d ∧ d ∣ out / (Int.gcd out d : Int) * d ∧ ∀ D, out ∣ D → d ∣ D → out / (Int.gcd out d : Int) * d ∣ D := by
  obtain ⟨_, q2, _⟩ := gcd_div h0 hd
  obtain ⟨g1, g2⟩ := gcd_pos (a := out) hd
  refine ⟨Int.mul_pos q2 hd, ?_, Int.dvd_mul_left _ _, fun D h1 h2 => ?_⟩
  · obtain ⟨x, hx⟩ := Int.gcd_dvd_left out d
    obtain ⟨y, hy⟩ := Int.gcd_dvd_right out d
    generalize (Int.gcd out d : Nat) = g at *
    refine ⟨y, ?_⟩
    rw [hx, Int.mul_ediv_cancel_left _ (by omega)]
    rw [hy]
    rw [← Int.mul_assoc, Int.mul_comm x]
  · obtain ⟨z, hz⟩ := h1
    have hgd := Int.gcd_dvd_left out d
    have hl : out / (Int.gcd out d : Int) * d = (Int.lcm out d : Int) := by
      have e1 : (Int.gcd out d : Int) * (Int.lcm out d : Int) = (out * d) := by
        have := Int.gcd_mul_lcm out d
        have h3 : ((Int.gcd out d * Int.lcm out d : Nat) : Int) = ((out * d).natAbs : Int) := by rw [this, Int.natAbs_mul]
        rw [Int.natCast_mul] at h3
        rw [h3, Int.natAbs_of_nonneg (Int.le_of_lt (Int.mul_pos h0 hd))]
      obtain ⟨x, hx⟩ := hgd
      have hg0 : (Int.gcd out d : Int) ≠ 0 := by omega
      have e2 : out / (Int.gcd out d : Int) = x := by
        conv => lhs; lhs; rw [hx]
        exact Int.mul_ediv_cancel_left _ hg0
      rw [e2]
      have e3 : (Int.gcd out d : Int) * (Int.lcm out d : Int) = (Int.gcd out d : Int) * (x * d) := by
        rw [e1, ← Int.mul_assoc, ← hx]
      exact (Int.eq_of_mul_eq_mul_left hg0 e3).symm
    rw [hl]
    exact Int.coe_lcm_dvd ⟨z, hz⟩ h2
theorem cmn_dvd : ∀ (ds : List Int) (out : Int), 0 < out → (∀ d ∈ ds, 0 < d) → cmn out ds ≤ 1000000 → 0 < cmn out ds ∧ out ∣ cmn out ds ∧ ∀ d ∈ ds, d ∣ cmn out ds
  | [], out, h0, _, _ => ⟨h0, Int.dvd_refl _, by simp⟩
  | d :: ds, out, h0, hd, h => by
    obtain ⟨l1, l2, l3, _⟩ := lcm_facts h0 (hd d (by simp))
    rw [cmn] at h ⊢
    split at h
    · omega
    · rename_i hn
      rw [if_neg hn]
      obtain ⟨r1, r2, r3⟩ := cmn_dvd ds _ l1 (fun e he => hd e (by simp [he])) h
      refine ⟨r1, Int.dvd_trans l2 r2, fun e he => ?_⟩
      rcases List.mem_cons.1 he with rfl | he
      · exact Int.dvd_trans l3 r2
      · exact r3 e he
theorem cmn_le {D : Int} (hD : 0 < D ∧ D ≤ 1000000) : ∀ (ds : List Int) (out : Int), 0 < out → out ∣ D → (∀ d ∈ ds, 0 < d ∧ d ∣ D) → cmn out ds ≤ 1000000
  | [], out, h0, h, _ => by
    have := Int.le_of_dvd hD.1 h
    show out ≤ 1000000
    omega
  | d :: ds, out, h0, h, hd => by
    obtain ⟨l1, _, _, l4⟩ := lcm_facts h0 (hd d (by simp)).1
    have hl := l4 D h (hd d (by simp)).2
    have := Int.le_of_dvd hD.1 hl
    rw [cmn, if_neg (by omega)]
    exact cmn_le hD ds _ l1 hl (fun e he => hd e (by simp [he]))
section
variable {L : List Int} {ws : List (AV × List Int)} {x y : AV} {A : AHeap}
/-- The places of pieces that are accepted have a small denominator in common. -/
theorem CP.dv {V : List (List Int)} {pcs : List Pc} (h : CP L V pcs) : ∃ D : Int, (0 < D ∧ D ≤ 1000000) ∧ ∀ p ∈ pcs, Dv D (qr p.r) ∧ Dv D (qr p.s) := by
  have hpos : ∀ r ∈ plcs pcs, 0 < r.2 ∧ Int.gcd r.1 r.2 = 1 := by
    intro r hr
    obtain ⟨p, hp, hr⟩ := List.mem_flatMap.1 hr
    obtain ⟨j, hj, rfl⟩ := List.mem_iff_getElem.1 hp
    have := h.2.1 j hj
    simp only [List.mem_cons, List.not_mem_nil, or_false] at hr
    rcases hr with rfl | rfl
    · exact ⟨by have := this.2.2.1.1.1; omega, this.2.2.1.1.2⟩
    · exact ⟨by have := this.2.2.2.1.1.1; omega, this.2.2.2.1.1.2⟩
  obtain ⟨h1, _, h3⟩ := cmn_dvd ((plcs pcs).map Prod.snd) 1 (by omega) (fun d hd => by obtain ⟨r, hr, rfl⟩ := List.mem_map.1 hd; exact (hpos r hr).1) h.2.2.2
  have key : ∀ r ∈ plcs pcs, Dv (cmn 1 ((plcs pcs).map Prod.snd)) (qr r) := by
    intro r hr
    have e := R_of (hpos r hr).1 (hpos r hr).2
    have hd := (R_inj e.symm).2
    refine (Dv_self (qr r)).dvd ?_
    show ((((r.1 : Rat) / (r.2 : Rat)).den : Int)) ∣ _
    rw [hd]
    exact h3 _ (List.mem_map_of_mem hr)
  refine ⟨_, ⟨h1, h.2.2.2⟩, fun p hp => ⟨key _ (List.mem_flatMap.2 ⟨p, hp, by simp⟩), key _ (List.mem_flatMap.2 ⟨p, hp, by simp⟩)⟩⟩
theorem qr_one (n : Int) : qr (n, 1) = (n : Rat) := by
  unfold qr
  show (n : Rat) / ((1 : Int) : Rat) = (n : Rat)
  rw [int1]
  grind
theorem upTo_at0 {f : List (Int × Int)} (hg : good f) : upTo 0 f ((0 : Int) : Rat) = 0 := upTo_none _ f 0 (all_pos hg.2) Rat.le_refl
theorem isK_ends {V : List (List Int)} (h : KG L V) : isK L (0, 1) ∧ isK L (L.sum, 1) := by
  have := h.sum
  refine ⟨⟨⟨by omega, by decide⟩, by simp only; omega⟩, ⟨⟨by omega, by simp⟩, by simp only; omega⟩⟩
end
end Go.Proofs.Ytmblehbjedpjoaa

namespace Go.Proofs.Ytmblehbjedpjoaa
open Go Go.Eng
/-- The element that the search stops at. -/
def At (pcs : List Pc) (o : Int) (i : Nat) (p : Pc) : Prop := pcs[i]? = some p ∧ p.o = o ∧ ∀ j, j < i → ∀ q, pcs[j]? = some q → ¬ q.o = o
theorem At.ex {pcs : List Pc} {o : Int} (h : ∃ p ∈ pcs, p.o = o) : ∃ i p, At pcs o i p := by
  induction pcs with
  | nil => obtain ⟨p, hp, _⟩ := h; simp at hp
  | cons a l ih =>
    by_cases ha : a.o = o
    · exact ⟨0, a, rfl, ha, fun j hj => by omega⟩
    · obtain ⟨p, hp, hpo⟩ := h
      rcases List.mem_cons.1 hp with rfl | hp
      · exact absurd hpo ha
      · obtain ⟨i, q, h1, h2, h3⟩ := ih ⟨p, hp, hpo⟩
        refine ⟨i + 1, q, by simpa using h1, h2, fun j hj q' hq => ?_⟩
        cases j with
        | zero => simp at hq; subst hq; exact ha
        | succ j => exact h3 j (by omega) q' (by simpa using hq)
theorem ld_new (A : AHeap) (x : AV) (l : List AV) : ldA 1 false (.ptr A.length 0) (A ++ [.cells true (x :: l)]) = some x := by
  simp [ldA, partA]
theorem c_own1 (p : Pc) (o : Int) (A : AHeap) : ACalls Try.prog 123 [.agg (e5 p), .ptr A.length 0] (A ++ [.cells true [I o]]) (B (decide (p.o = o))) (A ++ [.cells true [I o]]) := by
  refine acalls hmix Try.func123 (by kernel_rfl) t123 2 rfl (by decide) ?_
  dsimp only [m123]
  simp (maxSteps := 4000000) -implicitDefEqProofs -dsimp (disch := omega) only [↓AW_ops, ↓AW_seq, ↓AW_ret, ↓AOps_nil, ↓AOps_pu, ↓AOps_ld, on_some, ↓then_normal, ↓Fin_ret, pval, lval, rd_S, rd_C, put_S, resV, resL, chkd, isAdr, bgot, AV.cells?, partA, eq_self, List.replicate_succ, List.replicate_zero, List.set_cons_zero, List.set_cons_succ, List.getElem?_cons_zero, List.getElem?_cons_succ, List.drop_zero, List.take_zero, List.take_succ_cons, Option.getD_some, List.length_cons, List.length_nil, Nat.reduceAdd, Nat.reduceSub, Nat.reduceLeDiff, Nat.zero_add, List.cons_append, List.nil_append, bin_eql, if_true, if_false, Bool.false_eq_true, e5, ld_new]
  exact gc_same rfl
theorem c_idx5 {pcs : List Pc} {v : AV} {A : AHeap} (hx : L5 A v pcs) (hl : pcs.length ≤ 1000000) (f : FuncId) (cap : List AV) (o : Int) (hg : ∀ p : Pc, ACalls Try.prog f ([.agg (e5 p)] ++ cap) A (B (decide (p.o = o))) A) {i : Nat} {p : Pc} (hp : At pcs o i p) : ACalls Try.prog 122 [v, .fn f cap] A (I i) A := by
  refine acalls hmix Try.func122 (by kernel_rfl) t122 2 rfl (by decide) ?_
  obtain ⟨h1, h2, h3⟩ := hp
  have hi0 : i < pcs.length := (List.getElem?_eq_some_iff.1 h1).1
  dsimp only [m122]
  simp (maxSteps := 4000000) -implicitDefEqProofs -dsimp (disch := omega) only [↓AW_ops, ↓AW_seq, ↓AW_block, ↓AOps_nil, ↓AOps_pu, on_some, ↓then_normal, pval, rd_S, rd_C, put_S, ↓AW_toLoop, List.replicate_succ, List.replicate_zero, List.set_cons_zero, List.set_cons_succ, List.getElem?_cons_zero, List.getElem?_cons_succ, Option.getD_some, Nat.reduceSub, List.cons_append, List.nil_append, hx.len]
  refine LoopK.by 19 (fun k : Nat => k ≤ i) (fun k => [(0, v), (1, .fn f cap), (7, I pcs.length), (8, I k)]) (fun _ => A) (fun k => pcs.length - k) 0 (by omega) rfl (by simp [Has, rd_s]) rfl ?_
  intro k hk
  have hlt : k < pcs.length := by omega
  obtain ⟨z, hz⟩ : ∃ z, pcs[k]? = some z := ⟨_, List.getElem?_eq_getElem hlt⟩
  have hlt' : (k : Int) < pcs.length := by omega
  have hcz := hg z
  unfold e5 at hcz
  simp (maxSteps := 4000000) -implicitDefEqProofs -dsimp (disch := omega) only [↓AW_skip, ↓AW_ops, ↓AW_seq, ↓AW_cond, ↓AW_block, ↓AOps_nil, ↓AOps_pu, ↓AOps_ld, ↓AOps_callv, on_some, CallF_fn, condB_t, ↓then_normal, pval, lval, rd_S, put_S, partA, eq_self, mk, List.foldl_cons, List.foldl_nil, List.replicate_succ, List.replicate_zero, List.set_cons_zero, List.set_cons_succ, List.getElem?_cons_zero, List.getElem?_cons_succ, List.drop_zero, List.take_succ_cons, List.take_nil, Option.getD_some, map_c, map_n, List.length_cons, List.length_nil, Nat.reduceAdd, Nat.reduceLeDiff, Nat.reduceEqDiff, Nat.zero_add, List.cons_append, List.nil_append, bin_lss, if_true, if_false, decide_true, hlt', hx.idx hlt, hx.ld0 hz 5 true (by decide), e5]
  by_cases hki : k = i
  · subst hki
    rw [hz] at h1
    have := Option.some.inj h1
    subst this
    refine CallK.of (hcz) ?_
    simp (maxSteps := 4000000) -implicitDefEqProofs -dsimp (disch := omega) only [↓AW_ops, ↓AW_seq, ↓AW_cond, ↓AW_ret, ↓AOps_nil, ↓AOps_pu, on_some, extK_same, condB_t, ↓then_normal, ↓then_ret, ↓inBlock_ret, ↓Fin_ret, pval, rd_S, put_S, resV, resL, eq_self, mk, List.foldl_cons, List.foldl_nil, List.replicate_succ, List.replicate_zero, List.set_cons_zero, List.set_cons_succ, List.getElem?_cons_zero, List.getElem?_cons_succ, Option.getD_some, decide_true, h2]
    exact gc_same rfl
  · have hne := h3 k (by omega) z hz
    refine CallK.of (hcz) ?_
    simp (maxSteps := 4000000) -implicitDefEqProofs -dsimp (disch := omega) only [↓AW_skip, ↓AW_ops, ↓AW_cond, ↓AOps_nil, ↓AOps_pu, on_some, extK_same, condB_f, ↓then_normal, ↓inBlock_normal, pval, rd_S, rd_C, put_S, eq_self, mk, List.foldl_cons, List.foldl_nil, List.replicate_succ, List.replicate_zero, List.set_cons_zero, List.set_cons_succ, List.getElem?_cons_zero, List.getElem?_cons_succ, Option.getD_some, List.length_cons, List.length_nil, Nat.reduceAdd, Nat.zero_add, bin_add, w64, decide_false, true_and, hne]
    exact ⟨k + 1, by omega, by simp [Has, rd_s], by omega⟩
theorem c_own {pcs : List Pc} {v : AV} {A : AHeap} (hx : L5 A v pcs) (hl : pcs.length ≤ 1000000) {o : Int} {i : Nat} {p : Pc} (hp : At pcs o i p) : ACalls Try.prog 101 [v, I o] A (.agg [I p.o, I p.r.1, I p.r.2, I p.s.1, I p.s.2]) A := by
  refine acalls hmix Try.func101 (by kernel_rfl) t101 2 rfl (by decide) ?_
  have hpr := pre_app A [.cells true [I o]]
  have hx1 := hx.mono hpr
  have hlt : i < pcs.length := (List.getElem?_eq_some_iff.1 hp.1).1
  dsimp only [m101]
  simp (maxSteps := 4000000) -implicitDefEqProofs -dsimp (disch := omega) only [↓AW_ops, ↓AW_seq, ↓AOps_nil, ↓AOps_pu, ↓AOps_ha, ↓AOps_call, on_some, extK_app, ↓then_normal, pval, hval, rd_S, rd_C, put_S, AV.cells?, List.replicate_succ, List.replicate_zero, List.set_cons_zero, List.set_cons_succ, List.getElem?_cons_zero, List.getElem?_cons_succ, Option.getD_some, map_c, map_n, Nat.reduceSub, List.cons_append, List.nil_append]
  refine CallK.of (c_idx5 hx1 hl 123 [.ptr A.length 0] o (fun p => c_own1 p o A) hp) ?_
  simp (maxSteps := 4000000) -implicitDefEqProofs -dsimp (disch := omega) only [↓AW_ret, ↓AOps_nil, ↓AOps_pu, ↓AOps_ld, on_some, extK_same, ↓then_normal, ↓Fin_ret, pval, lval, rd_S, put_S, resV, resL, chkd, bput, bgot, AV.cells?, splice, partA, eq_self, List.replicate_succ, List.replicate_zero, List.set_cons_zero, List.set_cons_succ, List.getElem?_cons_zero, List.getElem?_cons_succ, List.drop_zero, List.drop_succ_cons, List.drop_nil, List.take_zero, List.take_succ_cons, List.take_nil, Option.getD_some, List.length_cons, List.length_nil, Nat.reduceAdd, Nat.reduceSub, Nat.reduceLeDiff, Nat.reduceEqDiff, Nat.zero_add, List.cons_append, List.nil_append, List.append_nil, if_true, if_false, ne_eq, not_true_eq_false, hx1.idx hlt, hx1.ld0 hp.1 5 true (by decide), e5]
  exact gc_val hpr rfl
theorem pc_beq {z w : Pc} (h : z ≠ w) : (z.o == w.o && (z.r.1 == w.r.1 && (z.r.2 == w.r.2 && (z.s.1 == w.s.1 && z.s.2 == w.s.2)))) = false := by
  rw [Bool.eq_false_iff]
  intro he
  simp only [Bool.and_eq_true, beq_iff_eq] at he
  obtain ⟨h1, h2, h3, h4, h5⟩ := he
  obtain ⟨a, ⟨b, c⟩, ⟨d, e⟩⟩ := z
  obtain ⟨a', ⟨b', c'⟩, ⟨d', e'⟩⟩ := w
  simp only at h1 h2 h3 h4 h5
  subst h1 h2 h3 h4 h5
  exact h rfl
theorem c_same {xs ys : List Pc} {v u : AV} {A : AHeap} (hx : L5 A v xs) (hy : L5 A u ys) (hl : xs.length ≤ 1000000) : ACalls Try.prog 30 [v, u] A (B (decide (xs = ys))) A := by
  refine acalls hmix Try.func30 (by kernel_rfl) t30 2 rfl (by decide) ?_
  by_cases hle : xs.length = ys.length
  · have hle' : (xs.length : Int) = ys.length := by omega
    dsimp only [m30]
    simp (maxSteps := 4000000) -implicitDefEqProofs -dsimp (disch := omega) only [↓AW_skip, ↓AW_ops, ↓AW_seq, ↓AW_cond, ↓AW_block, ↓AOps_nil, ↓AOps_pu, on_some, condB_f, ↓then_normal, pval, rd_S, rd_C, put_S, ↓AW_toLoop, eq_self, List.replicate_succ, List.replicate_zero, List.set_cons_zero, List.set_cons_succ, List.getElem?_cons_zero, List.getElem?_cons_succ, Option.getD_some, Nat.reduceSub, List.cons_append, List.nil_append, bin_neq, decide_false, not_true_eq_false, hx.len, hy.len, hle']
    refine LoopK.by 26 (fun i : Nat => i ≤ xs.length ∧ xs.take i = ys.take i) (fun i => [(0, v), (1, u), (5, I i)]) (fun _ => A) (fun i => xs.length - i) 0 ⟨by omega, rfl⟩ rfl (by simp [Has, rd_s]) rfl ?_
    rintro i ⟨hi, he⟩
    by_cases hlt : i < xs.length
    · obtain ⟨z, hz⟩ : ∃ z, xs[i]? = some z := ⟨_, List.getElem?_eq_getElem hlt⟩
      have hlt' : (i : Int) < xs.length := by omega
      have hlt2 : i < ys.length := by omega
      obtain ⟨w, hw⟩ : ∃ w, ys[i]? = some w := ⟨_, List.getElem?_eq_getElem hlt2⟩
      by_cases hzw : z = w
      · subst hzw
        simp (maxSteps := 4000000) -implicitDefEqProofs -dsimp (disch := omega) only [↓AW_skip, ↓AW_ops, ↓AW_seq, ↓AW_cond, ↓AW_block, ↓AOps_nil, ↓AOps_pu, ↓AOps_ld, on_some, condB_t, condB_f, ↓then_normal, ↓inBlock_normal, pval, lval, rd_S, rd_C, put_S, partA, eqc, beq_self_eq_true, eq_self, mk, List.foldl_cons, List.foldl_nil, List.replicate_succ, List.replicate_zero, List.set_cons_zero, List.set_cons_succ, List.getElem?_cons_zero, List.getElem?_cons_succ, List.drop_zero, List.take_succ_cons, List.take_nil, Option.getD_some, Option.map_some, List.length_cons, List.length_nil, Nat.reduceAdd, Nat.reduceLeDiff, Nat.reduceEqDiff, Nat.zero_add, bin_add, bin_lss, w64, if_true, if_false, Bool.not_true, Bool.true_and, decide_true, true_and, hlt', hx.len, hx.idx hlt, hx.ld0 hz 5 true (by decide), hy.idx hlt2, hy.ld0 hw 5 true (by decide), e5]
        exact ⟨i + 1, ⟨hlt, by rw [List.take_add_one, List.take_add_one, hz, hw, he]⟩, by simp [Has, rd_s], by omega⟩
      · have hb := pc_beq hzw
        simp (maxSteps := 4000000) -implicitDefEqProofs -dsimp (disch := omega) only [↓AW_skip, ↓AW_ops, ↓AW_seq, ↓AW_cond, ↓AW_block, ↓AW_ret, ↓AOps_nil, ↓AOps_pu, ↓AOps_ld, on_some, condB_t, ↓then_normal, ↓then_ret, ↓inBlock_ret, ↓Fin_ret, pval, lval, rd_S, rd_C, put_S, resV, resL, partA, eqc, Bool.and_true, eq_self, mk, List.foldl_cons, List.foldl_nil, List.replicate_succ, List.replicate_zero, List.set_cons_zero, List.set_cons_succ, List.getElem?_cons_zero, List.getElem?_cons_succ, List.drop_zero, List.take_succ_cons, List.take_nil, Option.getD_some, Option.map_some, List.length_cons, List.length_nil, Nat.reduceAdd, Nat.reduceLeDiff, Nat.reduceEqDiff, Nat.zero_add, bin_lss, if_true, if_false, Bool.not_false, decide_true, hlt', hx.len, hx.idx hlt, hx.ld0 hz 5 true (by decide), hy.idx hlt2, hy.ld0 hw 5 true (by decide), e5, hb]
        refine gc_same ?_
        have : ¬ xs = ys := by rintro rfl; rw [hz] at hw; exact hzw (Option.some.inj hw)
        simp [this]
    · have hlt' : ¬ ((i : Int) < xs.length) := by omega
      simp (maxSteps := 4000000) -implicitDefEqProofs -dsimp (disch := omega) only [↓AW_ops, ↓AW_seq, ↓AW_cond, ↓AW_exit, ↓AW_ret, ↓AOps_nil, ↓AOps_pu, on_some, condB_f, ↓then_normal, ↓then_exit, ↓inBlock_exit, ↓Fin_ret, pval, rd_S, rd_C, put_S, resV, resL, eq_self, mk, List.foldl_cons, List.foldl_nil, List.replicate_succ, List.replicate_zero, List.set_cons_zero, List.set_cons_succ, List.getElem?_cons_zero, List.getElem?_cons_succ, Option.getD_some, bin_lss, if_true, decide_false, hlt', hx.len]
      rw [List.take_of_length_le (by omega), List.take_of_length_le (by omega)] at he
      exact gc_same (by simp [he])
  · have hle' : ¬ (xs.length : Int) = ys.length := by omega
    dsimp only [m30]
    simp (maxSteps := 4000000) -implicitDefEqProofs -dsimp (disch := omega) only [↓AW_ops, ↓AW_seq, ↓AW_cond, ↓AW_ret, ↓AOps_nil, ↓AOps_pu, on_some, condB_t, ↓then_normal, ↓then_ret, ↓Fin_ret, pval, rd_S, rd_C, put_S, resV, resL, List.replicate_succ, List.replicate_zero, List.set_cons_zero, List.set_cons_succ, List.getElem?_cons_zero, List.getElem?_cons_succ, Option.getD_some, Nat.reduceSub, List.cons_append, List.nil_append, bin_neq, decide_true, not_false_eq_true, hx.len, hy.len, hle']
    have : ¬ xs = ys := by rintro rfl; exact hle rfl
    exact gc_same (by simp [this])
section
variable {L : List Int} {ws : List (AV × List Int)} {x y : AV} {A : AHeap}
theorem rp_isK {V : List (List Int)} (h : KG L V) {z : Rat} (h0 : 0 ≤ z) (h1 : z ≤ ((L.sum : Int) : Rat)) (hd : (z.den : Int) ≤ 1000000) : isK L (rp z) ∧ qr (rp z) = z := by
  refine ⟨⟨⟨⟨?_, hd⟩, ?_⟩, ?_, ?_⟩, (R_self z).symm⟩
  · have := den_pos z
    show 1 ≤ (z.den : Int)
    omega
  · show Int.gcd z.num (z.den : Int) = 1
    have := z.reduced
    unfold Int.gcd
    simpa [Nat.Coprime] using this
  · exact Rat.num_nonneg.2 h0
  · rw [Rat.le_iff] at h1
    have h1 : z.num * (1 : Int) ≤ L.sum * (z.den : Int) := h1
    show z.num ≤ L.sum * (z.den : Int)
    omega
end
end Go.Proofs.Ytmblehbjedpjoaa

namespace Go.Proofs.Ytmblehbjedpjoaa
open Go Go.Eng
theorem rch_ex (x : Rat) : ∀ (us : List Int) (b a : Int), (a : Rat) < x → x ≤ ((a + us.sum : Int) : Rat) → ∃ z, rch b a us x = some z
  | [], b, a, h, k => by
    rw [List.sum_nil, Int.add_zero] at k
    exact absurd h (Rat.not_lt.2 k)
  | u :: us, b, a, h, k => by
    rw [rch]
    split
    · exact ⟨_, rfl⟩
    · rename_i hn
      rw [List.sum_cons, ← Int.add_assoc] at k
      exact rch_ex x us (b + 1) (a + u) (Rat.not_le.1 hn) k
/-- A worth that is there is found. -/
theorem plc_ex {f : List (Int × Int)} (hg : good f) {p w : Rat} (hp : Pl f p) (hw : Wh w) (h : upTo 0 f p + w ≤ ((tot f : Int) : Rat)) : ∃ z, plc f p w = some z := by
  unfold plc
  split
  · exact ⟨_, rfl⟩
  · rename_i h0
    have hwp : 0 < w := by
      have := Rat.num_nonneg.2 hw.h0
      exact num_pos_iff w |>.1 (by omega)
    have hbp := upTo_bounds hg 0 p
    refine rch_ex _ _ 0 0 (by rw [int0]; grind) ?_
    rw [Int.zero_add, sum_units hg.2]
    exact h
theorem Dv_den {D : Int} {q : Rat} (hD : 0 < D) (h : Dv D q) : (q.den : Int) ≤ D := by
  obtain ⟨k, hk⟩ := h
  have e : q = (k : Rat) / (D : Rat) := by have := cast_ne (show D ≠ 0 by omega); grind
  have := (ratio_le k D hD).2
  rw [← e] at this
  exact this
section
variable {L : List Int} {ws : List (AV × List Int)} {x y : AV} {A : AHeap}
theorem Pl_of {V : List (List Int)} (h : KG L V) {r : List Int} (hr : r ∈ V) {z : Rat} (h0 : 0 ≤ z) (h1 : z ≤ ((L.sum : Int) : Rat)) (hd : (z.den : Int) ≤ 1048576) : Pl (L.zip r) z := Pl.of h0 (by rw [h.lenz hr]; exact h1) hd
theorem upTo_end {V : List (List Int)} (h : KG L V) {r : List Int} (hr : r ∈ V) : upTo 0 (L.zip r) ((L.sum : Int) : Rat) = ((tot (L.zip r) : Int) : Rat) := by
  have hg := h.gd hr
  exact upTo_full _ _ 0 (all_pos hg.2) (by rw [Int.zero_add, h.lenz hr]; exact Rat.le_refl)
theorem flat_e5 (p : Pc) : ∀ y ∈ e5 p, flat y = true := by simp [e5, flat]
end
end Go.Proofs.Ytmblehbjedpjoaa

namespace Go.Proofs.Ytmblehbjedpjoaa
open Go Go.Eng
section
variable {L : List Int} {ws : List (AV × List Int)} {x y : AV} {A : AHeap}
/-- What a piece is worth. -/
def pwo (f : List (Int × Int)) (p : Pc) : Rat := upTo 0 f (qr p.s) - upTo 0 f (qr p.r)
theorem CP.at {V : List (List Int)} {pcs : List Pc} (h : CP L V pcs) {p : Pc} (hp : p ∈ pcs) : isK L p.r ∧ isK L p.s ∧ qr p.r ≤ qr p.s := by
  obtain ⟨j, hj, rfl⟩ := List.mem_iff_getElem.1 hp
  have := h.2.1 j hj
  exact ⟨this.2.2.1, this.2.2.2.1, Rat.not_lt.1 this.2.2.2.2.2⟩
theorem c_pwo (hL : L1 A x L) (hV : LL A y ws) (h : KG L (lists ws)) {pcs : List Pc} (hc : CP L (lists ws) pcs) {o : Nat} {w : AV × List Int} (ho : ws[o]? = some w) {p : Pc} (hp : p ∈ pcs) :
    ACalls Try.prog 66 [.agg [x, y], I o, .agg [I p.r.1, I p.r.2], .agg [I p.s.1, I p.s.2]] A (R (pwo (L.zip w.2) p)) A := by
  have hmr := mem_lists (List.mem_of_getElem? ho)
  obtain ⟨h1, h2, h3⟩ := hc.at hp
  obtain ⟨k1, _, _, p1⟩ := isK_R h h1
  obtain ⟨k2, _, _, p2⟩ := isK_R h h2
  rw [k1, k2]
  exact c_worth hL hV h ho _ _ (p1 _ hmr) (p2 _ hmr) h3
theorem pwo_facts {V : List (List Int)} (h : KG L V) {pcs : List Pc} (hc : CP L V pcs) {r : List Int} (hr : r ∈ V) {p : Pc} (hp : p ∈ pcs) : 0 ≤ pwo (L.zip r) p ∧ pwo (L.zip r) p ≤ ((tot (L.zip r) : Int) : Rat) ∧ Sm (pwo (L.zip r) p) ∧ ((pwo (L.zip r) p).num.natAbs ≤ 2400000000 ∧ ((pwo (L.zip r) p).den : Int) ≤ 1000000) := by
  obtain ⟨D, hD, hDp⟩ := hc.dv
  obtain ⟨h1, h2, h3⟩ := hc.at hp
  obtain ⟨d1, d2⟩ := hDp p hp
  have hg := h.gd hr
  obtain ⟨_, _, _, p2⟩ := isK_R h h2
  have hle := (p2 _ hr).le
  have b1 := upTo_bounds hg 0 (qr p.r)
  have b2 := upTo_bounds hg 0 (qr p.s)
  have hmo := upTo_mono h3 (L.zip r) 0 hg.2
  have hm2 := upTo_mono hle.2 (L.zip r) 0 hg.2
  rw [h.lenz hr, upTo_end h hr] at hm2
  unfold pwo
  have w0 : 0 ≤ upTo 0 (L.zip r) (qr p.s) - upTo 0 (L.zip r) (qr p.r) := by grind
  have w1 : upTo 0 (L.zip r) (qr p.s) - upTo 0 (L.zip r) (qr p.r) ≤ ((2400 : Int) : Rat) := by grind
  have dw := (upTo_Dv d2 (L.zip r) 0).sub (upTo_Dv d1 (L.zip r) 0)
  have nw := num_le (M := 2400) hD.1 dw (int_neg_le_zero (by omega) w0) w1
  exact ⟨w0, by grind, Sm_of (M := 2400) hD.1 (by omega) (by omega) dw (int_neg_le_zero (by omega) w0) w1, by omega, by omega⟩
theorem At.o {pcs : List Pc} {o : Int} {i : Nat} {p : Pc} (h : At pcs o i p) : p ∈ pcs ∧ p.o = o := ⟨List.mem_of_getElem? h.1, h.2.1⟩
end
end Go.Proofs.Ytmblehbjedpjoaa

namespace Go.Proofs.Ytmblehbjedpjoaa
open Go Go.Eng
end Go.Proofs.Ytmblehbjedpjoaa

namespace Go.Proofs.Ytmblehbjedpjoaa
open Go Go.Eng
section
variable {L : List Int} {ws : List (AV × List Int)} {x y : AV} {A : AHeap}
/-- The part that each owner has of his piece. -/
def prts (L : List Int) (V : List (List Int)) (P : Nat → Pc) : List Rat := (List.range V.length).map fun (o : Nat) => pwo (L.zip (rowOf V o)) (P o) / ((tot (L.zip (rowOf V o)) : Int) : Rat)
theorem c_parts (hL : L1 A x L) (hV : LL A y ws) (h : KG L (lists ws)) {pcs : List Pc} {v : AV} (hP : L5 A v pcs) (hl : pcs.length ≤ 1000000) (hc : CP L (lists ws) pcs) (P : Nat → Pc) (hown : ∀ o : Nat, o < ws.length → ∃ k, At pcs o k (P o)) :
    ACalls Try.prog 82 [.agg [x, y], v] A (outV 2 A ((prts L (lists ws) P).map rp).length) (outH A (((prts L (lists ws) P).map rp).flatMap e2) ((prts L (lists ws) P).map rp).length) := by
  refine acalls hmix Try.func82 (by kernel_rfl) t82 2 rfl (by decide) ?_
  have hv5 := h.v5
  have hll : (lists ws).length = ws.length := by simp
  rw [hll] at hv5
  dsimp only [m82]
  simp (maxSteps := 4000000) -implicitDefEqProofs -dsimp (disch := omega) only [↓AW_ops, ↓AW_seq, ↓AW_block, ↓AOps_nil, ↓AOps_pu, on_some, ↓then_normal, pval, rd_S, rd_C, put_S, ↓AW_toLoop, chkd, isAdr, bgot, AV.cells?, partA, eq_self, List.replicate_succ, List.replicate_zero, List.set_cons_zero, List.set_cons_succ, List.getElem?_cons_zero, List.getElem?_cons_succ, List.drop_zero, List.drop_succ_cons, List.take_succ_cons, List.take_nil, Option.getD_some, List.length_cons, List.length_nil, Nat.reduceAdd, Nat.reduceSub, Nat.reduceLeDiff, Nat.zero_add, List.cons_append, List.nil_append, if_true, if_false, Bool.false_eq_true, hV.ls.len]
  refine LoopK.by 33 (fun z : Nat × AV × AHeap => z.1 ≤ ws.length ∧ AccL 2 e2 A z.2.2 z.2.1 ((prts L (lists ws) P).take z.1 |>.map rp)) (fun z => [(1, v), (2, .agg [x, y]), (5, z.2.1), (10, I ws.length), (11, I z.1)]) (fun z => z.2.2) (fun z => ws.length - z.1) (0, .nilS, A) ⟨by omega, AccL.nil (List.prefix_refl _)⟩ rfl (by simp [Has, rd_s]) rfl ?_
  rintro ⟨i, u, A1⟩ ⟨hi, hu⟩
  simp only at hi hu
  have hL1 := hL.mono hu.pre
  have hV1 := hV.mono hu.pre
  have hP1 := hP.mono hu.pre
  have hpl : (prts L (lists ws) P).length = ws.length := by simp [prts]
  by_cases hlt : i < ws.length
  · obtain ⟨w, hz⟩ : ∃ z, ws[i]? = some z := ⟨_, List.getElem?_eq_getElem hlt⟩
    have hlt' : (i : Int) < ws.length := by omega
    have hmr := mem_lists (List.mem_of_getElem? hz)
    have ht := tot_bound (h.gd hmr)
    have htp := h.tot_pos hmr
    obtain ⟨k, hat⟩ := hown i hlt
    obtain ⟨hpm, hpo⟩ := hat.o
    obtain ⟨f1, f2, f3, f4⟩ := pwo_facts h hc hmr hpm
    have hq : (prts L (lists ws) P)[i]? = some (pwo (L.zip w.2) (P i) / ((tot (L.zip w.2) : Int) : Rat)) := by
      unfold prts
      rw [List.getElem?_map, List.getElem?_range (by omega), Option.map_some, rowOf_at hz]
    have htl : ((prts L (lists ws) P).take i).length = i := by rw [List.length_take]; omega
    obtain ⟨u3, A3, happ, hu3⟩ := hu.push e2_len (rp (pwo (L.zip w.2) (P i) / ((tot (L.zip w.2) : Int) : Rat))) (by rw [List.length_map, htl]; simp [lim]; omega)
    rw [e2_rp] at happ
    have hu3 : AccL 2 e2 A A3 u3 (((prts L (lists ws) P).take (i + 1)).map rp) := by
      rw [List.take_add_one, hq, Option.toList_some, List.map_append]; exact hu3
    simp (maxSteps := 4000000) -implicitDefEqProofs -dsimp (disch := omega) only [↓AW_skip, ↓AW_ops, ↓AW_seq, ↓AW_cond, ↓AW_block, ↓AOps_nil, ↓AOps_pu, ↓AOps_call, on_some, condB_t, ↓then_normal, pval, rd_S, put_S, mk, List.foldl_cons, List.foldl_nil, List.replicate_succ, List.replicate_zero, List.set_cons_zero, List.set_cons_succ, List.getElem?_cons_zero, List.getElem?_cons_succ, Option.getD_some, map_c, map_n, bin_lss, decide_true, hlt']
    refine CallK.of (c_own hP1 hl hat) ?_
    simp (maxSteps := 4000000) -implicitDefEqProofs -dsimp (disch := omega) only [↓AW_ops, ↓AOps_nil, ↓AOps_pu, ↓AOps_call, on_some, extK_same, ↓then_normal, pval, rd_S, rd_C, put_S, chkd, isAdr, bput, bgot, AV.cells?, splice, partA, eq_self, mk, List.foldl_cons, List.foldl_nil, List.replicate_succ, List.replicate_zero, List.set_cons_zero, List.set_cons_succ, List.getElem?_cons_zero, List.getElem?_cons_succ, List.drop_zero, List.drop_succ_cons, List.drop_nil, List.take_zero, List.take_succ_cons, List.take_nil, Option.getD_some, map_c, map_n, List.length_cons, List.length_nil, Nat.reduceAdd, Nat.reduceLeDiff, Nat.reduceEqDiff, Nat.zero_add, List.nil_append, List.append_nil, if_true, if_false, ne_eq, not_true_eq_false]
    refine CallK.of (c_pwo hL1 hV1 h hc hz hpm) ?_
    simp (maxSteps := 4000000) -implicitDefEqProofs -dsimp (disch := omega) only [↓AOps_pu, ↓AOps_call, on_some, extK_same, pval, rd_S, put_S, chkd, bgot, partA, eq_self, mk, List.foldl_cons, List.foldl_nil, List.replicate_succ, List.replicate_zero, List.set_cons_zero, List.set_cons_succ, List.getElem?_cons_zero, List.getElem?_cons_succ, List.drop_zero, List.take_succ_cons, List.take_nil, Option.getD_some, map_c, map_n, List.length_cons, List.length_nil, Nat.reduceAdd, Nat.reduceLeDiff, Nat.reduceEqDiff, Nat.zero_add, if_true, if_false]
    refine CallK.of (c_whole hL1 hV1 h hz) ?_
    simp (maxSteps := 4000000) -implicitDefEqProofs -dsimp (disch := omega) only [↓AOps_call, extK_same, rd_S, put_S, mk, List.foldl_cons, List.foldl_nil, List.replicate_succ, List.replicate_zero, List.set_cons_zero, List.set_cons_succ, List.getElem?_cons_zero, List.getElem?_cons_succ, Option.getD_some, map_c, map_n]
    refine CallK.of (c_Div _ _ _ (by omega) (by omega) ⟨by omega, by omega⟩) ?_
    simp (maxSteps := 4000000) -implicitDefEqProofs -dsimp (disch := omega) only [↓AW_ops, ↓AOps_nil, ↓AOps_pu, ↓AOps_ha, on_some, extK_false, extK_app, extK_same, ↓then_normal, ↓inBlock_normal, pval, hval, rd_S, rd_C, put_S, AV.cells?, splice, fillA, repl, eq_self, mk, List.foldl_cons, List.foldl_nil, List.replicate_succ, List.replicate_zero, List.set_cons_zero, List.set_cons_succ, List.getElem?_cons_zero, List.getElem?_cons_succ, List.drop_succ_cons, List.drop_nil, List.take_zero, Option.getD_some, map_c, map_n, List.length_cons, List.length_nil, Nat.reduceAdd, Nat.reduceLeDiff, Nat.zero_add, List.nil_append, List.append_nil, bin_add, w64, if_true, true_and, and_true, R, happ]
    exact ⟨(i + 1, u3, A3), ⟨hlt, hu3⟩, by simp [Has, rd_s], rfl, by simp only; omega⟩
  · have hlt' : ¬ ((i : Int) < ws.length) := by omega
    simp (maxSteps := 4000000) -implicitDefEqProofs -dsimp (disch := omega) only [↓AW_ops, ↓AW_seq, ↓AW_cond, ↓AW_exit, ↓AW_ret, ↓AOps_nil, ↓AOps_pu, on_some, condB_f, ↓then_normal, ↓then_exit, ↓inBlock_exit, ↓Fin_ret, pval, rd_S, put_S, resV, resL, eq_self, mk, List.foldl_cons, List.foldl_nil, List.replicate_succ, List.replicate_zero, List.set_cons_zero, List.set_cons_succ, List.getElem?_cons_zero, List.getElem?_cons_succ, Option.getD_some, bin_lss, if_true, decide_false, hlt']
    rw [List.take_of_length_le (by omega)] at hu
    exact hu.gc flat_e2
end
end Go.Proofs.Ytmblehbjedpjoaa

namespace Go.Proofs.Ytmblehbjedpjoaa
open Go Go.Eng
theorem rsub_mul (a b c : Rat) : (a - b) * c = a * c - b * c := by grind
def without (l : List Int) (p : Int) : List Int := l.filter (fun x => !decide (x = p))
/-- Where an owner calls. -/
def cqI (L : List Int) (V : List (List Int)) (p : Rat) (o : Int) : Rat := cq (fOf L V o) p V.length
/-- The first one for which nothing is before it. -/
def bestF (c : Int → Rat) : Int → List Int → Int
  | out, [] => out
  | out, i :: l => bestF c (if c i < c out then i else out) l
theorem bestF_mem (c : Int → Rat) : ∀ (l : List Int) (out : Int), bestF c out l = out ∨ bestF c out l ∈ l
  | [], out => .inl rfl
  | i :: l, out => by
    rw [bestF]
    rcases bestF_mem c l (if c i < c out then i else out) with h | h
    · rw [h]
      split
      · exact .inr (by simp)
      · exact .inl rfl
    · exact .inr (by simp [h])
theorem bestF_le (c : Int → Rat) : ∀ (l : List Int) (out : Int), c (bestF c out l) ≤ c out ∧ ∀ i ∈ l, c (bestF c out l) ≤ c i
  | [], out => ⟨Rat.le_refl, by simp⟩
  | i :: l, out => by
    rw [bestF]
    obtain ⟨h1, h2⟩ := bestF_le c l (if c i < c out then i else out)
    have h3 : c (if c i < c out then i else out) ≤ c out ∧ c (if c i < c out then i else out) ≤ c i := by
      split
      · rename_i h; exact ⟨Rat.le_of_lt h, Rat.le_refl⟩
      · rename_i h; exact ⟨Rat.le_refl, Rat.not_lt.1 h⟩
    refine ⟨Rat.le_trans h1 h3.1, fun j hj => ?_⟩
    rcases List.mem_cons.1 hj with rfl | hj
    · exact Rat.le_trans h1 h3.2
    · exact h2 j hj
/-- The knife, from a place on, for those who are left. -/
def kn (L : List Int) (V : List (List Int)) : Nat → List Int → Rat → List Pc
  | 0, _, _ => []
  | _ + 1, [], _ => []
  | _ + 1, [o], p => [⟨o, rp p, (L.sum, 1)⟩]
  | k + 1, a :: b :: l, p => ⟨bestF (cqI L V p) a (a :: b :: l), rp p, rp (cqI L V p (bestF (cqI L V p) a (a :: b :: l)))⟩ :: kn L V k (without (a :: b :: l) (bestF (cqI L V p) a (a :: b :: l))) (cqI L V p (bestF (cqI L V p) a (a :: b :: l)))
def chainR (L : List Int) : Int × Int → List Pc → Prop
  | a, [] => a = (L.sum, 1)
  | a, p :: ps => p.r = a ∧ isK L p.r ∧ isK L p.s ∧ ¬ qr p.s < qr p.r ∧ chainR L p.s ps
theorem plc_dvD {f : List (Int × Int)} (hg : good f) {p w z : Rat} {D : Int} (hp : Dv D p) (hw : Dv D w) (hw0 : 0 ≤ w) (h : plc f p w = some z) : ∃ v : Int, (1 ≤ v ∧ v ≤ 20) ∧ Dv (D * v) z := by
  unfold plc at h
  split at h
  · have : p = z := Option.some.inj h
    subst this
    exact ⟨1, by omega, by rw [Int.mul_one]; exact hp⟩
  · rename_i h0
    have hwp : 0 < w := by
      have := Rat.num_nonneg.2 hw0
      exact num_pos_iff w |>.1 (by omega)
    have hbp := upTo_bounds hg 0 p
    obtain ⟨⟨v, hv, b', a', hy⟩, _, _⟩ := rch_some _ (units f) 0 0 z (units_le hg.2) (by have : ((0 : Int) : Rat) = 0 := rfl; grind) h
    refine ⟨v, hv, ?_⟩
    rw [hy]
    exact (Dv_int _ _).add ((((upTo_Dv hp f 0).add hw).sub (Dv_int _ _)).div v (by omega))
structure KI (L : List Int) (V : List (List Int)) (left : List Int) (p : Rat) (D : Int) : Prop where
  nd : left.Nodup
  rg : ∀ o ∈ left, 0 ≤ o ∧ o < V.length
  p0 : 0 ≤ p
  p1 : p ≤ ((L.sum : Int) : Rat)
  dv : Dv D p
  nD : (V.length : Int) ∣ D
  D0 : 0 < D
  D1 : D * 20 ^ (left.length - 1) ≤ 1000000
  fr : ∀ o ∈ left, ((left.length : Int) : Rat) * ((tot (fOf L V o) : Int) : Rat) ≤ (((tot (fOf L V o) : Int) : Rat) - upTo 0 (fOf L V o) p) * ((V.length : Int) : Rat)
theorem fOf_mem {L : List Int} {V : List (List Int)} {o : Int} (h : 0 ≤ o ∧ o < V.length) : ∃ r ∈ V, fOf L V o = L.zip r := by
  have : V[o.toNat]? = some V[o.toNat] := List.getElem?_eq_getElem (by omega)
  refine ⟨_, List.mem_of_getElem? this, ?_⟩
  unfold fOf rowOf
  rw [this]; rfl
theorem pow20 (k : Nat) : 0 < (20 : Int) ^ k := Int.pow_pos (by decide)
theorem KI.den {L : List Int} {V : List (List Int)} {left : List Int} {p : Rat} {D : Int} (h : KI L V left p D) : D ≤ 1000000 ∧ (p.den : Int) ≤ 1000000 := by
  have h1 := h.D1
  have h2 := pow20 (left.length - 1)
  have h3 : D * 1 ≤ D * 20 ^ (left.length - 1) := Int.mul_le_mul_of_nonneg_left (by omega) (by have := h.D0; omega)
  have := Dv_den h.D0 h.dv
  omega
/-- Where each one who is left calls: there he has his part. -/
theorem KI.call {L : List Int} {V : List (List Int)} (hg : KG L V) {left : List Int} {p : Rat} {D : Int} (h : KI L V left p D) (hl : 1 ≤ left.length) {o : Int} (ho : o ∈ left) :
    p ≤ cqI L V p o ∧ cqI L V p o ≤ ((L.sum : Int) : Rat) ∧ (upTo 0 (fOf L V o) (cqI L V p o) - upTo 0 (fOf L V o) p) * ((V.length : Int) : Rat) = ((tot (fOf L V o) : Int) : Rat) ∧ ∃ v : Int, (1 ≤ v ∧ v ≤ 20) ∧ Dv (D * v) (cqI L V p o) := by
  obtain ⟨r, hr, hf⟩ := fOf_mem (L := L) (h.rg o ho)
  have hgd := hg.gd hr
  have hv1 := hg.v1
  have hv5 := hg.v5
  have hfr := h.fr o ho
  have hden := h.den
  unfold cqI
  rw [hf] at hfr ⊢
  have hw := pw_wh hgd (n := 1) (m := V.length) (by omega) (by omega)
  have hpl : Pl (L.zip r) p := Pl_of hg hr h.p0 h.p1 (by omega)
  have hn := cast_pos (show 0 < (V.length : Int) by omega)
  have hwn : pw (L.zip r) 1 V.length * ((V.length : Int) : Rat) = ((tot (L.zip r) : Int) : Rat) := by
    unfold pw
    rw [Int.mul_one]
    exact Rat.div_mul_cancel (cast_ne (by omega))
  have ht0 := cast_nonneg (tot_bound hgd).1
  have hll : (1 : Rat) ≤ ((left.length : Int) : Rat) := by rw [← int1]; exact Rat.intCast_le_intCast.2 (by omega)
  have hle : upTo 0 (L.zip r) p + pw (L.zip r) 1 V.length ≤ ((tot (L.zip r) : Int) : Rat) := by
    refine Rat.le_of_mul_le_mul_right ?_ hn
    have h1 := Rat.mul_le_mul_of_nonneg_right hll ht0
    rw [Rat.one_mul] at h1
    rw [Rat.add_mul, hwn]
    have h2 := Rat.le_trans h1 hfr
    rw [rsub_mul] at h2
    grind
  obtain ⟨z, hz⟩ := plc_ex hgd hpl hw hle
  obtain ⟨a1, a2, a3, _⟩ := plc_y hgd hpl hw hz
  have hDw : Dv D (pw (L.zip r) 1 V.length) := by
    obtain ⟨k, hk⟩ := h.nD
    refine ⟨tot (L.zip r) * k, ?_⟩
    rw [hk, Rat.intCast_mul, Rat.intCast_mul, ← Rat.mul_assoc, hwn]
  obtain ⟨v, hv, hd⟩ := plc_dvD hgd h.dv hDw hw.h0 hz
  have hcq : cq (L.zip r) p V.length = z := by rw [cq, hz]; rfl
  rw [hcq]
  rw [hg.lenz hr] at a2
  refine ⟨a1, a2, ?_, v, hv, hd⟩
  rw [a3, ← hwn]
  grind
theorem without_erase {l : List Int} (hn : l.Nodup) (b : Int) : without l b = l.erase b := by
  rw [hn.erase_eq_filter]
  unfold without
  exact List.filter_congr (fun x _ => by by_cases h : x = b <;> simp [h])
/-- What the knife makes. -/
theorem kn_facts {L : List Int} {V : List (List Int)} (hg : KG L V) : ∀ (k : Nat) (left : List Int) (p : Rat) (D : Int), left.length = k → 1 ≤ k → KI L V left p D →
    ((kn L V k left p).map Pc.o).Perm left ∧ chainR L (rp p) (kn L V k left p) ∧ (∃ E : Int, (0 < E ∧ E ≤ 1000000) ∧ D ∣ E ∧ ∀ q ∈ kn L V k left p, Dv E (qr q.r) ∧ Dv E (qr q.s)) ∧
      ∀ q ∈ kn L V k left p, ((tot (fOf L V q.o) : Int) : Rat) ≤ pwo (fOf L V q.o) q * ((V.length : Int) : Rat)
  | 0, _, _, _, _, h, _ => by omega
  | k + 1, [], _, _, hl, _, _ => by simp at hl
  | k + 1, [o], p, D, hl, _, h => by
    have hden := h.den
    obtain ⟨k1, k2⟩ := rp_isK hg h.p0 h.p1 hden.2
    have hfr := h.fr o (by simp)
    obtain ⟨r, hr, hf⟩ := fOf_mem (L := L) (h.rg o (by simp))
    refine ⟨by simp [kn], ⟨rfl, k1, (isK_ends hg).2, ?_, rfl⟩, ⟨D, ⟨h.D0, hden.1⟩, Int.dvd_refl _, ?_⟩, ?_⟩
    · show ¬ qr (L.sum, 1) < qr (rp p)
      rw [k2, qr_one]
      exact Rat.not_lt.2 h.p1
    · intro q hq
      have : q = ⟨o, rp p, (L.sum, 1)⟩ := by simpa [kn] using hq
      subst this
      simp only
      rw [k2, qr_one]
      exact ⟨h.dv, Dv_int _ _⟩
    · intro q hq
      have : q = ⟨o, rp p, (L.sum, 1)⟩ := by simpa [kn] using hq
      subst this
      unfold pwo
      simp only
      rw [k2, qr_one, hf, upTo_end hg hr]
      rw [hf] at hfr
      have e : (([o].length : Int) : Rat) = 1 := rfl
      rw [e, Rat.one_mul] at hfr
      exact hfr
  | k + 1, a :: b :: l, p, D, hl, _, h => by
    have hden := h.den
    obtain ⟨k1, k2⟩ := rp_isK hg h.p0 h.p1 hden.2
    generalize hleft : a :: b :: l = left at *
    have hkn : kn L V (k + 1) left p = ⟨bestF (cqI L V p) a left, rp p, rp (cqI L V p (bestF (cqI L V p) a left))⟩ :: kn L V k (without left (bestF (cqI L V p) a left)) (cqI L V p (bestF (cqI L V p) a left)) := by
      rw [← hleft]; rfl
    have ham : a ∈ left := by rw [← hleft]; simp
    have hk2 : 2 ≤ left.length := by rw [← hleft]; simp
    have hbm : bestF (cqI L V p) a left ∈ left := by
      rcases bestF_mem (cqI L V p) left a with h1 | h1
      · rw [h1]; exact ham
      · exact h1
    have hbl := (bestF_le (cqI L V p) left a).2
    rw [hkn]
    generalize bestF (cqI L V p) a left = bo at *
    obtain ⟨c1, c2, c3, v, hv, c4⟩ := h.call hg (by omega) hbm
    have hwe := without_erase h.nd bo
    have hwl : (without left bo).length = left.length - 1 := by rw [hwe, List.length_erase_of_mem hbm]
    have hpow : (20 : Int) ^ (left.length - 1) = 20 * 20 ^ (left.length - 1 - 1) := by
      rw [show left.length - 1 = (left.length - 1 - 1) + 1 by omega, Int.pow_succ, Int.mul_comm]
      rfl
    have hD1 := h.D1
    have hDp := h.D0
    have hn : (0 : Rat) ≤ ((V.length : Int) : Rat) := cast_nonneg (by omega)
    have hKI : KI L V (without left bo) (cqI L V p bo) (D * v) := by
      refine ⟨?_, fun o ho => ?_, Rat.le_trans h.p0 c1, c2, c4, Int.dvd_trans h.nD (Int.dvd_mul_right _ _), Int.mul_pos hDp (by omega), ?_, fun o ho => ?_⟩
      · rw [hwe]; exact h.nd.erase _
      · rw [hwe] at ho; exact h.rg o (List.mem_of_mem_erase ho)
      · rw [hwl]
        rw [hpow] at hD1
        have hpp := pow20 (left.length - 1 - 1)
        have e1 : D * v * 20 ^ (left.length - 1 - 1) = (D * 20 ^ (left.length - 1 - 1)) * v := by rw [Int.mul_assoc, Int.mul_comm v, Int.mul_assoc]
        have e2 : D * (20 * 20 ^ (left.length - 1 - 1)) = (D * 20 ^ (left.length - 1 - 1)) * 20 := by rw [Int.mul_comm 20, Int.mul_assoc]
        rw [e1]
        rw [e2] at hD1
        have := Int.mul_le_mul_of_nonneg_left hv.2 (show 0 ≤ D * 20 ^ (left.length - 1 - 1) from Int.le_of_lt (Int.mul_pos hDp hpp))
        omega
      · rw [hwe] at ho
        have hol := List.mem_of_mem_erase ho
        obtain ⟨d1, d2, d3, _⟩ := h.call hg (by omega) hol
        have hfr := h.fr o hol
        obtain ⟨r, hr, hf⟩ := fOf_mem (L := L) (h.rg o hol)
        have hgd := hg.gd hr
        have hmo := upTo_mono (hbl o hol) (fOf L V o) 0 (by rw [hf]; exact hgd.2)
        have hm2 := Rat.mul_le_mul_of_nonneg_right hmo hn
        rw [hwl]
        have e : (((left.length - 1 : Nat) : Int) : Rat) = ((left.length : Int) : Rat) - 1 := by
          rw [show ((left.length - 1 : Nat) : Int) = (left.length : Int) - 1 by omega, Rat.intCast_sub]; rfl
        rw [e]
        rw [rsub_mul] at d3 hfr ⊢
        rw [rsub_mul, Rat.one_mul]
        grind
    have ih := kn_facts hg k (without left bo) (cqI L V p bo) (D * v) (by rw [hwl]; omega) (by omega) hKI
    obtain ⟨i1, i2, ⟨E, hE, hDE, hEq⟩, i4⟩ := ih
    have hden2 := hKI.den
    obtain ⟨m1, m2⟩ := rp_isK hg (Rat.le_trans h.p0 c1) c2 hden2.2
    refine ⟨?_, ⟨rfl, k1, m1, ?_, i2⟩, ⟨E, hE, Int.dvd_trans (Int.dvd_mul_right _ _) hDE, ?_⟩, ?_⟩
    · rw [List.map_cons]
      rw [hwe] at i1
      rw [hwe]
      exact (List.Perm.cons _ i1).trans (List.perm_cons_erase hbm).symm
    · show ¬ qr (rp (cqI L V p bo)) < qr (rp p)
      rw [m2, k2]
      exact Rat.not_lt.2 c1
    · intro q hq
      rcases List.mem_cons.1 hq with rfl | hq
      · simp only
        rw [m2, k2]
        exact ⟨h.dv.dvd (Int.dvd_trans (Int.dvd_mul_right _ _) hDE), c4.dvd hDE⟩
      · exact hEq q hq
    · intro q hq
      rcases List.mem_cons.1 hq with rfl | hq
      · unfold pwo
        simp only
        rw [m2, k2, c3]
        exact Rat.le_refl
      · exact i4 q hq
end Go.Proofs.Ytmblehbjedpjoaa

namespace Go.Proofs.Ytmblehbjedpjoaa
open Go Go.Eng
section
variable {α : Type} {es : Nat} {e : α → List AV} {A H : AHeap} {v : AV} {xs : List α}
theorem AccL_ol (h : AccL es e A H v xs) (he : ∀ x, (e x).length = es) (h0 : 0 < xs.length) : ∃ n, OL es e A H n v xs ∧ v = .sl es n 0 xs.length false := by
  obtain ⟨h1, h2, h3⟩ := h
  rcases h3 with ⟨h4, _⟩ | ⟨_, n, rfl, h5, h6⟩
  · omega
  · exact ⟨n, ⟨he, h1, h5, h6, false, rfl⟩, rfl⟩
end
theorem set_same {α : Type} {l : List α} {n : Nat} {x : α} (h : l[n]? = some x) : l.set n x = l := by
  have hlt := (List.getElem?_eq_some_iff.1 h).1
  have hx := (List.getElem?_eq_some_iff.1 h).2
  rw [← hx]
  exact List.set_getElem_self hlt
end Go.Proofs.Ytmblehbjedpjoaa

namespace Go.Proofs.Ytmblehbjedpjoaa
open Go Go.Eng
/-- Cells that are cleared. -/
def clA (es : Nat) (zero : List AV) (x : AV) (H : AHeap) : Option AHeap :=
  match x with
    | .nilS => some H
    | .sl es' n off len _ => if len = 0 then some H else if es' = es then match H[n]? with
        | some (.cells true l) => if off + len * es ≤ l.length then some (H.set n (.cells true (splice l off (repl zero len)))) else none
        | _ => none
      else none
    | _ => none
theorem hval_clr (es : Nat) (zero : List AV) (x : Opd) (S : List AV) (H : AHeap) : hval (.clr es zero x) S H = (clA es zero (rd S x) H).map (fun H' => (undefA, H')) := by
  simp only [hval, clA]
  cases rd S x with
  | sl es' n off len full =>
    simp only
    by_cases h0 : len = 0
    · simp [h0]
    · by_cases h1 : es' = es
      · simp only [h0, h1, if_true, if_false]
        cases H[n]? with
        | none => rfl
        | some o =>
          cases o with
          | cells rw l =>
            cases rw
            · rfl
            · simp only
              split <;> rfl
          | _ => rfl
      · simp [h0, h1]
  | nilS => rfl
  | _ => rfl
theorem flat_map (xs : List Int) : xs.flatMap e1 = xs.map (fun x => I x) := by
  induction xs with
  | nil => rfl
  | cons a l ih => rw [List.flatMap_cons, ih]; rfl
theorem repl_map : ∀ n, repl [AV.int .i64 0] n = (List.replicate n (0 : Int)).map (fun x => I x)
  | 0 => rfl
  | n + 1 => by rw [repl, repl_map n, List.replicate_succ, List.map_cons]; rfl
/-- A list of the call's own in an object that may have more cells. -/
structure OT (A H : AHeap) (n : Nat) (v : AV) (xs tl : List Int) : Prop where
  pre : A <+: H
  new : A.length ≤ n
  ob : H[n]? = some (.cells true ((xs ++ tl).flatMap e1))
  v : v = .sl 1 n 0 xs.length false
section
variable {A H : AHeap} {n : Nat} {v : AV} {xs tl : List Int}
theorem OT.lt (h : OT A H n v xs tl) : n < H.length := (List.getElem?_eq_some_iff.1 h.ob).1
theorem OT.ls (h : OT A H n v xs tl) : L1 H v xs := by
  refine ⟨e1_len, ?_⟩
  rw [h.v]
  simp only [slCells, cellsAt, h.ob, if_true, Nat.zero_add]
  rw [flat_map, if_pos (by simp), flat_map]
  simp
theorem OT.ol (h : OT A H n v xs tl) : OL 1 e1 A H n (.sl 1 n 0 (xs ++ tl).length false) (xs ++ tl) := ⟨e1_len, h.pre, h.new, h.ob, false, rfl⟩
theorem OT.setAll (h : OT A H n v xs tl) (ys : List Int) (hl : ys.length = xs.length) : OT A (H.set n (.cells true ((ys ++ tl).flatMap e1))) n v ys tl :=
  ⟨pre_set h.pre h.new _, h.new, by rw [List.getElem?_set_self h.lt], by rw [h.v, hl]⟩
theorem OT.st (h : OT A H n v xs tl) {i : Nat} (hi : i < xs.length) (z : Int) : stA 1 (.ptr (nm v) (of v + i * 1)) (I z) H = some (H.set n (.cells true ((xs.set i z ++ tl).flatMap e1))) := by
  have := h.ol.st (i := i) (by simp; omega) (I z) z rfl
  rw [List.set_append_left _ _ hi] at this
  rw [h.v]
  exact this
theorem OT.clr (h : OT A H n v xs tl) (i : Nat) (hi : i ≤ xs.length) (full : Bool) :
    clA 1 [.int .i64 0] (.sl 1 n (i * 1) (xs.length - i) full) H = some (H.set n (.cells true ((xs.take i ++ (List.replicate (xs.length - i) 0 ++ tl)).flatMap e1))) := by
  unfold clA
  by_cases h0 : xs.length - i = 0
  · have : i = xs.length := by omega
    simp only [h0, if_true]
    rw [List.replicate_zero, List.nil_append, List.take_of_length_le (by omega), set_same h.ob]
  · simp only [h0, if_false, if_true, h.ob]
    rw [if_pos (by rw [flat_map]; simp; omega), repl_map]
    congr 3
    unfold splice
    rw [flat_map, flat_map]
    simp only [List.map_append, List.length_map, List.length_replicate, Nat.mul_one]
    rw [← List.map_append, ← List.map_take, ← List.map_drop, List.take_append_of_le_length hi, show i + (xs.length - i) = xs.length by omega, List.drop_left]
    rw [List.append_assoc]
end
theorem fpos_in {xs : List Int} {p : Int} (h : p ∈ xs) : ∃ i : Nat, fpos (fun x => decide (x = p)) xs = i ∧ xs[i]? = some p ∧ ∀ y ∈ xs.take i, y ≠ p := by
  have key : ∃ i : Nat, xs[i]? = some p ∧ ∀ y ∈ xs.take i, y ≠ p := by
    induction xs with
    | nil => simp at h
    | cons a l ih =>
      by_cases ha : a = p
      · exact ⟨0, by simp [ha], by simp⟩
      · rcases List.mem_cons.1 h with rfl | h
        · exact absurd rfl ha
        · obtain ⟨i, h1, h2⟩ := ih h
          refine ⟨i + 1, by simpa using h1, fun y hy => ?_⟩
          rw [List.take_succ_cons] at hy
          rcases List.mem_cons.1 hy with rfl | hy
          · exact ha
          · exact h2 y hy
  obtain ⟨i, h1, h2⟩ := key
  exact ⟨i, fpos_some (fun y hy => decide_eq_false (h2 y hy)) h1 (by simp), h1, h2⟩
theorem without_take {l : List Int} {j : Nat} {z p : Int} (h : l[j]? = some z) : without (l.take (j + 1)) p = without (l.take j) p ++ if z = p then [] else [z] := by
  unfold without
  rw [List.take_add_one, h, List.filter_append]
  by_cases hz : z = p <;> simp [hz]
theorem s86 {x p : Int} {A : AHeap} {a : Nat} (h : ldA 1 false (.ptr a 0) A = some (I p)) : ACalls Try.prog 86 [I x, .ptr a 0] A (B (decide (x = p))) A := by
  refine acalls hmix Try.func86 (by kernel_rfl) t86 2 rfl (by decide) ?_
  dsimp only [m86]
  simp (maxSteps := 4000000) -implicitDefEqProofs -dsimp (disch := omega) only [↓AW_ops, ↓AW_seq, ↓AW_ret, ↓AOps_nil, ↓AOps_pu, ↓AOps_ld, on_some, ↓then_normal, ↓Fin_ret, pval, lval, rd_S, rd_C, put_S, resV, resL, List.replicate_succ, List.replicate_zero, List.set_cons_zero, List.set_cons_succ, List.getElem?_cons_zero, List.getElem?_cons_succ, Option.getD_some, Nat.reduceSub, List.cons_append, List.nil_append, bin_eql, h]
  exact gc_same rfl
set_option maxHeartbeats 1000000 in
theorem c_del {A H : AHeap} {n a : Nat} {xs tl : List Int} {p : Int} (h : OT A H n (.sl 1 n 0 xs.length false) xs tl) (hl : xs.length ≤ 1000) (ha : a ≠ n) (hp : ldA 1 false (.ptr a 0) H = some (I p)) (hmem : p ∈ xs) :
    ACalls Try.prog 85 [.sl 1 n 0 xs.length false, .fn 86 [.ptr a 0]] H (.sl 1 n 0 (without xs p).length false) (H.set n (.cells true ((without xs p ++ (List.replicate (xs.length - (without xs p).length) 0 ++ tl)).flatMap e1))) := by
  refine acalls hmix Try.func85 (by kernel_rfl) t85 2 rfl (by decide) ?_
  have hpk : ∀ ys : List Int, ldA 1 false (.ptr a 0) (H.set n (.cells true (ys.flatMap e1))) = some (I p) := fun ys => by
    unfold ldA at hp ⊢
    simp only at hp ⊢
    rw [List.getElem?_set_ne (Ne.symm ha)]
    exact hp
  have hln : ∀ k, lenA (.sl 1 n 0 k false) = some (I k) := fun k => rfl
  dsimp only [m85]
  simp (maxSteps := 4000000) -implicitDefEqProofs -dsimp (disch := omega) only [↓AW_ops, ↓AW_seq, ↓AOps_nil, ↓AOps_pu, ↓AOps_call, on_some, ↓then_normal, pval, rd_S, rd_C, put_S, List.replicate_succ, List.replicate_zero, List.set_cons_zero, List.set_cons_succ, List.getElem?_cons_zero, List.getElem?_cons_succ, Option.getD_some, map_c, map_n, Nat.reduceSub, List.cons_append, List.nil_append]
  refine CallK.of (c_IndexFunc h.ls (by omega) 86 [.ptr a 0] (fun x => decide (x = p)) (fun x _ => s86 hp)) ?_
  obtain ⟨i0, hfe, hz0, hpre⟩ := fpos_in hmem
  have hi0 : i0 < xs.length := (List.getElem?_eq_some_iff.1 hz0).1
  rw [hfe]
  have hne : ¬ (i0 : Int) = -1 := by omega
  have hw0 : without (xs.take i0) p = xs.take i0 := by
    unfold without
    rw [List.filter_eq_self]
    intro y hy
    simp [hpre y hy]
  have hw1 : without (xs.take (i0 + 1)) p = xs.take i0 := by rw [without_take hz0, if_pos rfl, hw0, List.append_nil]
  simp (maxSteps := 4000000) -implicitDefEqProofs -dsimp (disch := omega) only [↓AW_skip, ↓AW_ops, ↓AW_seq, ↓AW_cond, ↓AW_block, ↓AOps_nil, ↓AOps_pu, on_some, extK_same, condB_f, ↓then_normal, pval, rd_S, rd_C, put_S, ↓AW_toLoop, List.replicate_succ, List.replicate_zero, List.set_cons_zero, List.set_cons_succ, List.getElem?_cons_zero, List.getElem?_cons_succ, Option.getD_some, Nat.reduceSub, List.cons_append, List.nil_append, bin_add, bin_eql, w64, decide_false, Int.reduceNeg, hne]
  refine LoopK.by 42 (fun x : Nat × Nat × List Int => (x.2.1 ≤ xs.length ∧ x.1 < x.2.1) ∧ x.2.2.length = xs.length ∧ x.2.2.take x.1 = without (xs.take x.2.1) p ∧ x.2.2.drop x.2.1 = xs.drop x.2.1) (fun x => [(0, .sl 1 n 0 xs.length false), (1, .fn 86 [.ptr a 0]), (5, I x.1), (6, I x.2.1)]) (fun x => H.set n (.cells true ((x.2.2 ++ tl).flatMap e1))) (fun x => xs.length - x.2.1) (i0, i0 + 1, xs) ⟨by simp only; omega, rfl, hw1.symm, rfl⟩ rfl (by simp [Has, rd_s]) (by simp only; rw [set_same h.ob]) ?_
  rintro ⟨i, j, ys⟩ ⟨⟨hj, hij⟩, hyl, hyt, hyd⟩
  simp only at hj hij hyl hyt hyd
  have ho := h.setAll ys hyl
  have hwl : (without (xs.take j) p).length = i := by rw [← hyt, List.length_take]; omega
  by_cases hlt : j < xs.length
  · have hlt' : (j : Int) < xs.length := by omega
    obtain ⟨z, hz⟩ : ∃ z, xs[j]? = some z := ⟨_, List.getElem?_eq_getElem hlt⟩
    have hzy : ys[j]? = some z := by
      have : (ys.drop j)[0]? = (xs.drop j)[0]? := by rw [hyd]
      rw [List.getElem?_drop, List.getElem?_drop, Nat.add_zero] at this
      rw [this]; exact hz
    have hjy : j < ys.length := by omega
    have hiy : i < ys.length := by omega
    simp (maxSteps := 4000000) -implicitDefEqProofs -dsimp (disch := omega) only [↓AW_skip, ↓AW_ops, ↓AW_seq, ↓AW_cond, ↓AW_block, ↓AOps_nil, ↓AOps_pu, ↓AOps_ld, ↓AOps_callv, on_some, CallF_fn, condB_t, ↓then_normal, pval, lval, rd_S, put_S, partA, eq_self, mk, List.foldl_cons, List.foldl_nil, List.replicate_succ, List.replicate_zero, List.set_cons_zero, List.set_cons_succ, List.getElem?_cons_zero, List.getElem?_cons_succ, List.drop_zero, List.take_succ_cons, List.take_nil, Option.getD_some, map_c, map_n, List.length_cons, List.length_nil, Nat.reduceLeDiff, Nat.zero_add, List.cons_append, List.nil_append, bin_lss, if_true, if_false, Bool.false_eq_true, decide_true, Go.Eng.e1, hlt', hln, ho.ls.idx hjy, ho.ls.ld0 hzy 1 false (by decide)]
    refine CallK.of (s86 (hpk (ys ++ tl))) ?_
    by_cases hzp : z = p
    · simp (maxSteps := 4000000) -implicitDefEqProofs -dsimp (disch := omega) only [↓AW_skip, ↓AW_ops, ↓AW_cond, ↓AOps_nil, ↓AOps_pu, on_some, extK_same, condB_f, ↓then_normal, ↓inBlock_normal, pval, rd_S, rd_C, put_S, eq_self, mk, List.foldl_cons, List.foldl_nil, List.replicate_succ, List.replicate_zero, List.set_cons_zero, List.set_cons_succ, List.getElem?_cons_zero, List.getElem?_cons_succ, Option.getD_some, List.length_cons, List.length_nil, Nat.reduceAdd, Nat.zero_add, bin_add, w64, Bool.not_true, decide_true, true_and, hzp]
      refine ⟨(i, j + 1, ys), ⟨⟨hlt, by simp only; omega⟩, hyl, ?_, ?_⟩, by simp [Has, rd_s], rfl, by simp only; omega⟩
      · simp only; rw [without_take hz, if_pos hzp, List.append_nil]; exact hyt
      · simp only
        rw [← List.drop_drop, ← List.drop_drop, hyd]
    · have hst := ho.st hiy z
      rw [List.set_set] at hst
      simp (maxSteps := 4000000) -implicitDefEqProofs -dsimp (disch := omega) only [↓AW_ops, ↓AW_seq, ↓AW_cond, ↓AOps_nil, ↓AOps_pu, ↓AOps_ha, on_some, extK_false, extK_same, condB_t, ↓then_normal, ↓inBlock_normal, pval, hval_st, rd_S, rd_C, put_S, putS_none, eq_self, mk, List.foldl_cons, List.foldl_nil, List.replicate_succ, List.replicate_zero, List.set_cons_zero, List.set_cons_succ, List.getElem?_cons_zero, List.getElem?_cons_succ, Option.getD_some, Option.map_some, List.length_cons, List.length_nil, Nat.reduceAdd, Nat.zero_add, bin_add, w64, Bool.not_false, decide_false, true_and, hzp, ho.ls.idx hiy, hst]
      refine ⟨(i + 1, j + 1, ys.set i z), ⟨⟨hlt, by simp only; omega⟩, by simp [hyl], ?_, ?_⟩, by simp [Has, rd_s], rfl, by simp only; omega⟩
      · simp only
        rw [without_take hz, if_neg hzp, ← hyt, List.take_add_one, List.getElem?_set_self hiy, Option.toList_some, List.take_set_of_le (Nat.le_refl _)]
      · simp only
        rw [List.drop_set_of_lt (by omega), ← List.drop_drop, ← List.drop_drop, hyd]
  · have hlt' : ¬ ((j : Int) < xs.length) := by omega
    rw [show xs.take j = xs from List.take_of_length_le (by omega)] at hyt hwl
    have hs1 : slcA 1 (.sl 1 n 0 xs.length false) (some (I i)) none none = some (.sl 1 n (i * 1) (xs.length - i) false) := by
      have : i ≤ xs.length := by omega
      simp [slcA, bnd, this]
    have hs2 : slcA 1 (.sl 1 n 0 xs.length false) none (some (I i)) none = some (.sl 1 n 0 i false) := by
      have : i ≤ xs.length := by omega
      simp [slcA, bnd, this]
    have hc := ho.clr i (by omega) false
    rw [hyl, List.set_set, hyt] at hc
    simp (maxSteps := 4000000) -implicitDefEqProofs -dsimp (disch := omega) only [↓AW_ops, ↓AW_seq, ↓AW_cond, ↓AW_exit, ↓AW_ret, ↓AOps_nil, ↓AOps_pu, ↓AOps_ha, on_some, extK_false, condB_f, ↓then_normal, ↓then_exit, ↓inBlock_exit, ↓Fin_ret, pval, rd_S, put_S, putS_none, resV, resL, eq_self, mk, List.foldl_cons, List.foldl_nil, List.replicate_succ, List.replicate_zero, List.set_cons_zero, List.set_cons_succ, List.getElem?_cons_zero, List.getElem?_cons_succ, Option.getD_some, Option.map_some, Option.map_none, bin_lss, if_true, decide_false, hlt', hln, hs1, hval_clr, hc, hs2]
    exact gc_same_all (by rw [hwl]) (by rw [hwl])
theorem s84 {H : AHeap} {a : Nat} {lv : AV} {ls : List (Int × Int)} (hld : ldA 1 false (.ptr a 0) H = some lv) (hls : L2 H lv ls) {i : Int} {q : Rat} (h0 : 0 ≤ i) (hi : ls[i.toNat]? = some (rp q)) : ACalls Try.prog 84 [I i, .ptr a 0] H (R q) H := by
  refine acalls hmix Try.func84 (by kernel_rfl) t84 2 rfl (by decide) ?_
  have hlt := (List.getElem?_eq_some_iff.1 hi).1
  dsimp only [m84]
  simp (maxSteps := 4000000) -implicitDefEqProofs -dsimp (disch := omega) only [↓AW_ops, ↓AW_seq, ↓AW_ret, ↓AOps_nil, ↓AOps_pu, ↓AOps_ld, on_some, ↓then_normal, ↓Fin_ret, pval, lval, rd_S, rd_C, put_S, resV, resL, chkd, bput, bgot, AV.cells?, splice, partA, eq_self, List.replicate_succ, List.replicate_zero, List.set_cons_zero, List.set_cons_succ, List.getElem?_cons_zero, List.getElem?_cons_succ, List.drop_zero, List.drop_succ_cons, List.drop_nil, List.take_zero, List.take_succ_cons, List.take_nil, Option.getD_some, List.length_cons, List.length_nil, Nat.reduceAdd, Nat.reduceSub, Nat.reduceLeDiff, Nat.reduceEqDiff, Nat.zero_add, List.cons_append, List.nil_append, List.append_nil, if_true, if_false, Go.Eng.e2, ne_eq, not_true_eq_false, hld, hls.idxI h0 (by omega : i < ls.length), hls.ld0 hi 2 true (by decide)]
  exact gc_same rfl
theorem c_first {H : AHeap} {v : AV} {xs : List Int} {x0 : Int} (hx : L1 H v xs) (h0 : xs[0]? = some x0) (hl : xs.length ≤ 1000) {a : Nat} (c : Int → Rat) (hc : ∀ i ∈ xs, ACalls Try.prog 84 [I i, .ptr a 0] H (R (c i)) H) (hs : ∀ i ∈ xs, Sm (c i)) :
    ACalls Try.prog 83 [v, .fn 84 [.ptr a 0], .fn 65 []] H (I (bestF c x0 xs)) H := by
  refine acalls hmix Try.func83 (by kernel_rfl) t83 3 rfl (by decide) ?_
  have hlt0 := (List.getElem?_eq_some_iff.1 h0).1
  have i0 := hx.idx (k := .i64) hlt0
  have l0 := hx.ld0 h0 1 false (by decide)
  rw [show ((0 : Nat) : Int) = 0 from rfl] at i0
  rw [Nat.zero_mul, Nat.add_zero] at i0 l0
  dsimp only [m83]
  simp (maxSteps := 4000000) -implicitDefEqProofs -dsimp (disch := omega) only [↓AW_ops, ↓AW_seq, ↓AW_block, ↓AOps_nil, ↓AOps_pu, ↓AOps_ld, on_some, ↓then_normal, pval, lval, rd_S, rd_C, put_S, ↓AW_toLoop, partA, eq_self, List.replicate_succ, List.replicate_zero, List.set_cons_zero, List.set_cons_succ, List.getElem?_cons_zero, List.getElem?_cons_succ, List.drop_zero, List.take_succ_cons, List.take_nil, Option.getD_some, List.length_cons, List.length_nil, Nat.reduceSub, Nat.reduceLeDiff, Nat.zero_add, List.cons_append, List.nil_append, if_true, if_false, Bool.false_eq_true, Go.Eng.e1, i0, l0, hx.len]
  refine LoopK.by 31 (fun s : Nat × Int => s.1 ≤ xs.length ∧ s.2 ∈ xs ∧ bestF c x0 xs = bestF c s.2 (xs.drop s.1)) (fun s => [(1, .fn 84 [.ptr a 0]), (2, .fn 65 []), (7, I s.2), (13, v), (14, I xs.length), (15, I s.1)]) (fun _ => H) (fun s => xs.length - s.1) (0, x0) ⟨by simp only; omega, List.mem_of_getElem? h0, rfl⟩ rfl (by simp [Has, rd_s]) rfl ?_
  rintro ⟨k, out⟩ ⟨hk, hom, hb⟩
  simp only at hk hom hb
  by_cases hlt : k < xs.length
  · obtain ⟨z, hz⟩ : ∃ z, xs[k]? = some z := ⟨_, List.getElem?_eq_getElem hlt⟩
    have hlt' : (k : Int) < xs.length := by omega
    have hzm := List.mem_of_getElem? hz
    have hdr : xs.drop k = z :: xs.drop (k + 1) := by
      have := (List.getElem?_eq_some_iff.1 hz).2
      rw [← this]; exact List.drop_eq_getElem_cons hlt
    rw [hdr, bestF] at hb
    simp (maxSteps := 4000000) -implicitDefEqProofs -dsimp (disch := omega) only [↓AW_skip, ↓AW_ops, ↓AW_seq, ↓AW_cond, ↓AW_block, ↓AOps_nil, ↓AOps_pu, ↓AOps_ld, ↓AOps_callv, on_some, CallF_fn, condB_t, ↓then_normal, pval, lval, rd_S, put_S, partA, eq_self, mk, List.foldl_cons, List.foldl_nil, List.replicate_succ, List.replicate_zero, List.set_cons_zero, List.set_cons_succ, List.getElem?_cons_zero, List.getElem?_cons_succ, List.drop_zero, List.take_succ_cons, List.take_nil, Option.getD_some, map_c, map_n, List.length_cons, List.length_nil, Nat.reduceLeDiff, Nat.zero_add, List.cons_append, List.nil_append, bin_lss, if_true, if_false, Bool.false_eq_true, decide_true, Go.Eng.e1, hlt', hx.idx hlt, hx.ld0 hz 1 false (by decide)]
    refine CallK.of (hc z hzm) ?_
    simp (maxSteps := 4000000) -implicitDefEqProofs -dsimp (disch := omega) only [↓AOps_pu, ↓AOps_callv, on_some, extK_same, CallF_fn, pval, rd_S, put_S, mk, List.foldl_cons, List.foldl_nil, List.replicate_succ, List.replicate_zero, List.set_cons_zero, List.set_cons_succ, List.getElem?_cons_zero, List.getElem?_cons_succ, Option.getD_some, map_c, map_n, List.cons_append, List.nil_append]
    refine CallK.of (hc out hom) ?_
    simp (maxSteps := 4000000) -implicitDefEqProofs -dsimp (disch := omega) only [↓AOps_callv, extK_same, CallF_fn, rd_S, put_S, mk, List.foldl_cons, List.foldl_nil, List.replicate_succ, List.replicate_zero, List.set_cons_zero, List.set_cons_succ, List.getElem?_cons_zero, List.getElem?_cons_succ, Option.getD_some, map_c, map_n, List.append_nil]
    refine CallK.of (s65 _ _ _ (hs z hzm) (hs out hom)) ?_
    by_cases h1 : c z < c out
    · have hn := (sub_neg_iff _ _).2 h1
      rw [if_pos h1] at hb
      simp (maxSteps := 4000000) -implicitDefEqProofs -dsimp (disch := omega) only [↓AW_ops, ↓AW_cond, ↓AOps_nil, ↓AOps_pu, on_some, extK_same, condB_t, ↓then_normal, ↓inBlock_normal, pval, rd_S, rd_C, put_S, eq_self, mk, List.foldl_cons, List.foldl_nil, List.replicate_succ, List.replicate_zero, List.set_cons_zero, List.set_cons_succ, List.getElem?_cons_zero, List.getElem?_cons_succ, Option.getD_some, List.length_cons, List.length_nil, Nat.reduceAdd, Nat.zero_add, bin_add, bin_lss, w64, decide_true, true_and, hn]
      exact ⟨(k + 1, z), ⟨hlt, hzm, hb⟩, by simp [Has, rd_s], by simp only; omega⟩
    · have hn : ¬ (c z - c out).num < 0 := fun hh => h1 ((sub_neg_iff _ _).1 hh)
      rw [if_neg h1] at hb
      simp (maxSteps := 4000000) -implicitDefEqProofs -dsimp (disch := omega) only [↓AW_skip, ↓AW_ops, ↓AW_cond, ↓AOps_nil, ↓AOps_pu, on_some, extK_same, condB_f, ↓then_normal, ↓inBlock_normal, pval, rd_S, rd_C, put_S, eq_self, mk, List.foldl_cons, List.foldl_nil, List.replicate_succ, List.replicate_zero, List.set_cons_zero, List.set_cons_succ, List.getElem?_cons_zero, List.getElem?_cons_succ, Option.getD_some, List.length_cons, List.length_nil, Nat.reduceAdd, Nat.zero_add, bin_add, bin_lss, w64, decide_false, true_and, hn]
      exact ⟨(k + 1, out), ⟨hlt, hom, hb⟩, by simp [Has, rd_s], by simp only; omega⟩
  · have hlt' : ¬ ((k : Int) < xs.length) := by omega
    rw [List.drop_of_length_le (by omega)] at hb
    simp (maxSteps := 4000000) -implicitDefEqProofs -dsimp (disch := omega) only [↓AW_ops, ↓AW_seq, ↓AW_cond, ↓AW_exit, ↓AW_ret, ↓AOps_nil, ↓AOps_pu, on_some, condB_f, ↓then_normal, ↓then_exit, ↓inBlock_exit, ↓Fin_ret, pval, rd_S, put_S, resV, resL, eq_self, mk, List.foldl_cons, List.foldl_nil, List.replicate_succ, List.replicate_zero, List.set_cons_zero, List.set_cons_succ, List.getElem?_cons_zero, List.getElem?_cons_succ, Option.getD_some, bin_lss, if_true, decide_false, hlt']
    exact gc_same (by rw [hb]; rfl)
end Go.Proofs.Ytmblehbjedpjoaa

namespace Go.Proofs.Ytmblehbjedpjoaa
open Go Go.Eng
theorem KI.dvb {L : List Int} {V : List (List Int)} {left : List Int} {p : Rat} {D : Int} (h : KI L V left p D) (hl : 2 ≤ left.length) {v : Int} (hv : 1 ≤ v ∧ v ≤ 20) : 0 < D * v ∧ D * v ≤ 1000000 := by
  have h1 := h.D1
  have h0 := h.D0
  have hpow : (20 : Int) ^ (left.length - 1) = 20 * 20 ^ (left.length - 1 - 1) := by
    rw [show left.length - 1 = (left.length - 1 - 1) + 1 by omega, Int.pow_succ, Int.mul_comm]
    rfl
  have hp := pow20 (left.length - 1 - 1)
  rw [hpow] at h1
  have h2 : D * (20 * 1) ≤ D * (20 * 20 ^ (left.length - 1 - 1)) := Int.mul_le_mul_of_nonneg_left (by omega) (by omega)
  have h3 : D * v ≤ D * 20 := Int.mul_le_mul_of_nonneg_left hv.2 (by omega)
  exact ⟨Int.mul_pos h0 (by omega), by omega⟩
/-- After one has called. -/
theorem KI.next {L : List Int} {V : List (List Int)} (hg : KG L V) {left : List Int} {p : Rat} {D : Int} (h : KI L V left p D) (hl : 2 ≤ left.length) {b : Int} (hbl : ∀ i ∈ left, cqI L V p b ≤ cqI L V p i) (hbm : b ∈ left) :
    ∃ D', KI L V (without left b) (cqI L V p b) D' ∧ (without left b).length = left.length - 1 := by
  obtain ⟨c1, c2, c3, v, hv, c4⟩ := h.call hg (by omega) hbm
  have hwe := without_erase h.nd b
  have hwl : (without left b).length = left.length - 1 := by rw [hwe, List.length_erase_of_mem hbm]
  have hpow : (20 : Int) ^ (left.length - 1) = 20 * 20 ^ (left.length - 1 - 1) := by
    rw [show left.length - 1 = (left.length - 1 - 1) + 1 by omega, Int.pow_succ, Int.mul_comm]
    rfl
  have hD1 := h.D1
  have hDp := h.D0
  have hn : (0 : Rat) ≤ ((V.length : Int) : Rat) := cast_nonneg (by omega)
  have hKI : KI L V (without left b) (cqI L V p b) (D * v) := by
    refine ⟨?_, fun o ho => ?_, Rat.le_trans h.p0 c1, c2, c4, Int.dvd_trans h.nD (Int.dvd_mul_right _ _), Int.mul_pos hDp (by omega), ?_, fun o ho => ?_⟩
    · rw [hwe]; exact h.nd.erase _
    · rw [hwe] at ho; exact h.rg o (List.mem_of_mem_erase ho)
    · rw [hwl]
      rw [hpow] at hD1
      have hpp := pow20 (left.length - 1 - 1)
      have e1 : D * v * 20 ^ (left.length - 1 - 1) = (D * 20 ^ (left.length - 1 - 1)) * v := by rw [Int.mul_assoc, Int.mul_comm v, Int.mul_assoc]
      have e2 : D * (20 * 20 ^ (left.length - 1 - 1)) = (D * 20 ^ (left.length - 1 - 1)) * 20 := by rw [Int.mul_comm 20, Int.mul_assoc]
      rw [e1]
      rw [e2] at hD1
      have := Int.mul_le_mul_of_nonneg_left hv.2 (show 0 ≤ D * 20 ^ (left.length - 1 - 1) from Int.le_of_lt (Int.mul_pos hDp hpp))
      omega
    · rw [hwe] at ho
      have hol := List.mem_of_mem_erase ho
      obtain ⟨d1, d2, d3, _⟩ := h.call hg (by omega) hol
      have hfr := h.fr o hol
      obtain ⟨r, hr, hf⟩ := fOf_mem (L := L) (h.rg o hol)
      have hgd := hg.gd hr
      have hmo := upTo_mono (hbl o hol) (fOf L V o) 0 (by rw [hf]; exact hgd.2)
      have hm2 := Rat.mul_le_mul_of_nonneg_right hmo hn
      rw [hwl]
      have e : (((left.length - 1 : Nat) : Int) : Rat) = ((left.length : Int) : Rat) - 1 := by
        rw [show ((left.length - 1 : Nat) : Int) = (left.length : Int) - 1 by omega, Rat.intCast_sub]; rfl
      rw [e]
      rw [rsub_mul] at d3 hfr ⊢
      rw [rsub_mul, Rat.one_mul]
      grind
  exact ⟨D * v, hKI, hwl⟩
/-- The list of those who are left, and what has been made. -/
structure KS (A H : AHeap) (nl : Nat) (left tl : List Int) (u : AV) (K : List Pc) : Prop where
  ot : OT A H nl (.sl 1 nl 0 left.length false) left tl
  out : (K = [] ∧ u = .nilS) ∨ ∃ no, 0 < K.length ∧ u = .sl 5 no 0 K.length false ∧ A.length ≤ no ∧ no ≠ nl ∧ H[no]? = some (.cells true (K.flatMap e5))
  Kl : K.length ≤ 1000
section
variable {A H H' : AHeap} {nl : Nat} {left tl : List Int} {u : AV} {K : List Pc}
theorem KS.mono (h : KS A H nl left tl u K) (hp : H <+: H') : KS A H' nl left tl u K := by
  refine ⟨⟨h.ot.pre.trans hp, h.ot.new, pre_get hp h.ot.ob, rfl⟩, ?_, h.Kl⟩
  rcases h.out with h1 | ⟨no, h1, h2, h3, h4, h5⟩
  · exact .inl h1
  · exact .inr ⟨no, h1, h2, h3, h4, pre_get hp h5⟩
theorem KS.no_lt (h : KS A H nl left tl u K) {no len : Nat} (hu : u = .sl 5 no 0 len false) : no < H.length := by
  rcases h.out with ⟨_, h2⟩ | ⟨no', _, h2, _, _, h5⟩
  · rw [h2] at hu; cases hu
  · rw [h2] at hu; cases hu
    exact (List.getElem?_eq_some_iff.1 h5).1
theorem KS.del (h : KS A H nl left tl u K) (left' tl' : List Int) : KS A (H.set nl (.cells true ((left' ++ tl').flatMap e1))) nl left' tl' u K := by
  refine ⟨⟨pre_set h.ot.pre h.ot.new _, h.ot.new, by rw [List.getElem?_set_self h.ot.lt], rfl⟩, ?_, h.Kl⟩
  rcases h.out with h1 | ⟨no, h1, h2, h3, h4, h5⟩
  · exact .inl h1
  · exact .inr ⟨no, h1, h2, h3, h4, by rw [List.getElem?_set_ne (Ne.symm h4)]; exact h5⟩
theorem KS.acc (h : KS A H nl left tl u K) : AccL 5 e5 A H u K := by
  refine ⟨h.ot.pre, flatMap_length e5_len K, ?_⟩
  rcases h.out with ⟨rfl, h2⟩ | ⟨no, h1, h2, h3, h4, h5⟩
  · exact .inl ⟨rfl, h2⟩
  · exact .inr ⟨h1, no, h2, h3, h5⟩
theorem KS.push (h : KS A H nl left tl u K) (p : Pc) (hl : K.length + 1 ≤ 1000) :
    ∃ u' H', appA 5 (H ++ [.cells true (e5 p)]) u (.sl 5 H.length 0 1 true) = some (u', H') ∧ KS A H' nl left tl u' (K ++ [p]) ∧ ∀ m, m < H.length → (∀ no len, u = .sl 5 no 0 len false → m ≠ no) → H'[m]? = H[m]? := by
  have hc := slCells_new H (e5 p) (e5_len p)
  have hlt := h.ot.lt
  rcases h.out with ⟨rfl, rfl⟩ | ⟨no, h1, rfl, h3, h4, h5⟩
  · refine ⟨.sl 5 (H.length + 1) 0 1 false, H ++ [.cells true (e5 p)] ++ [.cells true (e5 p)], ?_, ⟨⟨(h.ot.pre.trans (pre_app _ _)).trans (pre_app _ _), h.ot.new, ?_, rfl⟩, .inr ⟨H.length + 1, by simp, rfl, by have := h.ot.pre.length_le; omega, by omega, by simp⟩, by simp⟩, fun m hm _ => ?_⟩
    · unfold appA
      rw [hc]
      simp [lim]
    · rw [List.append_assoc, List.getElem?_append_left hlt]; exact h.ot.ob
    · rw [List.append_assoc, List.getElem?_append_left hm]
  · have hno := (List.getElem?_eq_some_iff.1 h5).1
    have h5' : (H ++ [AObj.cells true (e5 p)])[no]? = some (.cells true (K.flatMap e5)) := by rw [List.getElem?_append_left hno]; exact h5
    have hfl := flatMap_length e5_len K
    have hpl := h.ot.pre.length_le
    refine ⟨.sl 5 (H.length + 1) 0 (K.length + 1) false, (H ++ [AObj.cells true (e5 p)]).set no AObj.dead ++ [AObj.cells true ((K ++ [p]).flatMap e5)], ?_, ⟨⟨(pre_set (h.ot.pre.trans (pre_app _ _)) h3 _).trans (pre_app _ _), h.ot.new, ?_, rfl⟩, .inr ⟨H.length + 1, by simp, by simp, by omega, by omega, ?_⟩, by simpa using hl⟩, fun m hm hne => ?_⟩
    · unfold appA
      rw [hc]
      have h0 : ¬ (1 : Nat) = 0 := by decide
      have hlim : K.length + 1 ≤ lim := by unfold lim; omega
      simp only [h0, if_false, hlim, and_self, if_true, h5']
      rw [if_pos (by omega), List.drop_zero, ← hfl, List.take_length, List.flatMap_append]
      simp
    · rw [List.getElem?_append_left (by simp; omega), List.getElem?_set_ne h4, List.getElem?_append_left hlt]; exact h.ot.ob
    · rw [List.getElem?_append_right (by simp)]
      simp
    · have := hne no _ rfl
      rw [List.getElem?_append_left (by simp; omega), List.getElem?_set_ne (Ne.symm this), List.getElem?_append_left hm]
end
theorem Ls_congr {α : Type} {es : Nat} {e : α → List AV} {H H' : AHeap} {v : AV} {xs : List α} (h : Ls es e H v xs) (hg : v ≠ .nilS → H'[nm v]? = H[nm v]?) : Ls es e H' v xs := by
  refine ⟨h.he, ?_⟩
  have hc := h.hc
  rcases h.inv with ⟨rfl, _⟩ | ⟨n, off, full, rw, l, rfl, h1, _⟩
  · exact hc
  · have := hg (by simp)
    simp only [nm] at this
    unfold slCells cellsAt at hc ⊢
    simp only at hc ⊢
    rw [this]
    exact hc
theorem Ls_lt {α : Type} {es : Nat} {e : α → List AV} {H : AHeap} {v : AV} {xs : List α} (h : Ls es e H v xs) (hne : v ≠ .nilS) : nm v < H.length := by
  rcases h.inv with ⟨rfl, _⟩ | ⟨n, off, full, rw, l, rfl, h1, _⟩
  · exact absurd rfl hne
  · exact (List.getElem?_eq_some_iff.1 h1).1
/-- All owners. -/
def rg0 (n : Nat) : List Int := (List.range n).map (fun (i : Nat) => (i : Int))
structure KSt where
  H : AHeap
  nl : Nat
  left : List Int
  tl : List Int
  u : AV
  K : List Pc
  p : Rat
theorem KI.start {L : List Int} {V : List (List Int)} (hg : KG L V) : KI L V (rg0 V.length) ((0 : Int) : Rat) V.length := by
  have hv1 := hg.v1
  have hv5 := hg.v5
  have hs := hg.sum
  have hlen : (rg0 V.length).length = V.length := by simp [rg0]
  have hrg : ∀ o ∈ rg0 V.length, 0 ≤ o ∧ o < V.length := by
    intro o ho
    obtain ⟨i, hi, rfl⟩ := List.mem_map.1 ho
    have := List.mem_range.1 hi
    omega
  refine ⟨?_, hrg, by rw [int0]; exact Rat.le_refl, Rat.intCast_le_intCast.2 (by omega), Dv_int _ _, Int.dvd_refl _, by omega, ?_, fun o ho => ?_⟩
  · unfold rg0
    rw [List.nodup_iff_pairwise_ne, List.pairwise_map]
    exact (List.nodup_iff_pairwise_ne.1 List.nodup_range).imp (fun h e => h (by omega))
  · rw [hlen]
    have : V.length = 1 ∨ V.length = 2 ∨ V.length = 3 ∨ V.length = 4 ∨ V.length = 5 := by omega
    rcases this with h | h | h | h | h <;> rw [h] <;> decide
  · obtain ⟨r, hr, hf⟩ := fOf_mem (L := L) (hrg o ho)
    rw [hf, upTo_at0 (hg.gd hr), hlen]
    grind
section
variable {L : List Int} {ws : List (AV × List Int)} {x y : AV} {A : AHeap}
def knE (L : List Int) (V : List (List Int)) : List Pc := kn L V V.length (rg0 V.length) ((0 : Int) : Rat)
set_option maxRecDepth 20000 in
set_option maxHeartbeats 8000000 in
theorem s32 (hL : L1 A x L) (hV : LL A y ws) (hs : Sz L ws) (hg : KG L (lists ws)) :
    ACalls Try.prog 32 [.agg [x, y]] A (.tuple [outV 5 A (knE L (lists ws)).length, I 0]) (outH A ((knE L (lists ws)).flatMap e5) (knE L (lists ws)).length) := by
  refine acalls hmix Try.func32 (by kernel_rfl) t32 1 rfl (by decide) ?_
  have hln : ∀ n k, lenA (.sl 1 n 0 k false) = some (I k) := fun _ _ => rfl
  have hv1 := hg.v1
  have hv5 := hg.v5
  have hLs := hg.sum
  have hll : (lists ws).length = ws.length := by simp
  unfold knE
  dsimp only [m32]
  simp (maxSteps := 4000000) -implicitDefEqProofs -dsimp (disch := omega) only [↓AW_ops, ↓AW_seq, ↓AOps_nil, ↓AOps_pu, on_some, ↓then_normal, pval, rd_S, rd_C, put_S, cells_agg, List.replicate_succ, List.replicate_zero, List.set_cons_zero, List.set_cons_succ, List.getElem?_cons_zero, Option.getD_some, Nat.reduceSub, List.cons_append, List.nil_append, ↓AW_toScope]
  refine ScopeK.by 65 (fun s : KSt => KS A s.H s.nl s.left s.tl s.u s.K ∧ (∃ D, KI L (lists ws) s.left s.p D) ∧ 1 ≤ s.left.length ∧ kn L (lists ws) (lists ws).length (rg0 (lists ws).length) ((0 : Int) : Rat) = s.K ++ kn L (lists ws) s.left.length s.left s.p ∧ s.K.length + s.left.length = ws.length)
    (fun s => [(1, .agg [x, y]), (5, .sl 1 s.nl 0 s.left.length false), (7, s.u), (8, R s.p)]) (fun s => s.H) (fun s => s.left.length) (ws.length + 1) ?_ ?_
  · simp (maxSteps := 4000000) -implicitDefEqProofs -dsimp (disch := omega) only [↓AW_ops, ↓AW_seq, ↓AOps_pu, ↓AOps_call, on_some, pval, rd_S, put_S, chkd, bgot, partA, eq_self, List.set_cons_zero, List.set_cons_succ, List.getElem?_cons_zero, List.getElem?_cons_succ, List.drop_zero, List.take_succ_cons, List.take_nil, Option.getD_some, map_c, map_n, List.length_cons, List.length_nil, Nat.reduceAdd, Nat.reduceLeDiff, Nat.reduceEqDiff, Nat.zero_add, if_true, if_false]
    refine CallK.of (s26 hL hV hs.l hs.v hs.w) ?_
    have h0 := hg.e
    simp (maxSteps := 4000000) -implicitDefEqProofs -dsimp (disch := omega) only [↓AW_skip, ↓AW_ops, ↓AW_seq, ↓AW_cond, ↓AW_block, ↓AOps_nil, ↓AOps_pu, on_some, extK_same, condB_f, ↓then_normal, pval, rd_S, rd_C, put_S, ↓AW_toLoop, chkd, isAdr, bgot, cells_agg, partA, eq_self, List.set_cons_zero, List.set_cons_succ, List.getElem?_cons_zero, List.getElem?_cons_succ, List.drop_zero, List.drop_succ_cons, List.take_succ_cons, List.take_nil, Option.getD_some, List.length_cons, List.length_nil, Nat.reduceAdd, Nat.reduceLeDiff, Nat.zero_add, bin_neq, if_true, if_false, Bool.false_eq_true, decide_false, not_true_eq_false, h0, hV.ls.len]
    refine LoopK.by 65 (fun z : Nat × AV × AHeap => z.1 ≤ ws.length ∧ AccL 1 e1 A z.2.2 z.2.1 ((rg0 ws.length).take z.1)) (fun z => [(1, .agg [x, y]), (5, z.2.1), (18, I ws.length), (19, I z.1)]) (fun z => z.2.2) (fun z => ws.length - z.1) (0, .nilS, A) ⟨by simp only; omega, AccL.nil (List.prefix_refl _)⟩ rfl (by simp [Has, rd_s]) rfl ?_
    rintro ⟨i, v0, H0⟩ ⟨hi, hv0⟩
    simp only at hi hv0
    by_cases hlt : i < ws.length
    · have hlt' : (i : Int) < ws.length := by omega
      have hri : (rg0 ws.length)[i]? = some (i : Int) := by
        unfold rg0
        rw [List.getElem?_map, List.getElem?_range hlt]; rfl
      obtain ⟨u3, A3, happ, hu3⟩ := hv0.push e1_len (i : Int) (by simp [lim, rg0]; omega)
      simp only [e1] at happ
      simp (maxSteps := 4000000) -implicitDefEqProofs -dsimp (disch := omega) only [↓AW_skip, ↓AW_ops, ↓AW_seq, ↓AW_cond, ↓AW_block, ↓AOps_nil, ↓AOps_pu, ↓AOps_ha, on_some, extK_false, extK_app, condB_t, ↓then_normal, ↓inBlock_normal, pval, hval_blds, hval_app, rd_S, rd_C, put_S, cells_int, splice, fillA, repl, eq_self, mk, List.foldl_cons, List.foldl_nil, List.replicate_succ, List.replicate_zero, List.set_cons_zero, List.set_cons_succ, List.getElem?_cons_zero, List.getElem?_cons_succ, List.drop_succ_cons, List.drop_nil, List.take_zero, Option.getD_some, map_c, map_n, List.length_cons, List.length_nil, Nat.reduceAdd, Nat.reduceLeDiff, Nat.zero_add, List.nil_append, List.append_nil, bin_add, bin_lss, w64, if_true, decide_true, true_and, and_true, hlt', happ]
      refine ⟨(i + 1, u3, A3), ⟨hlt, ?_⟩, by simp [Has, rd_s], rfl, by simp only; omega⟩
      simp only
      rw [List.take_add_one, hri]
      exact hu3
    · have hlt' : ¬ ((i : Int) < ws.length) := by omega
      have hrl : (rg0 ws.length).length = ws.length := by simp [rg0]
      rw [List.take_of_length_le (by omega)] at hv0
      obtain ⟨nl, hol, hve⟩ := AccL_ol hv0 e1_len (by omega)
      have hki := KI.start hg
      rw [hll] at hki
      have hks : KS A H0 nl (rg0 ws.length) [] .nilS [] := ⟨⟨hol.pre, hol.new, by rw [List.append_nil]; exact hol.ob, rfl⟩, .inl ⟨rfl, rfl⟩, by simp⟩
      have hl1 : 1 ≤ (rg0 ws.length).length := by omega
      have hkn : kn L (lists ws) (lists ws).length (rg0 (lists ws).length) ((0 : Int) : Rat) = [] ++ kn L (lists ws) (rg0 ws.length).length (rg0 ws.length) ((0 : Int) : Rat) := by rw [hll, hrl]; rfl
      have hKl : ([] : List Pc).length + (rg0 ws.length).length = ws.length := by simpa using hrl
      subst hve
      simp (maxSteps := 4000000) -implicitDefEqProofs -dsimp (disch := omega) only [↓AW_ops, ↓AW_seq, ↓AW_cond, ↓AW_exit, ↓AOps_nil, ↓AOps_pu, ↓AOps_call, on_some, condB_f, ↓then_normal, ↓then_exit, ↓inBlock_exit, pval, rd_S, rd_C, put_S, eq_self, mk, List.foldl_cons, List.foldl_nil, List.replicate_succ, List.replicate_zero, List.set_cons_zero, List.set_cons_succ, List.getElem?_cons_zero, List.getElem?_cons_succ, Option.getD_some, map_c, map_n, List.length_cons, List.length_nil, Nat.reduceAdd, Nat.reduceLeDiff, Nat.zero_add, bin_lss, if_true, if_false, decide_false, true_and, reduceCtorEq, ↓inScope_exit, hlt']
      refine CallK.of (s76 _ _) ?_
      simp (maxSteps := 4000000) -implicitDefEqProofs -dsimp (disch := omega) only [↓AW_ops, ↓AW_seq, ↓AOps_nil, ↓AOps_pu, on_some, extK_same, ↓then_normal, pval, rd_S, rd_C, put_S, chkd, bput, cells_agg, splice, eq_self, mk, List.foldl_cons, List.foldl_nil, List.replicate_succ, List.replicate_zero, List.set_cons_zero, List.set_cons_succ, List.getElem?_cons_zero, List.getElem?_cons_succ, List.drop_succ_cons, List.drop_nil, List.take_zero, Option.getD_some, List.length_cons, List.length_nil, Nat.reduceAdd, Nat.reduceLeDiff, Nat.zero_add, List.nil_append, List.append_nil, if_true, if_false, ne_eq, not_true_eq_false, ↓AW_label]
      have hN : (rg0 ws.length).length < ws.length + 1 := by omega
      generalize rg0 ws.length = left at *
      generalize (((ws.length : Nat) : Int)) = D at hki
      generalize ((0 : Int) : Rat) = p at *
      generalize H0 = H at *
      by_cases hl2 : 1 < left.length
      · obtain ⟨a0, b0, l0, rfl⟩ : ∃ a b l, left = a :: b :: l := by
          match left, hl2 with
          | a :: b :: l, _ => exact ⟨a, b, l, rfl⟩
        generalize hleft : a0 :: b0 :: l0 = left at *
        have hl2' : (1 : Int) < left.length := by omega
        have hPl : ∀ row ∈ lists ws, Pl (L.zip row) p := fun row hr => Pl_of hg hr hki.p0 hki.p1 (by have := hki.den; omega)
        have hpre := hks.ot.pre
        have hL1 := hL.mono hpre
        have hV1 := hV.mono hpre
        have ham : a0 ∈ left := by rw [← hleft]; simp
        have hbm : bestF (cqI L (lists ws) p) a0 left ∈ left := by
          rcases bestF_mem (cqI L (lists ws) p) left a0 with h1 | h1
          · rw [h1]; exact ham
          · exact h1
        have hcal : ∀ i ∈ left, Sm (cqI L (lists ws) p i) ∧ ((cqs L (lists ws) p).map rp)[i.toNat]? = some (rp (cqI L (lists ws) p i)) ∧ 0 ≤ i := by
          intro i hi
          obtain ⟨c1, c2, _, v, hv, c4⟩ := hki.call hg (by omega) hi
          have hr := hki.rg i hi
          have hDv := hki.dvb (by omega) hv
          have hc2 : cqI L (lists ws) p i ≤ ((120 : Int) : Rat) := Rat.le_trans c2 (Rat.intCast_le_intCast.2 (by omega))
          refine ⟨Sm_of (M := 120) hDv.1 (by omega) (by omega) c4 (int_neg_le_zero (by omega) (Rat.le_trans hki.p0 c1)) hc2, ?_, hr.1⟩
          have hget : (lists ws)[i.toNat]? = some (lists ws)[i.toNat] := List.getElem?_eq_getElem (by omega)
          rw [List.getElem?_map]
          unfold cqs
          rw [List.getElem?_map, hget]
          simp only [Option.map_some]
          unfold cqI fOf rowOf
          rw [hget]
          rfl
        simp (maxSteps := 4000000) -implicitDefEqProofs -dsimp (disch := omega) only [↓AW_ops, ↓AW_seq, ↓AW_cond, ↓AOps_nil, ↓AOps_pu, ↓AOps_call, on_some, condB_t, ↓then_normal, pval, rd_S, rd_C, put_S, chkd, bgot, partA, eq_self, mk, List.foldl_cons, List.foldl_nil, List.replicate_succ, List.replicate_zero, List.set_cons_zero, List.set_cons_succ, List.getElem?_cons_zero, List.getElem?_cons_succ, List.drop_zero, List.take_succ_cons, List.take_nil, Option.getD_some, map_c, map_n, List.length_cons, List.length_nil, Nat.reduceAdd, Nat.reduceLeDiff, Nat.reduceEqDiff, Nat.zero_add, bin_gtr, if_true, if_false, decide_true, hln, hl2']
        refine CallK.of (c_calls hL1 hV1 hg p hPl) ?_
        have hlv := Ls_out H e2_len ((cqs L (lists ws) p).map rp)
        have hlp := pre_out H (((cqs L (lists ws) p).map rp).flatMap e2) ((cqs L (lists ws) p).map rp).length
        have hnm : H.length ≤ nm (outV 2 H ((cqs L (lists ws) p).map rp).length) ∧ (outV 2 H ((cqs L (lists ws) p).map rp).length).cells? = some [outV 2 H ((cqs L (lists ws) p).map rp).length] := by
          have hcl : ((cqs L (lists ws) p).map rp).length = ws.length := by simp [cqs]
          unfold outV
          rw [if_neg (by omega)]
          exact ⟨Nat.le_refl _, rfl⟩
        generalize outV 2 H ((cqs L (lists ws) p).map rp).length = lv at *
        generalize outH H (((cqs L (lists ws) p).map rp).flatMap e2) ((cqs L (lists ws) p).map rp).length = H1 at *
        have hst1 : stA 1 (.ptr H1.length 0) lv (H1 ++ [.cells true [.nilS]]) = some (H1 ++ [.cells true [lv]]) := by simp [stA, hnm.2, splice]
        simp (maxSteps := 4000000) -implicitDefEqProofs -dsimp (disch := omega) only [↓AW_ops, ↓AW_seq, ↓AOps_nil, ↓AOps_pu, ↓AOps_ha, ↓AOps_call, on_some, extK_false, extK_app, ↓then_normal, pval, hval_st, hval_newv, rd_S, rd_C, put_S, putS_none, cells_nilS, mk, List.foldl_cons, List.foldl_nil, List.replicate_succ, List.replicate_zero, List.set_cons_zero, List.set_cons_succ, List.getElem?_cons_zero, List.getElem?_cons_succ, Option.getD_some, Option.map_some, map_c, map_n, hst1]
        have hp2 := pre_app H1 [AObj.cells true [lv]]
        have hld9 : ldA 1 false (.ptr H1.length 0) (H1 ++ [AObj.cells true [lv]]) = some lv := ld_new _ _ _
        have hlv2 := hlv.mono hp2
        have hks2 := hks.mono (hlp.trans hp2)
        generalize hH2 : H1 ++ [AObj.cells true [lv]] = H2 at *
        have hH2l : H1.length < H2.length := by rw [← hH2]; simp
        refine CallK.of (c_first (x0 := a0) hks2.ot.ls (by rw [← hleft]; rfl) (by omega) (a := H1.length) (cqI L (lists ws) p) (fun i hi => s84 hld9 hlv2 (hcal i hi).2.2 (hcal i hi).2.1) (fun i hi => (hcal i hi).1)) ?_
        have hkn2 : kn L (lists ws) left.length left p = ⟨bestF (cqI L (lists ws) p) a0 left, rp p, rp (cqI L (lists ws) p (bestF (cqI L (lists ws) p) a0 left))⟩ :: kn L (lists ws) (left.length - 1) (without left (bestF (cqI L (lists ws) p) a0 left)) (cqI L (lists ws) p (bestF (cqI L (lists ws) p) a0 left)) := by
          rw [← hleft]; rfl
        rw [hkn2] at hkn
        have hnext := hki.next hg (by omega) (bestF_le (cqI L (lists ws) p) left a0).2 hbm
        generalize bestF (cqI L (lists ws) p) a0 left = b at *
        obtain ⟨hsm, hget, hb0⟩ := hcal b hbm
        have hst2 : stA 1 (.ptr H2.length 0) (I b) (H2 ++ [.cells true [.int .i64 0]]) = some (H2 ++ [.cells true [I b]]) := by simp [stA, cells_int, splice]
        have hp3 := pre_app H2 [AObj.cells true [I b]]
        have hld10 : ldA 1 false (.ptr H2.length 0) (H2 ++ [AObj.cells true [I b]]) = some (I b) := ld_new _ _ _
        have hlv3 := hlv2.mono hp3
        have hks3 := hks2.mono hp3
        have hld9' : ldA 1 false (.ptr H1.length 0) (H2 ++ [AObj.cells true [I b]]) = some lv := by
          unfold ldA at hld9 ⊢
          simp only at hld9 ⊢
          rw [List.getElem?_append_left hH2l]; exact hld9
        have hgl := (List.getElem?_eq_some_iff.1 hget).1
        obtain ⟨u4, H4, happ, hks4, hfr4⟩ := hks3.push ⟨b, rp p, rp (cqI L (lists ws) p b)⟩ (by have := hks.Kl; omega)
        have hno : ∀ m, H.length ≤ m → ∀ no len, AV.nilS = .sl 5 no 0 len false → m ≠ no := fun m hm no len hu => by have := hks.no_lt hu; omega
        have hf9 : H4[H1.length]? = (H2 ++ [AObj.cells true [I b]])[H1.length]? := hfr4 _ (by simp; omega) (hno _ hlp.length_le)
        have hf10 : H4[H2.length]? = (H2 ++ [AObj.cells true [I b]])[H2.length]? := hfr4 _ (by simp) (hno _ (by have := hlp.length_le; omega))
        have hld9b : ldA 1 false (.ptr H1.length 0) H4 = some lv := by
          unfold ldA at hld9' ⊢
          simp only at hld9' ⊢
          rw [hf9]; exact hld9'
        have hld10b : ldA 1 false (.ptr H2.length 0) H4 = some (I b) := by
          unfold ldA at hld10 ⊢
          simp only at hld10 ⊢
          rw [hf10]; exact hld10
        have hlv4 : L2 H4 lv ((cqs L (lists ws) p).map rp) := Ls_congr hlv3 (fun hne => hfr4 _ (Ls_lt hlv3 hne) (hno _ hnm.1))
        have e5p : e5 ⟨b, rp p, rp (cqI L (lists ws) p b)⟩ = [I b, I p.num, I (p.den : Int), I (rp (cqI L (lists ws) p b)).1, I (rp (cqI L (lists ws) p b)).2] := rfl
        rw [e5p] at happ
        simp (maxSteps := 4000000) -implicitDefEqProofs -dsimp (disch := omega) only [↓AW_ops, ↓AW_seq, ↓AOps_nil, ↓AOps_pu, ↓AOps_ld, ↓AOps_ha, ↓AOps_call, on_some, extK_false, extK_app, extK_same, ↓then_normal, pval, lval, hval_st, hval_newv, hval_blds, hval_app, rd_S, rd_C, put_S, putS_none, chkd, bput, bgot, cells_agg, cells_int, splice, partA, fillA, repl, eq_self, mk, List.foldl_cons, List.foldl_nil, List.replicate_succ, List.replicate_zero, List.set_cons_zero, List.set_cons_succ, List.getElem?_cons_zero, List.getElem?_cons_succ, List.drop_zero, List.drop_succ_cons, List.drop_nil, List.take_zero, List.take_succ_cons, List.take_nil, Option.getD_some, Option.map_some, map_c, map_n, List.length_cons, List.length_nil, Nat.reduceAdd, Nat.reduceLeDiff, Nat.reduceEqDiff, Nat.zero_add, List.cons_append, List.nil_append, List.append_nil, if_true, if_false, Go.Eng.e2, and_true, ne_eq, not_true_eq_false, hst2, hld10, hld9', hlv3.idxI hb0 (by omega : b < ((cqs L (lists ws) p).map rp).length), hlv3.ld0 hget 2 true (by decide), R, happ, hld9b, hld10b, hlv4.ld0 hget 2 true (by decide)]
        have hne10 : H2.length ≠ nl := by
          have := hks.ot.lt
          have := hlp.length_le
          omega
        refine CallK.of (c_del hks4.ot (by omega) hne10 hld10b hbm) ?_
        obtain ⟨D2, hki2, hwl⟩ := hnext
        simp (maxSteps := 4000000) -implicitDefEqProofs -dsimp (disch := omega) only [↓AW_exit, ↓AOps_nil, ↓AOps_pu, on_some, extK_false, ↓then_normal, ↓then_exit, pval, rd_S, put_S, putS_none, eq_self, mk, List.foldl_cons, List.foldl_nil, List.replicate_succ, List.replicate_zero, List.set_cons_zero, List.set_cons_succ, List.getElem?_cons_zero, List.getElem?_cons_succ, Option.getD_some, List.length_cons, List.length_nil, Nat.reduceAdd, Nat.reduceLeDiff, Nat.zero_add, List.append_nil, if_true, true_and, ↓inScope_exit]
        refine ⟨⟨_, nl, without left b, _, u4, ([] : List Pc) ++ [⟨b, rp p, rp (cqI L (lists ws) p b)⟩], cqI L (lists ws) p b⟩, ⟨hks4.del _ _, ⟨D2, hki2⟩, by simp only; omega, ?_, ?_⟩, by simp [Has, rd_s, R, rp], rfl, by simp only; omega⟩
        · simp only
          rw [hkn, hwl, List.append_assoc]
          rfl
        · simp only [List.length_append, List.length_cons, List.length_nil]
          omega
      · obtain ⟨o, rfl⟩ : ∃ o, left = [o] := by
          match left, hl1, hl2 with
          | [o], _, _ => exact ⟨o, rfl⟩
          | _ :: _ :: _, _, h => simp at h
        have hl2' : ¬ ((1 : Int) < ((1 : Nat) : Int)) := by decide
        have hpre := hks.ot.pre
        have hls := hks.ot.ls
        have i0 := hls.idx (k := .i64) (i := 0) (by simp)
        have d0 := hls.ld0 (i := 0) (x := o) rfl 1 false (by decide)
        rw [show ((0 : Nat) : Int) = 0 from rfl] at i0
        rw [Nat.zero_mul, Nat.add_zero] at i0 d0
        have hlen1 := hls.len
        obtain ⟨u4, H4, happ, hks4, _⟩ := hks.push ⟨o, rp p, (L.sum, 1)⟩ (by have := hks.Kl; omega)
        have e5p : e5 ⟨o, rp p, (L.sum, 1)⟩ = [I o, I p.num, I (p.den : Int), I ((L.sum : Int) : Rat).num, I (((L.sum : Int) : Rat).den : Int)] := rfl
        rw [e5p] at happ
        clear hks hls
        generalize AV.sl 1 nl 0 [o].length false = vv at *
        simp (maxSteps := 4000000) -implicitDefEqProofs -dsimp (disch := omega) only [↓AW_skip, ↓AW_ops, ↓AW_seq, ↓AW_cond, ↓AOps_nil, ↓AOps_pu, ↓AOps_ld, ↓AOps_call, on_some, condB_f, ↓then_normal, pval, lval, rd_S, rd_C, put_S, chkd, bgot, partA, eq_self, mk, List.foldl_cons, List.foldl_nil, List.replicate_succ, List.replicate_zero, List.set_cons_zero, List.set_cons_succ, List.getElem?_cons_zero, List.getElem?_cons_succ, List.drop_zero, List.take_succ_cons, List.take_nil, Option.getD_some, map_c, map_n, List.length_cons, List.length_nil, Nat.reduceAdd, Nat.reduceLeDiff, Nat.reduceEqDiff, Nat.zero_add, bin_gtr, if_true, if_false, Bool.false_eq_true, decide_false, Go.Eng.e1, hlen1, hl2', i0, d0]
        refine CallK.of (c_end (y := y) (hL.mono hpre) hg) ?_
        simp (maxSteps := 4000000) -implicitDefEqProofs -dsimp (disch := omega) only [↓AOps_call, extK_same, rd_S, put_S, mk, List.foldl_cons, List.foldl_nil, List.replicate_succ, List.replicate_zero, List.set_cons_zero, List.set_cons_succ, List.getElem?_cons_zero, List.getElem?_cons_succ, Option.getD_some, map_c, map_n]
        refine CallK.of (s76 _ _) ?_
        simp (maxSteps := 4000000) -implicitDefEqProofs -dsimp (disch := omega) only [↓AW_ret, ↓AOps_nil, ↓AOps_pu, ↓AOps_ha, on_some, extK_false, extK_app, extK_same, ↓then_normal, ↓Fin_ret, pval, hval_blds, hval_app, rd_S, rd_C, put_S, resV, resL, cells_agg, cells_int, splice, fillA, repl, eq_self, mk, List.foldl_cons, List.foldl_nil, List.replicate_succ, List.replicate_zero, List.set_cons_zero, List.set_cons_succ, List.getElem?_cons_zero, List.getElem?_cons_succ, List.drop_zero, List.drop_succ_cons, List.drop_nil, List.take_zero, List.take_succ_cons, Option.getD_some, Option.map_some, map_c, map_n, List.length_cons, List.length_nil, Nat.reduceAdd, Nat.reduceLeDiff, Nat.zero_add, List.cons_append, List.nil_append, List.append_nil, if_true, and_true, ↓inScope_ret, R, happ]
        have hfin := hks4.acc
        have hkn3 : ([] : List Pc) ++ [⟨o, rp p, (L.sum, 1)⟩] = kn L (lists ws) (lists ws).length (rg0 (lists ws).length) p := by rw [hkn]; rfl
        rw [hkn3] at hfin
        exact hfin.gc2 flat_e5 (I 0) rfl
  · rintro ⟨H, nl, left, tl, u, K, p⟩ ⟨hks, ⟨D, hki⟩, hl1, hkn, hKl⟩
    simp only at hks hki hl1 hkn hKl
    by_cases hl2 : 1 < left.length
    · obtain ⟨a0, b0, l0, rfl⟩ : ∃ a b l, left = a :: b :: l := by
        match left, hl2 with
        | a :: b :: l, _ => exact ⟨a, b, l, rfl⟩
      generalize hleft : a0 :: b0 :: l0 = left at *
      have hl2' : (1 : Int) < left.length := by omega
      have hPl : ∀ row ∈ lists ws, Pl (L.zip row) p := fun row hr => Pl_of hg hr hki.p0 hki.p1 (by have := hki.den; omega)
      have hpre := hks.ot.pre
      have hL1 := hL.mono hpre
      have hV1 := hV.mono hpre
      have ham : a0 ∈ left := by rw [← hleft]; simp
      have hbm : bestF (cqI L (lists ws) p) a0 left ∈ left := by
        rcases bestF_mem (cqI L (lists ws) p) left a0 with h1 | h1
        · rw [h1]; exact ham
        · exact h1
      have hcal : ∀ i ∈ left, Sm (cqI L (lists ws) p i) ∧ ((cqs L (lists ws) p).map rp)[i.toNat]? = some (rp (cqI L (lists ws) p i)) ∧ 0 ≤ i := by
        intro i hi
        obtain ⟨c1, c2, _, v, hv, c4⟩ := hki.call hg (by omega) hi
        have hr := hki.rg i hi
        have hDv := hki.dvb (by omega) hv
        have hc2 : cqI L (lists ws) p i ≤ ((120 : Int) : Rat) := Rat.le_trans c2 (Rat.intCast_le_intCast.2 (by omega))
        refine ⟨Sm_of (M := 120) hDv.1 (by omega) (by omega) c4 (int_neg_le_zero (by omega) (Rat.le_trans hki.p0 c1)) hc2, ?_, hr.1⟩
        have hget : (lists ws)[i.toNat]? = some (lists ws)[i.toNat] := List.getElem?_eq_getElem (by omega)
        rw [List.getElem?_map]
        unfold cqs
        rw [List.getElem?_map, hget]
        simp only [Option.map_some]
        unfold cqI fOf rowOf
        rw [hget]
        rfl
      simp (maxSteps := 4000000) -implicitDefEqProofs -dsimp (disch := omega) only [↓AW_skip, ↓AW_ops, ↓AW_seq, ↓AW_cond, ↓AOps_nil, ↓AOps_pu, ↓AOps_call, on_some, condB_t, ↓then_normal, pval, rd_S, rd_C, put_S, chkd, bgot, partA, eq_self, mk, List.foldl_cons, List.foldl_nil, List.replicate_succ, List.replicate_zero, List.set_cons_zero, List.set_cons_succ, List.getElem?_cons_zero, List.getElem?_cons_succ, List.drop_zero, List.take_succ_cons, List.take_nil, Option.getD_some, map_c, map_n, List.length_cons, List.length_nil, Nat.reduceAdd, Nat.reduceLeDiff, Nat.reduceEqDiff, Nat.zero_add, bin_gtr, if_true, if_false, decide_true, hln, hl2']
      refine CallK.of (c_calls hL1 hV1 hg p hPl) ?_
      have hlv := Ls_out H e2_len ((cqs L (lists ws) p).map rp)
      have hlp := pre_out H (((cqs L (lists ws) p).map rp).flatMap e2) ((cqs L (lists ws) p).map rp).length
      have hnm : H.length ≤ nm (outV 2 H ((cqs L (lists ws) p).map rp).length) ∧ (outV 2 H ((cqs L (lists ws) p).map rp).length).cells? = some [outV 2 H ((cqs L (lists ws) p).map rp).length] := by
        have hcl : ((cqs L (lists ws) p).map rp).length = ws.length := by simp [cqs]
        unfold outV
        rw [if_neg (by omega)]
        exact ⟨Nat.le_refl _, rfl⟩
      generalize outV 2 H ((cqs L (lists ws) p).map rp).length = lv at *
      generalize outH H (((cqs L (lists ws) p).map rp).flatMap e2) ((cqs L (lists ws) p).map rp).length = H1 at *
      have hst1 : stA 1 (.ptr H1.length 0) lv (H1 ++ [.cells true [.nilS]]) = some (H1 ++ [.cells true [lv]]) := by simp [stA, hnm.2, splice]
      simp (maxSteps := 4000000) -implicitDefEqProofs -dsimp (disch := omega) only [↓AW_ops, ↓AW_seq, ↓AOps_nil, ↓AOps_pu, ↓AOps_ha, ↓AOps_call, on_some, extK_false, extK_app, ↓then_normal, pval, hval_st, hval_newv, rd_S, rd_C, put_S, putS_none, cells_nilS, mk, List.foldl_cons, List.foldl_nil, List.replicate_succ, List.replicate_zero, List.set_cons_zero, List.set_cons_succ, List.getElem?_cons_zero, List.getElem?_cons_succ, Option.getD_some, Option.map_some, map_c, map_n, hst1]
      have hp2 := pre_app H1 [AObj.cells true [lv]]
      have hld9 : ldA 1 false (.ptr H1.length 0) (H1 ++ [AObj.cells true [lv]]) = some lv := ld_new _ _ _
      have hlv2 := hlv.mono hp2
      have hks2 := hks.mono (hlp.trans hp2)
      generalize hH2 : H1 ++ [AObj.cells true [lv]] = H2 at *
      have hH2l : H1.length < H2.length := by rw [← hH2]; simp
      refine CallK.of (c_first (x0 := a0) hks2.ot.ls (by rw [← hleft]; rfl) (by omega) (a := H1.length) (cqI L (lists ws) p) (fun i hi => s84 hld9 hlv2 (hcal i hi).2.2 (hcal i hi).2.1) (fun i hi => (hcal i hi).1)) ?_
      have hkn2 : kn L (lists ws) left.length left p = ⟨bestF (cqI L (lists ws) p) a0 left, rp p, rp (cqI L (lists ws) p (bestF (cqI L (lists ws) p) a0 left))⟩ :: kn L (lists ws) (left.length - 1) (without left (bestF (cqI L (lists ws) p) a0 left)) (cqI L (lists ws) p (bestF (cqI L (lists ws) p) a0 left)) := by
        rw [← hleft]; rfl
      rw [hkn2] at hkn
      have hnext := hki.next hg (by omega) (bestF_le (cqI L (lists ws) p) left a0).2 hbm
      generalize bestF (cqI L (lists ws) p) a0 left = b at *
      obtain ⟨hsm, hget, hb0⟩ := hcal b hbm
      have hst2 : stA 1 (.ptr H2.length 0) (I b) (H2 ++ [.cells true [.int .i64 0]]) = some (H2 ++ [.cells true [I b]]) := by simp [stA, cells_int, splice]
      have hp3 := pre_app H2 [AObj.cells true [I b]]
      have hld10 : ldA 1 false (.ptr H2.length 0) (H2 ++ [AObj.cells true [I b]]) = some (I b) := ld_new _ _ _
      have hlv3 := hlv2.mono hp3
      have hks3 := hks2.mono hp3
      have hld9' : ldA 1 false (.ptr H1.length 0) (H2 ++ [AObj.cells true [I b]]) = some lv := by
        unfold ldA at hld9 ⊢
        simp only at hld9 ⊢
        rw [List.getElem?_append_left hH2l]; exact hld9
      have hgl := (List.getElem?_eq_some_iff.1 hget).1
      obtain ⟨u4, H4, happ, hks4, hfr4⟩ := hks3.push ⟨b, rp p, rp (cqI L (lists ws) p b)⟩ (by have := hks.Kl; omega)
      have hno : ∀ m, H.length ≤ m → ∀ no len, u = .sl 5 no 0 len false → m ≠ no := fun m hm no len hu => by have := hks.no_lt hu; omega
      have hf9 : H4[H1.length]? = (H2 ++ [AObj.cells true [I b]])[H1.length]? := hfr4 _ (by simp; omega) (hno _ hlp.length_le)
      have hf10 : H4[H2.length]? = (H2 ++ [AObj.cells true [I b]])[H2.length]? := hfr4 _ (by simp) (hno _ (by have := hlp.length_le; omega))
      have hld9b : ldA 1 false (.ptr H1.length 0) H4 = some lv := by
        unfold ldA at hld9' ⊢
        simp only at hld9' ⊢
        rw [hf9]; exact hld9'
      have hld10b : ldA 1 false (.ptr H2.length 0) H4 = some (I b) := by
        unfold ldA at hld10 ⊢
        simp only at hld10 ⊢
        rw [hf10]; exact hld10
      have hlv4 : L2 H4 lv ((cqs L (lists ws) p).map rp) := Ls_congr hlv3 (fun hne => hfr4 _ (Ls_lt hlv3 hne) (hno _ hnm.1))
      have e5p : e5 ⟨b, rp p, rp (cqI L (lists ws) p b)⟩ = [I b, I p.num, I (p.den : Int), I (rp (cqI L (lists ws) p b)).1, I (rp (cqI L (lists ws) p b)).2] := rfl
      rw [e5p] at happ
      simp (maxSteps := 4000000) -implicitDefEqProofs -dsimp (disch := omega) only [↓AW_ops, ↓AW_seq, ↓AOps_nil, ↓AOps_pu, ↓AOps_ld, ↓AOps_ha, ↓AOps_call, on_some, extK_false, extK_app, extK_same, ↓then_normal, pval, lval, hval_st, hval_newv, hval_blds, hval_app, rd_S, rd_C, put_S, putS_none, chkd, bput, bgot, cells_agg, cells_int, splice, partA, fillA, repl, eq_self, mk, List.foldl_cons, List.foldl_nil, List.replicate_succ, List.replicate_zero, List.set_cons_zero, List.set_cons_succ, List.getElem?_cons_zero, List.getElem?_cons_succ, List.drop_zero, List.drop_succ_cons, List.drop_nil, List.take_zero, List.take_succ_cons, List.take_nil, Option.getD_some, Option.map_some, map_c, map_n, List.length_cons, List.length_nil, Nat.reduceAdd, Nat.reduceLeDiff, Nat.reduceEqDiff, Nat.zero_add, List.cons_append, List.nil_append, List.append_nil, if_true, if_false, Go.Eng.e2, and_true, ne_eq, not_true_eq_false, hst2, hld10, hld9', hlv3.idxI hb0 (by omega : b < ((cqs L (lists ws) p).map rp).length), hlv3.ld0 hget 2 true (by decide), R, happ, hld9b, hld10b, hlv4.ld0 hget 2 true (by decide)]
      have hne10 : H2.length ≠ nl := by
        have := hks.ot.lt
        have := hlp.length_le
        omega
      refine CallK.of (c_del hks4.ot (by omega) hne10 hld10b hbm) ?_
      obtain ⟨D2, hki2, hwl⟩ := hnext
      simp (maxSteps := 4000000) -implicitDefEqProofs -dsimp (disch := omega) only [↓AW_exit, ↓AOps_nil, ↓AOps_pu, on_some, extK_false, ↓then_normal, ↓then_exit, pval, rd_S, put_S, putS_none, eq_self, mk, List.foldl_cons, List.foldl_nil, List.replicate_succ, List.replicate_zero, List.set_cons_zero, List.set_cons_succ, List.getElem?_cons_zero, List.getElem?_cons_succ, Option.getD_some, List.length_cons, List.length_nil, Nat.reduceAdd, Nat.reduceLeDiff, Nat.zero_add, if_true, true_and, ↓inScope_exit]
      refine ⟨⟨_, nl, without left b, _, u4, K ++ [⟨b, rp p, rp (cqI L (lists ws) p b)⟩], cqI L (lists ws) p b⟩, ⟨hks4.del _ _, ⟨D2, hki2⟩, by simp only; omega, ?_, ?_⟩, by simp [Has, rd_s, R, rp], rfl, by simp only; omega⟩
      · simp only
        rw [hkn, hwl, List.append_assoc]
        rfl
      · simp only [List.length_append, List.length_cons, List.length_nil]
        omega
    · obtain ⟨o, rfl⟩ : ∃ o, left = [o] := by
        match left, hl1, hl2 with
        | [o], _, _ => exact ⟨o, rfl⟩
        | _ :: _ :: _, _, h => simp at h
      have hl2' : ¬ ((1 : Int) < ((1 : Nat) : Int)) := by decide
      have hpre := hks.ot.pre
      have hls := hks.ot.ls
      have i0 := hls.idx (k := .i64) (i := 0) (by simp)
      have d0 := hls.ld0 (i := 0) (x := o) rfl 1 false (by decide)
      rw [show ((0 : Nat) : Int) = 0 from rfl] at i0
      rw [Nat.zero_mul, Nat.add_zero] at i0 d0
      have hlen1 := hls.len
      obtain ⟨u4, H4, happ, hks4, _⟩ := hks.push ⟨o, rp p, (L.sum, 1)⟩ (by have := hks.Kl; omega)
      have e5p : e5 ⟨o, rp p, (L.sum, 1)⟩ = [I o, I p.num, I (p.den : Int), I ((L.sum : Int) : Rat).num, I (((L.sum : Int) : Rat).den : Int)] := rfl
      rw [e5p] at happ
      clear hks hls
      generalize AV.sl 1 nl 0 [o].length false = vv at *
      simp (maxSteps := 4000000) -implicitDefEqProofs -dsimp (disch := omega) only [↓AW_skip, ↓AW_ops, ↓AW_seq, ↓AW_cond, ↓AOps_nil, ↓AOps_pu, ↓AOps_ld, ↓AOps_call, on_some, condB_f, ↓then_normal, pval, lval, rd_S, rd_C, put_S, chkd, bgot, partA, eq_self, mk, List.foldl_cons, List.foldl_nil, List.replicate_succ, List.replicate_zero, List.set_cons_zero, List.set_cons_succ, List.getElem?_cons_zero, List.getElem?_cons_succ, List.drop_zero, List.take_succ_cons, List.take_nil, Option.getD_some, map_c, map_n, List.length_cons, List.length_nil, Nat.reduceAdd, Nat.reduceLeDiff, Nat.reduceEqDiff, Nat.zero_add, bin_gtr, if_true, if_false, Bool.false_eq_true, decide_false, Go.Eng.e1, hlen1, hl2', i0, d0]
      refine CallK.of (c_end (y := y) (hL.mono hpre) hg) ?_
      simp (maxSteps := 4000000) -implicitDefEqProofs -dsimp (disch := omega) only [↓AOps_call, extK_same, rd_S, put_S, mk, List.foldl_cons, List.foldl_nil, List.replicate_succ, List.replicate_zero, List.set_cons_zero, List.set_cons_succ, List.getElem?_cons_zero, List.getElem?_cons_succ, Option.getD_some, map_c, map_n]
      refine CallK.of (s76 _ _) ?_
      simp (maxSteps := 4000000) -implicitDefEqProofs -dsimp (disch := omega) only [↓AW_ret, ↓AOps_nil, ↓AOps_pu, ↓AOps_ha, on_some, extK_false, extK_app, extK_same, ↓then_normal, ↓Fin_ret, pval, hval_blds, hval_app, rd_S, rd_C, put_S, resV, resL, cells_agg, cells_int, splice, fillA, repl, eq_self, mk, List.foldl_cons, List.foldl_nil, List.replicate_succ, List.replicate_zero, List.set_cons_zero, List.set_cons_succ, List.getElem?_cons_zero, List.getElem?_cons_succ, List.drop_zero, List.drop_succ_cons, List.drop_nil, List.take_zero, List.take_succ_cons, Option.getD_some, Option.map_some, map_c, map_n, List.length_cons, List.length_nil, Nat.reduceAdd, Nat.reduceLeDiff, Nat.zero_add, List.cons_append, List.nil_append, List.append_nil, if_true, and_true, ↓inScope_ret, R, happ]
      have hfin := hks4.acc
      have hkn3 : K ++ [⟨o, rp p, (L.sum, 1)⟩] = kn L (lists ws) (lists ws).length (rg0 (lists ws).length) ((0 : Int) : Rat) := by rw [hkn]; rfl
      rw [hkn3] at hfin
      exact hfin.gc2 flat_e5 (I 0) rfl
end
end Go.Proofs.Ytmblehbjedpjoaa

namespace Go.Proofs.Ytmblehbjedpjoaa
open Go Go.Eng
/-- The best one so far. -/
def bst (c : Int → Rat) : Option Int → List Int → Option Int
  | cur, [] => cur
  | none, i :: l => bst c (some i) l
  | some out, i :: l => bst c (some (if c i < c out then i else out)) l
theorem bst_some (c : Int → Rat) : ∀ (l : List Int) (out : Int), bst c (some out) l = some (bestF c out l)
  | [], _ => rfl
  | i :: l, out => by rw [bst, bst_some c l, bestF]
theorem bst_none (c : Int → Rat) (a : Int) (l : List Int) : bst c none (a :: l) = some (bestF c a (a :: l)) := by
  rw [bst, bst_some, bestF, if_neg (Rat.not_lt.2 Rat.le_refl)]
/-- Those who are left, in order. -/
def Ord (n : Nat) (left : List Int) : Prop := left = (rg0 n).filter (fun o => decide (o ∈ left))
theorem Ord.without {n : Nat} {left : List Int} (h : Ord n left) (b : Int) : Ord n (without left b) := by
  unfold Ord at h ⊢
  have e : ∀ o, o ∈ Go.Proofs.Ytmblehbjedpjoaa.without left b ↔ o ∈ left ∧ o ≠ b := by
    intro o
    unfold Go.Proofs.Ytmblehbjedpjoaa.without
    rw [List.mem_filter]
    simp
  have h2 : Go.Proofs.Ytmblehbjedpjoaa.without left b = ((rg0 n).filter (fun o => decide (o ∈ left))).filter (fun x => !decide (x = b)) := by
    conv => lhs; rw [h]
    rfl
  rw [h2, List.filter_filter]
  refine List.filter_congr (fun o ho => ?_)
  simp only [List.mem_filter, ho, true_and]
  simp
def blG (n : Nat) (left : List Int) : List Bool := (List.range n).map (fun (o : Nat) => decide (¬ (o : Int) ∈ left))
section
variable {L : List Int} {ws : List (AV × List Int)} {x y : AV} {A : AHeap}
/-- Where one of those who are left would cut. -/
def plI (L : List Int) (V : List (List Int)) (left : List Int) (p : Rat) (o : Int) : Rat := if 1 < left.length then cqI L V p o else ((L.sum : Int) : Rat)
theorem plI_Sm {V : List (List Int)} (hg : KG L V) {left : List Int} {p : Rat} {D : Int} (h : KI L V left p D) {o : Int} (ho : o ∈ left) : Sm (plI L V left p o) := by
  have hLs := hg.sum
  unfold plI
  split
  · rename_i hl
    obtain ⟨c1, c2, _, v, hv, c4⟩ := h.call hg (by omega) ho
    have hDv := h.dvb (by omega) hv
    exact Sm_of (M := 120) hDv.1 (by omega) (by omega) c4 (int_neg_le_zero (by omega) (Rat.le_trans h.p0 c1)) (Rat.le_trans c2 (Rat.intCast_le_intCast.2 (by omega)))
  · exact Sm_int (by omega)
/-- One step of the knife. -/
theorem kn_step {V : List (List Int)} {left : List Int} {p : Rat} {b : Int} (hl : 1 ≤ left.length) (hb : bst (plI L V left p) none left = some b) :
    b ∈ left ∧ kn L V left.length left p = ⟨b, rp p, rp (plI L V left p b)⟩ :: (if 1 < left.length then kn L V (left.length - 1) (without left b) (plI L V left p b) else []) ∧ (1 < left.length → ∀ i ∈ left, cqI L V p b ≤ cqI L V p i) := by
  match left, hl with
  | [o], _ =>
    have : b = o := by
      rw [bst_none] at hb
      have := Option.some.inj hb
      rw [← this, bestF, bestF]
      split <;> rfl
    subst this
    exact ⟨by simp, rfl, fun h => by simp at h⟩
  | a :: c :: l, _ =>
    rw [bst_none] at hb
    have hb := Option.some.inj hb
    have h1 : 1 < (a :: c :: l).length := by simp
    have hpl : plI L V (a :: c :: l) p = cqI L V p := by
      funext o
      unfold plI
      rw [if_pos h1]
    rw [hpl] at hb ⊢
    subst hb
    refine ⟨?_, ?_, fun _ => (bestF_le _ _ _).2⟩
    · rcases bestF_mem (cqI L V p) (a :: c :: l) a with h2 | h2
      · rw [h2]; simp
      · exact h2
    · rw [if_pos h1]; rfl
theorem ord_drop {n : Nat} {left : List Int} {o : Nat} (ho : o < n) : ((rg0 n).drop o).filter (fun o => decide (o ∈ left)) = (if (o : Int) ∈ left then [(o : Int)] else []) ++ ((rg0 n).drop (o + 1)).filter (fun o => decide (o ∈ left)) := by
  have hg : (rg0 n)[o]? = some (o : Int) := by
    unfold rg0
    rw [List.getElem?_map, List.getElem?_range ho]; rfl
  have hlt : o < (rg0 n).length := (List.getElem?_eq_some_iff.1 hg).1
  have hd : (rg0 n).drop o = (o : Int) :: (rg0 n).drop (o + 1) := by
    have := (List.getElem?_eq_some_iff.1 hg).2
    rw [← this]; exact List.drop_eq_getElem_cons hlt
  rw [hd, List.filter_cons]
  by_cases h : (o : Int) ∈ left <;> simp [h]
def curN (cur : Option Int) : Int := match cur with | some b => b | none => -1
def curQ (L : List Int) (c : Int → Rat) (cur : Option Int) : Rat := match cur with | some b => c b | none => ((L.sum : Int) : Rat)
set_option maxRecDepth 20000 in
set_option maxHeartbeats 8000000 in
theorem s33 (hL : L1 A x L) (hV : LL A y ws) (hs : Sz L ws) (hg : KG L (lists ws)) :
    ACalls Try.prog 33 [.agg [x, y]] A (.tuple [outV 5 A (knE L (lists ws)).length, I 0]) (outH A ((knE L (lists ws)).flatMap e5) (knE L (lists ws)).length) := by
  refine acalls hmix Try.func33 (by kernel_rfl) t33 1 rfl (by decide) ?_
  have hv1 := hg.v1
  have hv5 := hg.v5
  have hLs := hg.sum
  have hll : (lists ws).length = ws.length := by simp
  have h0 := hg.e
  have hrl : (rg0 ws.length).length = ws.length := by simp [rg0]
  have hmk : (0 : Int) ≤ ws.length ∧ (ws.length : Int) ≤ ((lim : Nat) : Int) := by unfold lim; omega
  have hmk1 : ((ws.length : Int) ≤ ws.length) := Int.le_refl _
  dsimp only [m33]
  simp (maxSteps := 4000000) -implicitDefEqProofs -dsimp (disch := omega) only [↓AW_ops, ↓AW_seq, ↓AOps_nil, ↓AOps_pu, ↓AOps_call, on_some, ↓then_normal, pval, rd_S, rd_C, put_S, chkd, bgot, cells_agg, partA, eq_self, List.replicate_succ, List.replicate_zero, List.set_cons_zero, List.set_cons_succ, List.getElem?_cons_zero, List.getElem?_cons_succ, List.drop_zero, List.take_succ_cons, List.take_nil, Option.getD_some, map_c, map_n, List.length_cons, List.length_nil, Nat.reduceAdd, Nat.reduceSub, Nat.reduceLeDiff, Nat.reduceEqDiff, Nat.zero_add, List.cons_append, List.nil_append, if_true, if_false]
  refine CallK.of (s27 hL hV hs.l hs.v hs.w) ?_
  simp (maxSteps := 4000000) -implicitDefEqProofs -dsimp (disch := omega) only [↓AW_skip, ↓AW_ops, ↓AW_seq, ↓AW_cond, ↓AOps_nil, ↓AOps_pu, ↓AOps_ha, ↓AOps_call, on_some, extK_app, extK_same, condB_f, ↓then_normal, pval, hval_mks, rd_S, rd_C, put_S, chkd, isAdr, bgot, cells_agg, partA, beq_self_eq_true, eq_self, List.replicate_succ, List.replicate_zero, List.set_cons_zero, List.set_cons_succ, List.getElem?_cons_zero, List.getElem?_cons_succ, List.drop_zero, List.drop_succ_cons, List.take_succ_cons, List.take_nil, Option.getD_some, map_c, map_n, List.length_cons, List.length_nil, Nat.reduceAdd, Nat.reduceSub, Nat.reduceLeDiff, Nat.zero_add, List.cons_append, List.nil_append, bin_neq, if_true, if_false, Bool.false_eq_true, decide_false, and_true, not_true_eq_false, h0, hV.ls.len, hmk, hmk1, Int.toNat_natCast]
  refine CallK.of (s36 _ _) ?_
  simp (maxSteps := 4000000) -implicitDefEqProofs -dsimp (disch := omega) only [↓AW_ops, ↓AW_seq, ↓AW_block, ↓AOps_nil, ↓AOps_pu, on_some, extK_same, ↓then_normal, pval, rd_S, rd_C, put_S, ↓AW_toLoop, chkd, isAdr, bput, bgot, cells_agg, splice, partA, eq_self, List.replicate_succ, List.replicate_zero, List.set_cons_zero, List.set_cons_succ, List.getElem?_cons_zero, List.getElem?_cons_succ, List.drop_zero, List.drop_succ_cons, List.drop_nil, List.take_zero, List.take_succ_cons, List.take_nil, Option.getD_some, List.length_cons, List.length_nil, Nat.reduceAdd, Nat.reduceSub, Nat.reduceLeDiff, Nat.zero_add, List.cons_append, List.nil_append, List.append_nil, if_true, if_false, Bool.false_eq_true, ne_eq, not_true_eq_false, hV.ls.len]
  rw [repl_eb]
  have hki0 := KI.start hg
  rw [hll] at hki0
  have hblz : blG ws.length (rg0 ws.length) = List.replicate ws.length false := by
    unfold blG
    apply List.ext_getElem
    · simp
    · intro i h1 h2
      simp only [List.length_map, List.length_range] at h1
      have hm : (i : Int) ∈ rg0 ws.length := List.mem_map.2 ⟨i, List.mem_range.2 h1, rfl⟩
      simp [hm]
  rw [← hblz]
  have hord0 : Ord ws.length (rg0 ws.length) := by
    unfold Ord
    rw [List.filter_eq_self.2 (fun o ho => by simpa using ho)]
  unfold knE
  refine LoopK.by 72 (fun s : KSt => (s.left = [] ∨ ∃ D, KI L (lists ws) s.left s.p D) ∧ Ord ws.length s.left ∧ kn L (lists ws) (lists ws).length (rg0 (lists ws).length) ((0 : Int) : Rat) = s.K ++ kn L (lists ws) s.left.length s.left s.p ∧ s.K.length + s.left.length = ws.length ∧ AccL 5 e5 (A ++ [.cells true ((blG ws.length s.left).flatMap eb)]) s.H s.u s.K)
    (fun s => [(1, .agg [x, y]), (5, .sl 1 A.length 0 ws.length true), (6, R s.p), (7, s.u), (8, I s.left.length)]) (fun s => s.H) (fun s => s.left.length)
    ⟨_, 0, rg0 ws.length, [], .nilS, [], ((0 : Int) : Rat)⟩ ⟨.inr ⟨_, hki0⟩, hord0, by rw [hll]; simp [hrl], by simpa using hrl, AccL.nil (List.prefix_refl _)⟩ rfl (by simp [Has, rd_s, hrl]) rfl ?_
  rintro ⟨H, _, left, _, u, K, p⟩ ⟨hki, hord, hkn, hKl, hacc⟩
  simp only at hki hord hkn hKl hacc
  have hpre : A <+: H := (pre_app _ _).trans hacc.pre
  have hL1 := hL.mono hpre
  have hV1 := hV.mono hpre
  by_cases hl0 : left = []
  · subst hl0
    have hacc2 := AccL_base (pre_app _ _) hacc
    have hkn3 : kn L (lists ws) (lists ws).length (rg0 (lists ws).length) ((0 : Int) : Rat) = K := by rw [hkn]; simp [kn]
    rw [hkn3]
    simp (maxSteps := 4000000) -implicitDefEqProofs -dsimp (disch := omega) only [↓AW_ops, ↓AW_seq, ↓AW_cond, ↓AW_exit, ↓AW_ret, ↓AOps_nil, ↓AOps_pu, on_some, condB_f, ↓then_normal, ↓then_exit, ↓inBlock_exit, ↓Fin_ret, pval, rd_S, rd_C, put_S, resV, resL, eq_self, mk, List.foldl_cons, List.foldl_nil, List.replicate_succ, List.replicate_zero, List.set_cons_zero, List.set_cons_succ, List.getElem?_cons_zero, List.getElem?_cons_succ, Option.getD_some, List.length_nil, bin_gtr, if_true, decide_false, List.length_nil, show ¬ ((0 : Int) < ((0 : Nat) : Int)) by decide]
    exact hacc2.gc2 flat_e5 (I 0) rfl
  obtain ⟨D, hki⟩ := hki.resolve_left hl0
  have hl1 : 1 ≤ left.length := by
    rcases left with _ | ⟨a, l⟩
    · exact absurd rfl hl0
    · simp
  have hlp : (0 : Int) < left.length := by omega
  have hPl : ∀ row ∈ lists ws, Pl (L.zip row) p := fun row hr => Pl_of hg hr hki.p0 hki.p1 (by have := hki.den; omega)
  have hbll : (blG ws.length left).length = ws.length := by simp [blG]
  have hOL : OL 1 eb A H A.length (.sl 1 A.length 0 ws.length true) (blG ws.length left) := ⟨eb_len, hpre, Nat.le_refl _, pre_get hacc.pre (by simp), true, by rw [hbll]⟩
  have hcS : ∀ o ∈ left, Sm (plI L (lists ws) left p o) := fun o ho => plI_Sm hg hki ho
  simp (maxSteps := 4000000) -implicitDefEqProofs -dsimp (disch := omega) only [↓AW_skip, ↓AW_ops, ↓AW_seq, ↓AW_cond, ↓AW_block, ↓AOps_nil, ↓AOps_pu, ↓AOps_call, on_some, condB_t, ↓then_normal, pval, rd_S, rd_C, put_S, chkd, bgot, partA, eq_self, mk, List.foldl_cons, List.foldl_nil, List.replicate_succ, List.replicate_zero, List.set_cons_zero, List.set_cons_succ, List.getElem?_cons_zero, List.getElem?_cons_succ, List.drop_zero, List.take_succ_cons, List.take_nil, Option.getD_some, map_c, map_n, List.length_cons, List.length_nil, Nat.reduceAdd, Nat.reduceLeDiff, Nat.reduceEqDiff, Nat.zero_add, bin_gtr, if_true, if_false, decide_true, hlp]
  refine CallK.of (c_rend hL1 hV1 hg) ?_
  simp (maxSteps := 4000000) -implicitDefEqProofs -dsimp (disch := omega) only [↓AW_ops, ↓AW_seq, ↓AW_block, ↓AOps_nil, ↓AOps_pu, on_some, extK_same, ↓then_normal, pval, rd_S, rd_C, put_S, ↓AW_toLoop, chkd, bput, cells_agg, splice, eq_self, mk, List.foldl_cons, List.foldl_nil, List.replicate_succ, List.replicate_zero, List.set_cons_zero, List.set_cons_succ, List.getElem?_cons_zero, List.getElem?_cons_succ, List.drop_succ_cons, List.drop_nil, List.take_zero, Option.getD_some, List.length_cons, List.length_nil, Nat.reduceAdd, Nat.reduceLeDiff, Nat.zero_add, List.nil_append, List.append_nil, if_true, if_false, ne_eq, not_true_eq_false, Int.reduceNeg]
  refine LoopK.by 72 (fun s : Nat × Option Int => s.1 ≤ ws.length ∧ (∀ b, s.2 = some b → b ∈ left) ∧ bst (plI L (lists ws) left p) none left = bst (plI L (lists ws) left p) s.2 (((rg0 ws.length).drop s.1).filter (fun o => decide (o ∈ left))))
    (fun s => [(1, .agg [x, y]), (5, .sl 1 A.length 0 ws.length true), (6, R p), (7, u), (8, I left.length), (9, I (curN s.2)), (10, R (curQ L (plI L (lists ws) left p) s.2)), (11, I s.1)]) (fun _ => H) (fun s => ws.length - s.1)
    (0, none) ⟨by simp only; omega, fun b hb => by simp at hb, by rw [List.drop_zero]; rw [← hord]⟩ rfl (by simp [Has, rd_s, curN, curQ]) rfl ?_
  rintro ⟨o, cur⟩ ⟨ho, hcm, hb⟩
  simp only at ho hcm hb
  by_cases hlt : o < ws.length
  · have hlt' : (o : Int) < ws.length := by omega
    have hob : (blG ws.length left)[o]? = some (decide (¬ (o : Int) ∈ left)) := by
      unfold blG
      rw [List.getElem?_map, List.getElem?_range hlt]; rfl
    have hidx := hOL.ls.idx (k := .i64) (i := o) (by omega)
    have hld := hOL.ls.ld0 hob 1 false (by decide)
    rw [ord_drop hlt] at hb
    by_cases hin : (o : Int) ∈ left
    · have hdf : decide (¬ (o : Int) ∈ left) = false := by simp [hin]
      rw [hdf] at hld
      rw [if_pos hin] at hb
      obtain ⟨w, hw⟩ : ∃ w, ws[o]? = some w := ⟨_, List.getElem?_eq_getElem hlt⟩
      have hmr := mem_lists (List.mem_of_getElem? hw)
      have hcall := c_call hL1 hV1 hg hw p (hPl _ hmr)
      have hcq : cq (L.zip w.2) p ws.length = cqI L (lists ws) p o := by unfold cqI fOf; rw [rowOf_at hw, hll]
      rw [hcq] at hcall
      have hstep : ∀ H2 : Prop, H2 → H2 := fun _ h => h
      by_cases hl2 : 1 < left.length
      · have hl2' : (1 : Int) < left.length := by omega
        have hpo : plI L (lists ws) left p o = cqI L (lists ws) p o := by unfold plI; rw [if_pos hl2]
        simp (maxSteps := 4000000) -implicitDefEqProofs -dsimp (disch := omega) only [↓AW_skip, ↓AW_ops, ↓AW_seq, ↓AW_cond, ↓AW_block, ↓AOps_nil, ↓AOps_pu, ↓AOps_ld, ↓AOps_call, on_some, condB_t, condB_f, ↓then_normal, pval, lval, rd_S, put_S, chkd, isAdr, bgot, cells_agg, partA, eq_self, mk, List.foldl_cons, List.foldl_nil, List.replicate_succ, List.replicate_zero, List.set_cons_zero, List.set_cons_succ, List.getElem?_cons_zero, List.getElem?_cons_succ, List.drop_zero, List.drop_succ_cons, List.take_succ_cons, List.take_nil, Option.getD_some, map_c, map_n, List.length_cons, List.length_nil, Nat.reduceAdd, Nat.reduceLeDiff, Nat.reduceEqDiff, Nat.zero_add, bin_lss, if_true, if_false, Bool.false_eq_true, decide_true, hlt', hV1.ls.len, hidx, hld, eb]
        refine CallK.of (c_rend hL1 hV1 hg) ?_
        simp (maxSteps := 4000000) -implicitDefEqProofs -dsimp (disch := omega) only [↓AW_ops, ↓AW_seq, ↓AW_cond, ↓AOps_nil, ↓AOps_pu, ↓AOps_call, on_some, extK_same, condB_t, ↓then_normal, pval, rd_S, rd_C, put_S, chkd, bput, bgot, cells_agg, splice, partA, eq_self, mk, List.foldl_cons, List.foldl_nil, List.replicate_succ, List.replicate_zero, List.set_cons_zero, List.set_cons_succ, List.getElem?_cons_zero, List.getElem?_cons_succ, List.drop_zero, List.drop_succ_cons, List.drop_nil, List.take_zero, List.take_succ_cons, List.take_nil, Option.getD_some, map_c, map_n, List.length_cons, List.length_nil, Nat.reduceAdd, Nat.reduceLeDiff, Nat.reduceEqDiff, Nat.zero_add, List.nil_append, List.append_nil, bin_gtr, if_true, if_false, decide_true, ne_eq, not_true_eq_false, hl2']
        refine CallK.of hcall ?_
        rw [← hpo]
        cases cur with
        | none =>
          simp (maxSteps := 4000000) -implicitDefEqProofs -dsimp (disch := omega) only [↓AW_ops, ↓AW_seq, ↓AW_cond, ↓AOps_nil, ↓AOps_pu, ↓AOps_guard, on_some, extK_same, guardB_tf, skipS_some, condB_t, ↓then_normal, ↓inBlock_normal, pval, rd_S, rd_C, put_S, chkd, bput, bgot, cells_agg, splice, partA, eq_self, mk, List.foldl_cons, List.foldl_nil, List.replicate_succ, List.replicate_zero, List.set_cons_zero, List.set_cons_succ, List.getElem?_cons_zero, List.getElem?_cons_succ, List.drop_zero, List.drop_succ_cons, List.drop_nil, List.take_zero, List.take_succ_cons, List.take_nil, Option.getD_some, List.length_cons, List.length_nil, Nat.reduceAdd, Nat.reduceLeDiff, Nat.reduceEqDiff, Nat.zero_add, List.nil_append, List.append_nil, bin_add, bin_lss, w64, if_true, if_false, decide_true, true_and, ne_eq, not_true_eq_false, Int.reduceNeg, curN, curQ, show ((-1 : Int) < 0) by decide]
          refine ⟨(o + 1, some (o : Int)), ⟨hlt, fun b hb' => by cases hb'; exact hin, hb⟩, by simp [Has, rd_s], by simp only; omega⟩
        | some b =>
          have hbm := hcm b rfl
          have hb0 := (hki.rg b hbm).1
          have hbn : ¬ b < 0 := by omega
          simp (maxSteps := 4000000) -implicitDefEqProofs -dsimp (disch := omega) only [↓AW_ops, ↓AW_seq, ↓AOps_nil, ↓AOps_pu, ↓AOps_call, ↓AOps_guard, on_some, extK_same, guardB_ff, ↓then_normal, pval, rd_S, rd_C, put_S, chkd, bput, bgot, cells_agg, splice, partA, eq_self, mk, List.foldl_cons, List.foldl_nil, List.replicate_succ, List.replicate_zero, List.set_cons_zero, List.set_cons_succ, List.getElem?_cons_zero, List.getElem?_cons_succ, List.drop_zero, List.drop_succ_cons, List.drop_nil, List.take_zero, List.take_succ_cons, List.take_nil, Option.getD_some, map_c, map_n, List.length_cons, List.length_nil, Nat.reduceAdd, Nat.reduceLeDiff, Nat.reduceEqDiff, Nat.zero_add, List.nil_append, List.append_nil, bin_lss, if_true, if_false, decide_false, ne_eq, not_true_eq_false, curN, curQ, hbn]
          refine CallK.of (s19 _ _ _ (hcS _ hin) (hcS _ hbm)) ?_
          rw [List.singleton_append, bst] at hb
          by_cases hc : plI L (lists ws) left p o < plI L (lists ws) left p b
          · rw [if_pos hc] at hb
            simp (maxSteps := 4000000) -implicitDefEqProofs -dsimp (disch := omega) only [↓AW_ops, ↓AW_seq, ↓AW_cond, ↓AOps_nil, ↓AOps_pu, on_some, extK_same, condB_t, ↓then_normal, ↓inBlock_normal, pval, rd_S, rd_C, put_S, chkd, bput, bgot, cells_agg, splice, partA, eq_self, mk, List.foldl_cons, List.foldl_nil, List.replicate_succ, List.replicate_zero, List.set_cons_zero, List.set_cons_succ, List.getElem?_cons_zero, List.getElem?_cons_succ, List.drop_zero, List.drop_succ_cons, List.drop_nil, List.take_zero, List.take_succ_cons, List.take_nil, Option.getD_some, List.length_cons, List.length_nil, Nat.reduceAdd, Nat.reduceLeDiff, Nat.reduceEqDiff, Nat.zero_add, List.nil_append, List.append_nil, bin_add, w64, if_true, if_false, Bool.false_eq_true, decide_true, true_and, ne_eq, not_true_eq_false, Int.reduceNeg, curN, curQ, hc]
            exact ⟨(o + 1, some (o : Int)), ⟨hlt, fun b' hb' => by cases hb'; exact hin, hb⟩, by simp [Has, rd_s], by simp only; omega⟩
          · rw [if_neg hc] at hb
            simp (maxSteps := 4000000) -implicitDefEqProofs -dsimp (disch := omega) only [↓AW_skip, ↓AW_ops, ↓AW_cond, ↓AOps_nil, ↓AOps_pu, on_some, extK_same, condB_f, ↓then_normal, ↓inBlock_normal, pval, rd_S, rd_C, put_S, eq_self, mk, List.foldl_cons, List.foldl_nil, List.replicate_succ, List.replicate_zero, List.set_cons_zero, List.set_cons_succ, List.getElem?_cons_zero, List.getElem?_cons_succ, Option.getD_some, List.length_cons, List.length_nil, Nat.reduceAdd, Nat.zero_add, bin_add, w64, if_false, Bool.false_eq_true, decide_false, true_and, Int.reduceNeg, curN, curQ, hc]
            exact ⟨(o + 1, some b), ⟨hlt, fun b' hb' => by cases hb'; exact hbm, hb⟩, by simp [Has, rd_s], by simp only; omega⟩
      · have hl2' : ¬ (1 : Int) < left.length := by omega
        have hpo : ∀ b, plI L (lists ws) left p b = ((L.sum : Int) : Rat) := fun b => by unfold plI; rw [if_neg hl2]
        simp (maxSteps := 4000000) -implicitDefEqProofs -dsimp (disch := omega) only [↓AW_skip, ↓AW_ops, ↓AW_seq, ↓AW_cond, ↓AW_block, ↓AOps_nil, ↓AOps_pu, ↓AOps_ld, ↓AOps_call, on_some, condB_t, condB_f, ↓then_normal, pval, lval, rd_S, put_S, chkd, isAdr, bgot, cells_agg, partA, eq_self, mk, List.foldl_cons, List.foldl_nil, List.replicate_succ, List.replicate_zero, List.set_cons_zero, List.set_cons_succ, List.getElem?_cons_zero, List.getElem?_cons_succ, List.drop_zero, List.drop_succ_cons, List.take_succ_cons, List.take_nil, Option.getD_some, map_c, map_n, List.length_cons, List.length_nil, Nat.reduceAdd, Nat.reduceLeDiff, Nat.reduceEqDiff, Nat.zero_add, bin_lss, if_true, if_false, Bool.false_eq_true, decide_true, hlt', hV1.ls.len, hidx, hld, eb]
        refine CallK.of (c_rend hL1 hV1 hg) ?_
        simp (maxSteps := 4000000) -implicitDefEqProofs -dsimp (disch := omega) only [↓AW_skip, ↓AW_ops, ↓AW_seq, ↓AW_cond, ↓AOps_nil, ↓AOps_pu, ↓AOps_guard, on_some, extK_same, condB_f, ↓then_normal, pval, rd_S, rd_C, put_S, chkd, bput, cells_agg, splice, eq_self, mk, List.foldl_cons, List.foldl_nil, List.replicate_succ, List.replicate_zero, List.set_cons_zero, List.set_cons_succ, List.getElem?_cons_zero, List.getElem?_cons_succ, List.drop_succ_cons, List.drop_nil, List.take_zero, Option.getD_some, List.length_cons, List.length_nil, Nat.reduceAdd, Nat.reduceLeDiff, Nat.zero_add, List.nil_append, List.append_nil, bin_lss, bin_gtr, if_true, if_false, decide_false, ne_eq, not_true_eq_false, hl2']
        cases cur with
        | none =>
          simp (maxSteps := 4000000) -implicitDefEqProofs -dsimp (disch := omega) only [↓AW_ops, ↓AW_seq, ↓AW_cond, ↓AOps_nil, ↓AOps_pu, ↓AOps_guard, on_some, guardB_tf, skipS_some, condB_t, ↓then_normal, ↓inBlock_normal, pval, rd_S, rd_C, put_S, chkd, bput, bgot, cells_agg, splice, partA, eq_self, mk, List.foldl_cons, List.foldl_nil, List.replicate_succ, List.replicate_zero, List.set_cons_zero, List.set_cons_succ, List.getElem?_cons_zero, List.getElem?_cons_succ, List.drop_zero, List.drop_succ_cons, List.drop_nil, List.take_zero, List.take_succ_cons, List.take_nil, Option.getD_some, List.length_cons, List.length_nil, Nat.reduceAdd, Nat.reduceLeDiff, Nat.reduceEqDiff, Nat.zero_add, List.nil_append, List.append_nil, bin_add, w64, if_true, if_false, decide_true, true_and, ne_eq, not_true_eq_false, Int.reduceNeg, curN, curQ, show ((-1 : Int) < 0) by decide]
          refine ⟨(o + 1, some (o : Int)), ⟨hlt, fun b hb' => by cases hb'; exact hin, hb⟩, by simp [Has, rd_s, hpo], by simp only; omega⟩
        | some b =>
          have hbm := hcm b rfl
          have hb0 := (hki.rg b hbm).1
          have hbn : ¬ b < 0 := by omega
          have hsm := hcS _ hbm
          rw [hpo] at hsm
          simp (maxSteps := 4000000) -implicitDefEqProofs -dsimp (disch := omega) only [↓AOps_pu, ↓AOps_call, ↓AOps_guard, on_some, guardB_ff, pval, rd_S, put_S, chkd, bgot, partA, eq_self, mk, List.foldl_cons, List.foldl_nil, List.replicate_succ, List.replicate_zero, List.set_cons_zero, List.set_cons_succ, List.getElem?_cons_zero, List.getElem?_cons_succ, List.drop_zero, List.take_succ_cons, List.take_nil, Option.getD_some, map_c, map_n, List.length_cons, List.length_nil, Nat.reduceAdd, Nat.reduceLeDiff, Nat.reduceEqDiff, Nat.zero_add, if_true, if_false, decide_false, curN, curQ, hbn, hpo]
          refine CallK.of (s19 _ _ _ hsm hsm) ?_
          rw [List.singleton_append, bst, hpo, hpo, if_neg (Rat.not_lt.2 Rat.le_refl)] at hb
          simp (maxSteps := 4000000) -implicitDefEqProofs -dsimp (disch := omega) only [↓AW_skip, ↓AW_ops, ↓AW_cond, ↓AOps_nil, ↓AOps_pu, on_some, extK_same, condB_f, ↓then_normal, ↓inBlock_normal, pval, rd_S, rd_C, put_S, eq_self, mk, List.foldl_cons, List.foldl_nil, List.replicate_succ, List.replicate_zero, List.set_cons_zero, List.set_cons_succ, List.getElem?_cons_zero, List.getElem?_cons_succ, Option.getD_some, List.length_cons, List.length_nil, Nat.reduceAdd, Nat.zero_add, bin_add, w64, if_false, Bool.false_eq_true, decide_false, true_and, Int.reduceNeg, curN, curQ, hpo, Rat.not_lt.2 (Rat.le_refl (a := ((L.sum : Int) : Rat))), hbn]
          exact ⟨(o + 1, some b), ⟨hlt, fun b' hb' => by cases hb'; exact hbm, hb⟩, by simp [Has, rd_s], by simp only; omega⟩
    · have hdt : decide (¬ (o : Int) ∈ left) = true := by simp [hin]
      rw [hdt] at hld
      rw [if_neg hin, List.nil_append] at hb
      simp (maxSteps := 4000000) -implicitDefEqProofs -dsimp (disch := omega) only [↓AW_skip, ↓AW_ops, ↓AW_seq, ↓AW_cond, ↓AW_block, ↓AW_exit, ↓AW_ret, ↓AOps_nil, ↓AOps_pu, ↓AOps_ld, ↓AOps_ha, on_some, extK_app, condB_t, ↓then_normal, ↓then_exit, ↓inBlock_exit, ↓Fin_ret, pval, lval, hval_blds, hval_app, rd_S, rd_C, put_S, resV, resL, chkd, isAdr, bgot, cells_agg, cells_int, splice, partA, fillA, repl, eq_self, mk, List.foldl_cons, List.foldl_nil, List.replicate_succ, List.replicate_zero, List.set_cons_zero, List.set_cons_succ, List.getElem?_cons_zero, List.getElem?_cons_succ, List.drop_zero, List.drop_succ_cons, List.drop_nil, List.take_zero, List.take_succ_cons, List.take_nil, Option.getD_some, Option.map_some, map_c, map_n, List.length_cons, List.length_nil, Nat.reduceAdd, Nat.reduceLeDiff, Nat.reduceEqDiff, Nat.zero_add, List.cons_append, List.nil_append, List.append_nil, bin_add, bin_sub, bin_lss, w64, if_true, if_false, Bool.false_eq_true, decide_true, true_and, and_true, reduceCtorEq, hlt', hV1.ls.len, hidx, hld, eb]
      exact ⟨(o + 1, cur), ⟨hlt, hcm, hb⟩, by simp [Has, rd_s], by simp only; omega⟩
  · have hlt' : ¬ ((o : Int) < ws.length) := by omega
    rw [List.drop_of_length_le (by omega), List.filter_nil] at hb
    cases cur with
    | none =>
      exfalso
      rcases left with _ | ⟨a, l⟩
      · exact hl0 rfl
      · rw [bst_none] at hb; simp [bst] at hb
    | some b =>
      have hb2 : bst (plI L (lists ws) left p) none left = some b := by rw [hb]; rfl
      obtain ⟨hbm, hkn2, hble⟩ := kn_step hl1 hb2
      have hrg := hki.rg b hbm
      have hbx := hOL.ls.idxI (k := .i64) hrg.1 (by omega : b < (blG ws.length left).length)
      have hbt : b.toNat < (blG ws.length left).length := by omega
      obtain ⟨u4, H4, happ, hacc4⟩ := hacc.push e5_len ⟨b, rp p, rp (plI L (lists ws) left p b)⟩ (by simp [lim]; omega)
      have hOL4 : OL 1 eb A H4 A.length (.sl 1 A.length 0 ws.length true) (blG ws.length left) := ⟨eb_len, (pre_app _ _).trans hacc4.pre, Nat.le_refl _, pre_get hacc4.pre (by simp), true, by rw [hbll]⟩
      have hst := hOL4.st hbt (B true) true rfl
      have hbx4 := hOL4.ls.idxI (k := .i64) hrg.1 (by omega : b < (blG ws.length left).length)
      have hacc5 := AccL_set hacc4 (n := A.length) (by simp) (.cells true (((blG ws.length left).set b.toNat true).flatMap eb))
      have hBe : (A ++ [AObj.cells true ((blG ws.length left).flatMap eb)]).set A.length (.cells true (((blG ws.length left).set b.toNat true).flatMap eb)) = A ++ [.cells true (((blG ws.length left).set b.toNat true).flatMap eb)] := by simp
      rw [hBe] at hacc5
      have hwb : ∀ o : Int, o ∈ without left b ↔ o ∈ left ∧ o ≠ b := by
        intro o
        unfold without
        rw [List.mem_filter]
        simp
      have hblw : (blG ws.length left).set b.toNat true = blG ws.length (without left b) := by
        unfold blG
        apply List.ext_getElem
        · simp
        · intro k g1 g2
          simp only [List.length_set, List.length_map, List.length_range] at g1
          rw [List.getElem_set]
          simp only [List.getElem_map, List.getElem_range]
          by_cases hk : b.toNat = k
          · have : ¬ ((k : Int) ∈ without left b) := by rw [hwb]; rintro ⟨_, h3⟩; exact h3 (by omega)
            rw [if_pos hk]
            simp [this]
          · have h3 : (k : Int) ≠ b := by omega
            rw [if_neg hk, decide_eq_decide, hwb]
            simp [h3]
      rw [hblw] at hacc5 hst
      have hwl : (without left b).length = left.length - 1 := by rw [without_erase hki.nd, List.length_erase_of_mem hbm]
      have e5p : e5 ⟨b, rp p, rp (plI L (lists ws) left p b)⟩ = [I b, I p.num, I (p.den : Int), I (plI L (lists ws) left p b).num, I ((plI L (lists ws) left p b).den : Int)] := rfl
      rw [e5p] at happ
      simp (maxSteps := 4000000) -implicitDefEqProofs -dsimp (disch := omega) only [↓AW_ops, ↓AW_seq, ↓AW_cond, ↓AW_exit, ↓AW_ret, ↓AOps_nil, ↓AOps_pu, ↓AOps_ha, on_some, extK_false, extK_app, condB_f, ↓then_normal, ↓then_exit, ↓inBlock_normal, ↓inBlock_exit, ↓Fin_ret, pval, hval_st, hval_blds, hval_app, rd_S, rd_C, put_S, putS_none, resV, resL, chkd, isAdr, bput, bgot, cells_agg, cells_int, splice, partA, fillA, repl, eq_self, mk, List.foldl_cons, List.foldl_nil, List.replicate_succ, List.replicate_zero, List.set_cons_zero, List.set_cons_succ, List.getElem?_cons_zero, List.getElem?_cons_succ, List.drop_zero, List.drop_succ_cons, List.drop_nil, List.take_zero, List.take_succ_cons, List.take_nil, Option.getD_some, Option.map_some, map_c, map_n, List.length_cons, List.length_nil, Nat.reduceAdd, Nat.reduceLeDiff, Nat.reduceEqDiff, Nat.zero_add, List.cons_append, List.nil_append, List.append_nil, bin_sub, bin_lss, w64, if_true, if_false, Bool.false_eq_true, decide_false, true_and, and_true, reduceCtorEq, ne_eq, not_true_eq_false, hlt', hV1.ls.len, curN, curQ, R, happ, hbx4, hst]
      refine ⟨⟨_, 0, without left b, [], u4, K ++ [⟨b, rp p, rp (plI L (lists ws) left p b)⟩], plI L (lists ws) left p b⟩, ⟨?_, hord.without b, ?_, ?_, hacc5⟩, ?_, rfl, by simp only; omega⟩
      · simp only
        by_cases hl2 : 1 < left.length
        · right
          obtain ⟨D2, hk2, _⟩ := hki.next hg (by omega) (hble hl2) hbm
          have hpb : plI L (lists ws) left p b = cqI L (lists ws) p b := by unfold plI; rw [if_pos hl2]
          rw [hpb]
          exact ⟨D2, hk2⟩
        · left
          exact List.eq_nil_of_length_eq_zero (by omega)
      · simp only
        rw [hkn, hkn2, hwl, List.append_assoc]
        by_cases hl2 : 1 < left.length
        · rw [if_pos hl2]; rfl
        · rw [if_neg hl2, show left.length - 1 = 0 by omega]; rfl
      · simp only [List.length_append, List.length_cons, List.length_nil]
        omega
      · have hc : ((left.length : Int) - 1) = (((without left b).length : Nat) : Int) := by omega
        simp [Has, rd_s, hc]
end
end Go.Proofs.Ytmblehbjedpjoaa

namespace Go.Proofs.Ytmblehbjedpjoaa
open Go Go.Eng
theorem Dv_dvd {E : Int} {q : Rat} (h : Dv E q) : (q.den : Int) ∣ E := by
  obtain ⟨k, hk⟩ := h
  have e := R_self q
  have hne := cast_ne (show (q.den : Int) ≠ 0 by have := den_pos q; omega)
  have h1 : ((q.num * E : Int) : Rat) = ((k * q.den : Int) : Rat) := by
    rw [Rat.intCast_mul, Rat.intCast_mul, ← hk]
    generalize ((q.num : Int) : Rat) = n at *
    generalize ((q.den : Int) : Rat) = d at *
    generalize ((E : Int) : Rat) = E' at *
    grind
  have h2 : q.num * E = k * q.den := Rat.intCast_inj.1 h1
  have h3 : q.den ∣ q.num.natAbs * E.natAbs := by
    rw [← Int.natAbs_mul, h2, Int.natAbs_mul]
    exact Nat.dvd_mul_left _ _
  have h4 := Nat.Coprime.dvd_of_dvd_mul_left q.reduced.symm h3
  exact Int.natAbs_dvd_natAbs.1 (by rw [Int.natAbs_natCast]; exact h4)
theorem chain_at {L : List Int} : ∀ (pcs : List Pc) (a : Int × Int), chainR L a pcs → ∀ (i : Nat) (p : Pc), pcs[i]? = some p → p.r = (match i with | 0 => a | j + 1 => ((pcs[j]?).map Pc.s).getD a) ∧ isK L p.r ∧ isK L p.s ∧ ¬ qr p.s < qr p.r
  | [], _, _, _, _, h => by simp at h
  | q :: pcs, a, hc, 0, p, h => by
    have : q = p := by simpa using h
    subst this
    exact ⟨hc.1, hc.2.1, hc.2.2.1, hc.2.2.2.1⟩
  | q :: pcs, a, hc, i + 1, p, h => by
    have h' : pcs[i]? = some p := by simpa using h
    obtain ⟨h1, h2⟩ := chain_at pcs q.s hc.2.2.2.2 i p h'
    refine ⟨?_, h2⟩
    rw [h1]
    cases i with
    | zero => rfl
    | succ j =>
      have hj : j < pcs.length := by have := (List.getElem?_eq_some_iff.1 h').1; omega
      simp [List.getElem?_eq_getElem hj]
theorem chain_last {L : List Int} : ∀ (pcs : List Pc) (a : Int × Int), chainR L a pcs → (match pcs.getLast? with | some p => p.s | none => a) = (L.sum, 1)
  | [], _, h => h
  | [q], a, hc => hc.2.2.2.2
  | q :: q2 :: pcs, a, hc => by
    have := chain_last (q2 :: pcs) q.s hc.2.2.2.2
    rw [List.getLast?_cons_cons]
    rw [List.getLast?_eq_some_getLast (by simp)] at this ⊢
    exact this
theorem CP_of {L : List Int} {V : List (List Int)} (hg : KG L V) {pcs : List Pc} (hp : (pcs.map Pc.o).Perm (rg0 V.length)) (hc : chainR L (0, 1) pcs) {E : Int} (hE : 0 < E ∧ E ≤ 1000000) (hD : ∀ q ∈ pcs, Dv E (qr q.r) ∧ Dv E (qr q.s)) : CP L V pcs := by
  have hst := KI.start hg
  have hlen : pcs.length = V.length := by
    have := hp.length_eq
    simpa [rg0] using this
  have hnd : (pcs.map Pc.o).Nodup := hp.nodup_iff.2 hst.nd
  have hat := chain_at pcs (0, 1) hc
  refine ⟨hlen, fun i hi => ?_, ?_, ?_⟩
  · have hpi : pcs[i]? = some pcs[i] := List.getElem?_eq_getElem hi
    obtain ⟨h1, h2, h3, h4⟩ := hat i _ hpi
    have hom : pcs[i].o ∈ rg0 V.length := hp.mem_iff.1 (List.mem_map_of_mem (List.getElem_mem hi))
    have hr := hst.rg _ hom
    refine ⟨by omega, ?_, h2, h3, ?_, h4⟩
    · have hs := split_f (l := pcs.map Pc.o) (i := i) (z := pcs[i].o) (by rw [List.getElem?_map, hpi]; rfl)
      rw [hs] at hnd
      rw [List.map_take]
      intro hm
      exact (List.nodup_append.1 hnd).2.2 _ hm _ (by simp) rfl
    · rw [h1]
      cases i with
      | zero => rfl
      | succ j =>
        have hj : pcs[j]? = some pcs[j] := List.getElem?_eq_getElem (by omega)
        rw [atI_succ hj]
        simp only [hj, Option.map_some, Option.getD_some]
  · have := chain_last pcs (0, 1) hc
    unfold atI
    rw [List.take_length]
    exact this
  · refine cmn_le hE _ 1 (by omega) (Int.one_dvd _) ?_
    intro d hd
    obtain ⟨r, hr, rfl⟩ := List.mem_map.1 hd
    obtain ⟨q, hq, hr⟩ := List.mem_flatMap.1 hr
    obtain ⟨i, hi, rfl⟩ := List.mem_iff_getElem.1 hq
    obtain ⟨_, h2, h3, _⟩ := hat i _ (List.getElem?_eq_getElem hi)
    obtain ⟨d1, d2⟩ := hD _ hq
    simp only [List.mem_cons, List.not_mem_nil, or_false] at hr
    rcases hr with rfl | rfl
    · obtain ⟨_, _, k3, _⟩ := isK_R hg h2
      have := Dv_dvd d1
      rw [k3] at this
      exact ⟨by have := h2.1.1; omega, this⟩
    · obtain ⟨_, _, k3, _⟩ := isK_R hg h3
      have := Dv_dvd d2
      rw [k3] at this
      exact ⟨by have := h3.1.1; omega, this⟩
/-- What the knife makes are pieces, and each one has his part. -/
theorem knE_ok {L : List Int} {V : List (List Int)} (hg : KG L V) : CP L V (knE L V) ∧ (∀ p ∈ knE L V, W p.r.1 ∧ W p.s.1) ∧ (knE L V).length = V.length ∧
    ∃ P : Nat → Pc, ∀ o : Nat, o < V.length → (∃ k, At (knE L V) o k (P o)) ∧ ((tot (fOf L V o) : Int) : Rat) ≤ pwo (fOf L V o) (P o) * ((V.length : Int) : Rat) := by
  have hv1 := hg.v1
  have hLs := hg.sum
  have hlen : (rg0 V.length).length = V.length := by simp [rg0]
  obtain ⟨h1, h2, ⟨E, hE, _, hEq⟩, h4⟩ := kn_facts hg V.length (rg0 V.length) ((0 : Int) : Rat) V.length hlen hv1 (KI.start hg)
  have hCP := CP_of hg h1 h2 hE hEq
  refine ⟨hCP, fun p hp => ?_, hCP.1, ?_⟩
  · obtain ⟨a, b, _⟩ := hCP.at hp
    have m1 := Int.mul_le_mul hLs.2 a.1.1.2 (by have := a.1.1.1; omega) (by omega : (0 : Int) ≤ 120)
    have m2 := Int.mul_le_mul hLs.2 b.1.1.2 (by have := b.1.1.1; omega) (by omega : (0 : Int) ≤ 120)
    have := a.2
    have := b.2
    constructor <;> constructor <;> omega
  · have hex : ∀ o : Nat, o < V.length → ∃ p k, At (knE L V) o k p := by
      intro o ho
      have hm : (o : Int) ∈ (knE L V).map Pc.o := h1.mem_iff.2 (List.mem_map.2 ⟨o, List.mem_range.2 ho, rfl⟩)
      obtain ⟨p, hp, hpo⟩ := List.mem_map.1 hm
      obtain ⟨k, q, hq⟩ := At.ex ⟨p, hp, hpo⟩
      exact ⟨q, k, hq⟩
    classical
    refine ⟨fun o => if h : ∃ p k, At (knE L V) o k p then h.choose else ⟨0, (0, 1), (0, 1)⟩, fun o ho => ?_⟩
    have hx := hex o ho
    simp only [dif_pos hx]
    refine ⟨hx.choose_spec, ?_⟩
    obtain ⟨k, hk⟩ := hx.choose_spec
    have := h4 _ hk.o.1
    rw [hk.o.2] at this
    exact this
section
variable {L : List Int} {ws : List (AV × List Int)} {x y : AV} {A : AHeap}
theorem c_none2 {H : AHeap} {v : AV} {qs : List Rat} {a : Nat} (hx : L2 H v (qs.map rp)) (hl : qs.length ≤ 1000000) (hc : ∀ q ∈ qs, ACalls Try.prog 89 [R q, .ptr a 0] H (B false) H) : ACalls Try.prog 88 [v, .fn 89 [.ptr a 0]] H (B false) H := by
  have hi : ACalls Try.prog 115 [v, .fn 89 [.ptr a 0]] H (I (-1)) H := by
    refine acalls hmix Try.func115 (by kernel_rfl) t115 2 rfl (by decide) ?_
    dsimp only [m115]
    simp (maxSteps := 4000000) -implicitDefEqProofs -dsimp (disch := omega) only [↓AW_ops, ↓AW_seq, ↓AW_block, ↓AOps_nil, ↓AOps_pu, on_some, ↓then_normal, pval, rd_S, rd_C, put_S, ↓AW_toLoop, List.replicate_succ, List.replicate_zero, List.set_cons_zero, List.set_cons_succ, List.getElem?_cons_zero, List.getElem?_cons_succ, Option.getD_some, Nat.reduceSub, List.cons_append, List.nil_append, hx.len, List.length_map]
    refine LoopK.by 19 (fun i : Nat => i ≤ qs.length) (fun i => [(0, v), (1, .fn 89 [.ptr a 0]), (7, I qs.length), (8, I i)]) (fun _ => H) (fun i => qs.length - i) 0 (by omega) rfl (by simp [Has, rd_s]) rfl ?_
    intro i hi
    by_cases hlt : i < qs.length
    · obtain ⟨q, hq⟩ : ∃ q, qs[i]? = some q := ⟨_, List.getElem?_eq_getElem hlt⟩
      have hlt' : (i : Int) < qs.length := by omega
      have hz : (qs.map rp)[i]? = some (rp q) := by rw [List.getElem?_map, hq]; rfl
      have hcq := hc q (List.mem_of_getElem? hq)
      unfold R at hcq
      simp (maxSteps := 4000000) -implicitDefEqProofs -dsimp (disch := omega) only [↓AW_skip, ↓AW_ops, ↓AW_seq, ↓AW_cond, ↓AW_block, ↓AOps_nil, ↓AOps_pu, ↓AOps_ld, ↓AOps_callv, on_some, CallF_fn, condB_t, ↓then_normal, pval, lval, rd_S, put_S, partA, eq_self, mk, List.foldl_cons, List.foldl_nil, List.replicate_succ, List.replicate_zero, List.set_cons_zero, List.set_cons_succ, List.getElem?_cons_zero, List.getElem?_cons_succ, List.drop_zero, List.take_succ_cons, List.take_nil, Option.getD_some, map_c, map_n, List.length_cons, List.length_nil, Nat.reduceAdd, Nat.reduceLeDiff, Nat.reduceEqDiff, Nat.zero_add, List.cons_append, List.nil_append, bin_lss, if_true, if_false, decide_true, Go.Eng.e2, hlt', hx.idx (by rw [List.length_map]; exact hlt), hx.ld0 hz 2 true (by decide)]
      refine CallK.of (hcq) ?_
      simp (maxSteps := 4000000) -implicitDefEqProofs -dsimp (disch := omega) only [↓AW_skip, ↓AW_ops, ↓AW_cond, ↓AOps_nil, ↓AOps_pu, on_some, extK_same, condB_f, ↓then_normal, ↓inBlock_normal, pval, rd_S, rd_C, put_S, eq_self, mk, List.foldl_cons, List.foldl_nil, List.replicate_succ, List.replicate_zero, List.set_cons_zero, List.set_cons_succ, List.getElem?_cons_zero, List.getElem?_cons_succ, Option.getD_some, List.length_cons, List.length_nil, Nat.reduceAdd, Nat.zero_add, bin_add, w64, true_and]
      exact ⟨i + 1, hlt, by simp [Has, rd_s], by omega⟩
    · have hlt' : ¬ ((i : Int) < qs.length) := by omega
      simp (maxSteps := 4000000) -implicitDefEqProofs -dsimp (disch := omega) only [↓AW_ops, ↓AW_seq, ↓AW_cond, ↓AW_exit, ↓AW_ret, ↓AOps_nil, ↓AOps_pu, on_some, condB_f, ↓then_normal, ↓then_exit, ↓inBlock_exit, ↓Fin_ret, pval, rd_S, rd_C, put_S, resV, resL, eq_self, mk, List.foldl_cons, List.foldl_nil, List.replicate_succ, List.replicate_zero, List.set_cons_zero, List.set_cons_succ, List.getElem?_cons_zero, List.getElem?_cons_succ, Option.getD_some, bin_lss, if_true, decide_false, Int.reduceNeg, hlt']
      exact gc_same rfl
  refine acalls hmix Try.func88 (by kernel_rfl) t88 2 rfl (by decide) ?_
  dsimp only [m88]
  simp (maxSteps := 4000000) -implicitDefEqProofs -dsimp (disch := omega) only [↓AW_ops, ↓AW_seq, ↓AOps_nil, ↓AOps_pu, ↓AOps_call, on_some, ↓then_normal, pval, rd_S, rd_C, put_S, List.replicate_succ, List.replicate_zero, List.set_cons_zero, List.set_cons_succ, List.getElem?_cons_zero, List.getElem?_cons_succ, Option.getD_some, map_c, map_n, Nat.reduceSub, List.cons_append, List.nil_append]
  refine CallK.of (hi) ?_
  simp (maxSteps := 4000000) -implicitDefEqProofs -dsimp (disch := omega) only [↓AW_ret, ↓AOps_nil, ↓AOps_pu, on_some, extK_same, ↓then_normal, ↓Fin_ret, pval, rd_S, rd_C, put_S, resV, resL, List.replicate_succ, List.replicate_zero, List.set_cons_zero, List.set_cons_succ, List.getElem?_cons_zero, List.getElem?_cons_succ, Option.getD_some, Nat.reduceSub, List.cons_append, List.nil_append, bin_geq, decide_false, Int.reduceLE, Int.reduceNeg]
  exact gc_same rfl
theorem s89 {H : AHeap} {a : Nat} {q s : Rat} (hld : ldA 2 true (.ptr a 0) H = some (.agg [I s.num, I (s.den : Int)])) (hf : Fit q s) (hle : s ≤ q) : ACalls Try.prog 89 [R q, .ptr a 0] H (B false) H := by
  refine acalls hmix Try.func89 (by kernel_rfl) t89 2 rfl (by decide) ?_
  have hn : ¬ (q - s).num < 0 := fun hh => absurd ((sub_neg_iff _ _).1 hh) (Rat.not_lt.2 hle)
  dsimp only [m89]
  simp (maxSteps := 4000000) -implicitDefEqProofs -dsimp (disch := omega) only [↓AW_ops, ↓AW_seq, ↓AOps_nil, ↓AOps_pu, ↓AOps_ld, ↓AOps_call, on_some, ↓then_normal, pval, lval, rd_S, rd_C, put_S, chkd, bgot, AV.cells?, partA, eq_self, List.replicate_succ, List.replicate_zero, List.set_cons_zero, List.set_cons_succ, List.getElem?_cons_zero, List.getElem?_cons_succ, List.drop_zero, List.take_succ_cons, List.take_nil, Option.getD_some, map_c, map_n, List.length_cons, List.length_nil, Nat.reduceAdd, Nat.reduceSub, Nat.reduceLeDiff, Nat.reduceEqDiff, Nat.zero_add, List.cons_append, List.nil_append, if_true, if_false, hld]
  have hRs : AV.agg [I s.num, I (s.den : Int)] = R s := rfl
  rw [hRs]
  refine CallK.of (s65g _ _ _ hf) ?_
  simp (maxSteps := 4000000) -implicitDefEqProofs -dsimp (disch := omega) only [↓AW_ret, ↓AOps_nil, ↓AOps_pu, on_some, extK_same, ↓then_normal, ↓Fin_ret, pval, rd_S, rd_C, put_S, resV, resL, List.replicate_succ, List.replicate_zero, List.set_cons_zero, List.set_cons_succ, List.getElem?_cons_zero, List.getElem?_cons_succ, Option.getD_some, Nat.reduceSub, List.cons_append, List.nil_append, bin_lss, decide_false, hn]
  exact gc_same rfl
set_option maxRecDepth 20000 in
theorem s34 (hL : L1 A x L) (hV : LL A y ws) (hs : Sz L ws) (h : KG L (lists ws)) {pcs : List Pc} {v : AV} (hP : L5 A v pcs) (hl : pcs.length ≤ 1000000) (hW : ∀ p ∈ pcs, W p.r.1 ∧ W p.s.1) (hc : CP L (lists ws) pcs) (P : Nat → Pc)
    (hown : ∀ o : Nat, o < ws.length → (∃ k, At pcs o k (P o)) ∧ ((tot (fOf L (lists ws) o) : Int) : Rat) ≤ pwo (fOf L (lists ws) o) (P o) * ((ws.length : Int) : Rat)) :
    ACalls Try.prog 34 [.agg [x, y], v] A (.tuple [B true, I 0]) A := by
  refine acalls hmix Try.func34 (by kernel_rfl) t34 2 rfl (by decide) ?_
  have hcE : cpE L (lists ws) pcs = 0 := by rw [cpE, if_pos h.e, if_pos hc]
  have hv1 := h.v1
  have hv5 := h.v5
  have hll : (lists ws).length = ws.length := by simp
  rw [hll] at hv1 hv5
  dsimp only [m34]
  simp (maxSteps := 4000000) -implicitDefEqProofs -dsimp (disch := omega) only [↓AW_ops, ↓AW_seq, ↓AOps_nil, ↓AOps_pu, ↓AOps_call, on_some, ↓then_normal, pval, rd_S, rd_C, put_S, chkd, bgot, cells_agg, partA, eq_self, List.replicate_succ, List.replicate_zero, List.set_cons_zero, List.set_cons_succ, List.getElem?_cons_zero, List.getElem?_cons_succ, List.drop_zero, List.take_succ_cons, List.take_nil, Option.getD_some, map_c, map_n, List.length_cons, List.length_nil, Nat.reduceAdd, Nat.reduceSub, Nat.reduceLeDiff, Nat.reduceEqDiff, Nat.zero_add, List.cons_append, List.nil_append, if_true, if_false]
  refine CallK.of (s35 hL hV hs hP hl hW) ?_
  simp (maxSteps := 4000000) -implicitDefEqProofs -dsimp (disch := omega) only [↓AW_skip, ↓AW_ops, ↓AW_seq, ↓AW_cond, ↓AOps_nil, ↓AOps_pu, ↓AOps_call, on_some, extK_same, condB_f, ↓then_normal, pval, rd_S, rd_C, put_S, chkd, isAdr, bgot, cells_agg, partA, eq_self, List.replicate_succ, List.replicate_zero, List.set_cons_zero, List.set_cons_succ, List.getElem?_cons_zero, List.getElem?_cons_succ, List.drop_zero, List.drop_succ_cons, List.take_succ_cons, List.take_nil, Option.getD_some, map_c, map_n, List.length_cons, List.length_nil, Nat.reduceAdd, Nat.reduceSub, Nat.reduceLeDiff, Nat.zero_add, List.cons_append, List.nil_append, bin_neq, if_true, if_false, Bool.false_eq_true, decide_false, not_true_eq_false, hcE, hV.ls.len]
  refine CallK.of (s59R _ ⟨by omega, by omega⟩ (by omega) (by omega)) ?_
  have hrl := ratio_le 1 ws.length (by omega)
  generalize hs1 : ((1 : Int) : Rat) / ((ws.length : Int) : Rat) = s1 at *
  have hst : stA 2 (.ptr A.length 0) (.agg [I s1.num, I (s1.den : Int)]) (A ++ [.cells true [.int .i64 0, .int .i64 0]]) = some (A ++ [.cells true [I s1.num, I (s1.den : Int)]]) := by simp [stA, cells_agg, splice]
  have hp1 := pre_app A [AObj.cells true [I s1.num, I (s1.den : Int)]]
  have hld : ldA 2 true (.ptr A.length 0) (A ++ [AObj.cells true [I s1.num, I (s1.den : Int)]]) = some (.agg [I s1.num, I (s1.den : Int)]) := by simp [ldA, partA]
  simp (maxSteps := 4000000) -implicitDefEqProofs -dsimp (disch := omega) only [↓AW_ops, ↓AW_seq, ↓AOps_nil, ↓AOps_pu, ↓AOps_ha, ↓AOps_call, on_some, extK_false, extK_app, extK_same, ↓then_normal, pval, hval_st, hval_newv, rd_S, rd_C, put_S, putS_none, chkd, bgot, cells_agg, partA, eq_self, List.replicate_succ, List.replicate_zero, List.set_cons_zero, List.set_cons_succ, List.getElem?_cons_zero, List.getElem?_cons_succ, List.drop_zero, List.take_succ_cons, List.take_nil, Option.getD_some, Option.map_some, map_c, map_n, List.length_cons, List.length_nil, Nat.reduceAdd, Nat.reduceSub, Nat.reduceLeDiff, Nat.reduceEqDiff, Nat.zero_add, List.cons_append, List.nil_append, if_true, if_false, R, hst]
  refine CallK.of (c_parts (hL.mono hp1) (hV.mono hp1) h (hP.mono hp1) hl hc P (fun o ho => (hown o ho).1)) ?_
  generalize hA1 : A ++ [AObj.cells true [I s1.num, I (s1.den : Int)]] = A1 at *
  have hls := Ls_out A1 e2_len ((prts L (lists ws) P).map rp)
  have hp2 := pre_out A1 (((prts L (lists ws) P).map rp).flatMap e2) ((prts L (lists ws) P).map rp).length
  generalize outV 2 A1 ((prts L (lists ws) P).map rp).length = lv at *
  generalize outH A1 (((prts L (lists ws) P).map rp).flatMap e2) ((prts L (lists ws) P).map rp).length = A2 at *
  have hld2 : ldA 2 true (.ptr A.length 0) A2 = some (.agg [I s1.num, I (s1.den : Int)]) := by
    unfold ldA at hld ⊢
    simp only at hld ⊢
    have hlt : A.length < A1.length := by rw [← hA1]; simp
    obtain ⟨t, rfl⟩ := hp2
    rw [List.getElem?_append_left hlt]; exact hld
  simp (maxSteps := 4000000) -implicitDefEqProofs -dsimp (disch := omega) only [↓AOps_pu, ↓AOps_call, on_some, extK_false, pval, rd_S, put_S, putS_none, List.replicate_succ, List.replicate_zero, List.set_cons_zero, List.set_cons_succ, List.getElem?_cons_zero, List.getElem?_cons_succ, Option.getD_some, map_c, map_n, Nat.reduceSub, List.cons_append, List.nil_append]
  have hn0 := cast_pos (show 0 < (ws.length : Int) by omega)
  refine CallK.of (c_none2 hls (by simp [prts]; omega) (fun q hq => ?_)) ?_
  · obtain ⟨o, ho, rfl⟩ := List.mem_map.1 hq
    have ho := List.mem_range.1 ho
    rw [hll] at ho
    obtain ⟨⟨k, hk⟩, hfr⟩ := hown o ho
    obtain ⟨r, hr, hf⟩ := fOf_mem (L := L) (V := lists ws) (o := o) (by rw [hll]; omega)
    have hf' : L.zip (rowOf (lists ws) (o : Int)) = L.zip r := hf
    rw [hf'] 
    rw [hf] at hfr
    obtain ⟨f1, f2, _, f4, f5⟩ := pwo_facts h hc hr hk.o.1
    have ht := tot_bound (h.gd hr)
    have htp := h.tot_pos hr
    have ht0 := cast_pos (show 0 < tot (L.zip r) by omega)
    have hdiv : pwo (L.zip r) (P o) / ((tot (L.zip r) : Int) : Rat) * ((tot (L.zip r) : Int) : Rat) = pwo (L.zip r) (P o) := Rat.div_mul_cancel (cast_ne (by omega))
    have q0 : 0 ≤ pwo (L.zip r) (P o) / ((tot (L.zip r) : Int) : Rat) := by
      rw [Rat.div_def]; exact Rat.mul_nonneg f1 (Rat.le_of_lt (Rat.inv_pos.2 ht0))
    have q1 : pwo (L.zip r) (P o) / ((tot (L.zip r) : Int) : Rat) ≤ ((1 : Int) : Rat) := by
      refine Rat.le_of_mul_le_mul_right ?_ ht0
      rw [hdiv, int1, Rat.one_mul]; exact f2
    have hdp := den_pos (pwo (L.zip r) (P o))
    have hDm : 0 < ((pwo (L.zip r) (P o)).den : Int) * tot (L.zip r) := Int.mul_pos hdp (by omega)
    have hDl : ((pwo (L.zip r) (P o)).den : Int) * tot (L.zip r) ≤ 1000000 * 2400 := Int.mul_le_mul f5 ht.2 ht.1 (by omega)
    have hDq := (Dv_self (pwo (L.zip r) (P o))).div (tot (L.zip r)) (by omega)
    have nq := num_le (M := 1) hDm hDq (int_neg_le_zero (by omega) q0) q1
    refine s89 hld2 (Fit_of 2400000000 1 2400000000 5 (by omega) (by omega) (by omega) (by omega) (by decide) (by decide)) ?_
    rw [← hs1]
    refine Rat.le_of_mul_le_mul_right ?_ hn0
    refine Rat.le_of_mul_le_mul_right ?_ ht0
    have e1 : ((1 : Int) : Rat) / ((ws.length : Int) : Rat) * ((ws.length : Int) : Rat) = 1 := by rw [Rat.div_mul_cancel (cast_ne (by omega)), int1]
    rw [e1, Rat.one_mul, Rat.mul_assoc, Rat.mul_comm ((ws.length : Int) : Rat), ← Rat.mul_assoc, hdiv]
    exact hfr
  simp (maxSteps := 4000000) -implicitDefEqProofs -dsimp (disch := omega) only [↓AW_ret, ↓AOps_nil, ↓AOps_pu, on_some, extK_same, ↓then_normal, ↓Fin_ret, pval, rd_S, rd_C, put_S, putS_none, resV, resL, List.replicate_succ, List.replicate_zero, List.set_cons_zero, List.set_cons_succ, List.getElem?_cons_zero, List.getElem?_cons_succ, Option.getD_some, Nat.reduceSub, List.cons_append, List.nil_append, Bool.not_false]
  exact gc_val (hp1.trans hp2) rfl
theorem knife_err (hL : L1 A x L) (hV : LL A y ws) (hs : Sz L ws) (h0 : ¬ kE L (lists ws) = 0) : ACalls Try.prog 32 [.agg [x, y]] A (.tuple [.nilS, I (kE L (lists ws))]) A ∧ ACalls Try.prog 33 [.agg [x, y]] A (.tuple [.nilS, I (kE L (lists ws))]) A := by
  constructor
  · refine acalls hmix Try.func32 (by kernel_rfl) t32 1 rfl (by decide) ?_
    dsimp only [m32]
    simp (maxSteps := 4000000) -implicitDefEqProofs -dsimp (disch := omega) only [↓AW_ops, ↓AW_seq, ↓AOps_nil, ↓AOps_pu, on_some, ↓then_normal, pval, rd_S, rd_C, put_S, cells_agg, List.replicate_succ, List.replicate_zero, List.set_cons_zero, List.set_cons_succ, List.getElem?_cons_zero, Option.getD_some, Nat.reduceSub, List.cons_append, List.nil_append, ↓AW_toScope]
    refine ScopeK.by (α := Unit) 65 (fun _ => False) (fun _ => []) (fun _ => A) (fun _ => 0) 1 ?_ (fun _ h => h.elim)
    simp (maxSteps := 4000000) -implicitDefEqProofs -dsimp (disch := omega) only [↓AW_ops, ↓AW_seq, ↓AOps_pu, ↓AOps_call, on_some, pval, rd_S, put_S, chkd, bgot, partA, eq_self, List.set_cons_zero, List.set_cons_succ, List.getElem?_cons_zero, List.getElem?_cons_succ, List.drop_zero, List.take_succ_cons, List.take_nil, Option.getD_some, map_c, map_n, List.length_cons, List.length_nil, Nat.reduceAdd, Nat.reduceLeDiff, Nat.reduceEqDiff, Nat.zero_add, if_true, if_false]
    refine CallK.of (s26 hL hV hs.l hs.v hs.w) ?_
    simp (maxSteps := 4000000) -implicitDefEqProofs -dsimp (disch := omega) only [↓AW_ops, ↓AW_seq, ↓AW_cond, ↓AW_ret, ↓AOps_nil, ↓AOps_pu, on_some, extK_same, condB_t, ↓then_normal, ↓then_ret, ↓Fin_ret, pval, rd_S, rd_C, put_S, resV, resL, List.set_cons_zero, List.set_cons_succ, List.getElem?_cons_zero, List.getElem?_cons_succ, Option.getD_some, bin_neq, decide_true, not_false_eq_true, ↓inScope_ret, h0]
    exact gc_same rfl
  · refine acalls hmix Try.func33 (by kernel_rfl) t33 1 rfl (by decide) ?_
    dsimp only [m33]
    simp (maxSteps := 4000000) -implicitDefEqProofs -dsimp (disch := omega) only [↓AW_ops, ↓AW_seq, ↓AOps_nil, ↓AOps_pu, ↓AOps_call, on_some, ↓then_normal, pval, rd_S, rd_C, put_S, chkd, bgot, cells_agg, partA, eq_self, List.replicate_succ, List.replicate_zero, List.set_cons_zero, List.set_cons_succ, List.getElem?_cons_zero, List.getElem?_cons_succ, List.drop_zero, List.take_succ_cons, List.take_nil, Option.getD_some, map_c, map_n, List.length_cons, List.length_nil, Nat.reduceAdd, Nat.reduceSub, Nat.reduceLeDiff, Nat.reduceEqDiff, Nat.zero_add, List.cons_append, List.nil_append, if_true, if_false]
    refine CallK.of (s27 hL hV hs.l hs.v hs.w) ?_
    simp (maxSteps := 4000000) -implicitDefEqProofs -dsimp (disch := omega) only [↓AW_ops, ↓AW_seq, ↓AW_cond, ↓AW_ret, ↓AOps_nil, ↓AOps_pu, on_some, extK_same, condB_t, ↓then_normal, ↓then_ret, ↓Fin_ret, pval, rd_S, rd_C, put_S, resV, resL, List.replicate_succ, List.replicate_zero, List.set_cons_zero, List.set_cons_succ, List.getElem?_cons_zero, List.getElem?_cons_succ, Option.getD_some, Nat.reduceSub, List.cons_append, List.nil_append, bin_neq, decide_true, not_false_eq_true, h0]
    exact gc_same rfl
set_option maxRecDepth 20000 in
set_option maxHeartbeats 2000000 in
theorem s7 (hL : L1 A x L) (hV : LL A y ws) (hl : ws.length ≤ 9223372036854775807) : ACalls Try.prog 7 [.agg [x, y]] A (B true) A := by
  refine acalls hmix Try.func7 (by kernel_rfl) t7 1 rfl (by decide) ?_
  dsimp only [m7]
  simp (maxSteps := 4000000) -implicitDefEqProofs -dsimp (disch := omega) only [↓AW_ops, ↓AW_seq, ↓AOps_nil, ↓AOps_pu, ↓AOps_call, on_some, ↓then_normal, pval, rd_S, rd_C, put_S, chkd, bgot, AV.cells?, partA, eq_self, List.replicate_succ, List.replicate_zero, List.set_cons_zero, List.set_cons_succ, List.getElem?_cons_zero, List.getElem?_cons_succ, List.drop_zero, List.take_succ_cons, List.take_nil, Option.getD_some, map_c, map_n, List.length_cons, List.length_nil, Nat.reduceAdd, Nat.reduceSub, Nat.reduceLeDiff, Nat.reduceEqDiff, Nat.zero_add, List.cons_append, List.nil_append, if_true, if_false]
  refine CallK.of (c_Long hL hV hl) ?_
  by_cases h : longK L ws
  · simp (maxSteps := 4000000) -implicitDefEqProofs -dsimp (disch := omega) only [↓AW_ops, ↓AW_seq, ↓AW_cond, ↓AOps_nil, ↓AOps_call, extK_same, condB_t, ↓then_normal, rd_S, put_S, List.replicate_succ, List.replicate_zero, List.set_cons_zero, List.set_cons_succ, List.getElem?_cons_zero, List.getElem?_cons_succ, Option.getD_some, map_n, Nat.reduceSub, List.cons_append, List.nil_append, decide_true, h]
    refine CallK.of (known A) ?_
    simp (maxSteps := 4000000) -implicitDefEqProofs -dsimp (disch := omega) only [↓AW_ret, ↓AOps_nil, ↓AOps_pu, on_some, extK_same, ↓then_normal, ↓then_ret, ↓Fin_ret, pval, rd_S, put_S, resV, resL, List.replicate_succ, List.replicate_zero, List.set_cons_zero, List.set_cons_succ, List.getElem?_cons_zero, List.getElem?_cons_succ, Option.getD_some, Nat.reduceSub, List.cons_append, List.nil_append]
    exact gc_same rfl
  have hs := Sz_of h
  simp (maxSteps := 4000000) -implicitDefEqProofs -dsimp (disch := omega) only [↓AW_skip, ↓AW_ops, ↓AW_seq, ↓AW_cond, ↓AOps_nil, ↓AOps_pu, ↓AOps_call, on_some, extK_same, condB_f, ↓then_normal, pval, rd_S, put_S, chkd, bgot, partA, eq_self, List.replicate_succ, List.replicate_zero, List.set_cons_zero, List.set_cons_succ, List.getElem?_cons_zero, List.getElem?_cons_succ, List.drop_zero, List.take_succ_cons, List.take_nil, Option.getD_some, map_c, map_n, List.length_cons, List.length_nil, Nat.reduceAdd, Nat.reduceSub, Nat.reduceLeDiff, Nat.reduceEqDiff, Nat.zero_add, List.cons_append, List.nil_append, if_true, if_false, decide_false, h]
  by_cases h0 : kE L (lists ws) = 0
  case neg =>
    obtain ⟨k1, k2⟩ := knife_err hL hV hs h0
    refine CallK.of k1 ?_
    simp (maxSteps := 4000000) -implicitDefEqProofs -dsimp (disch := omega) only [↓AW_ops, ↓AW_seq, ↓AOps_nil, ↓AOps_pu, ↓AOps_call, on_some, extK_same, ↓then_normal, pval, rd_S, put_S, chkd, bgot, partA, eq_self, List.replicate_succ, List.replicate_zero, List.set_cons_zero, List.set_cons_succ, List.getElem?_cons_zero, List.getElem?_cons_succ, List.drop_zero, List.take_succ_cons, List.take_nil, Option.getD_some, map_c, map_n, List.length_cons, List.length_nil, Nat.reduceAdd, Nat.reduceSub, Nat.reduceLeDiff, Nat.reduceEqDiff, Nat.zero_add, List.cons_append, List.nil_append, if_true, if_false]
    refine CallK.of k2 ?_
    simp (maxSteps := 4000000) -implicitDefEqProofs -dsimp (disch := omega) only [↓AW_ops, ↓AW_seq, ↓AOps_nil, ↓AOps_pu, ↓AOps_call, ↓AOps_guard, on_some, extK_same, guardB_ff, ↓then_normal, pval, rd_S, put_S, eq_self, List.replicate_succ, List.replicate_zero, List.set_cons_zero, List.set_cons_succ, List.getElem?_cons_zero, List.getElem?_cons_succ, Option.getD_some, map_c, map_n, Nat.reduceSub, List.cons_append, List.nil_append, bin_neq, decide_false, not_true_eq_false]
    refine CallK.of (c_same (xs := []) (ys := []) ⟨e5_len, rfl⟩ ⟨e5_len, rfl⟩ (by simp)) ?_
    simp (maxSteps := 4000000) -implicitDefEqProofs -dsimp (disch := omega) only [↓AW_skip, ↓AW_ops, ↓AW_seq, ↓AW_cond, ↓AOps_nil, ↓AOps_pu, ↓AOps_call, ↓AOps_guard, on_some, extK_same, guardB_ff, condB_t, condB_f, ↓then_normal, pval, rd_S, rd_C, put_S, eq_self, List.replicate_succ, List.replicate_zero, List.set_cons_zero, List.set_cons_succ, List.getElem?_cons_zero, List.getElem?_cons_succ, Option.getD_some, map_n, Nat.reduceSub, List.cons_append, List.nil_append, bin_neq, if_false, Bool.false_eq_true, Bool.not_true, decide_true, not_false_eq_true, h0]
    refine CallK.of (known A) ?_
    simp (maxSteps := 4000000) -implicitDefEqProofs -dsimp (disch := omega) only [↓AW_ret, ↓AOps_nil, ↓AOps_pu, on_some, extK_same, ↓then_normal, ↓then_ret, ↓Fin_ret, pval, rd_S, put_S, resV, resL, eq_self, List.replicate_succ, List.replicate_zero, List.set_cons_zero, List.set_cons_succ, List.getElem?_cons_zero, List.getElem?_cons_succ, Option.getD_some, Nat.reduceSub, List.cons_append, List.nil_append, decide_true]
    exact gc_same rfl
  have hg := KG.of h0
  obtain ⟨hCP, hW, hlen, P, hP⟩ := knE_ok hg
  have hv5 := hg.v5
  have hll : (lists ws).length = ws.length := by simp
  rw [hll] at hP
  refine CallK.of (s32 hL hV hs hg) ?_
  have hp1 := pre_out A ((knE L (lists ws)).flatMap e5) (knE L (lists ws)).length
  have hq1 := Ls_out A e5_len (knE L (lists ws))
  generalize outV 5 A (knE L (lists ws)).length = v1 at *
  generalize outH A ((knE L (lists ws)).flatMap e5) (knE L (lists ws)).length = A1 at *
  simp (maxSteps := 4000000) -implicitDefEqProofs -dsimp (disch := omega) only [↓AW_ops, ↓AW_seq, ↓AOps_nil, ↓AOps_pu, ↓AOps_call, on_some, extK_false, ↓then_normal, pval, rd_S, put_S, chkd, bgot, partA, eq_self, List.replicate_succ, List.replicate_zero, List.set_cons_zero, List.set_cons_succ, List.getElem?_cons_zero, List.getElem?_cons_succ, List.drop_zero, List.take_succ_cons, List.take_nil, Option.getD_some, map_c, map_n, List.length_cons, List.length_nil, Nat.reduceAdd, Nat.reduceSub, Nat.reduceLeDiff, Nat.reduceEqDiff, Nat.zero_add, List.cons_append, List.nil_append, if_true, if_false]
  refine CallK.of (s33 (hL.mono hp1) (hV.mono hp1) hs hg) ?_
  have hp2 := pre_out A1 ((knE L (lists ws)).flatMap e5) (knE L (lists ws)).length
  have hq2 := Ls_out A1 e5_len (knE L (lists ws))
  generalize outV 5 A1 (knE L (lists ws)).length = v2 at *
  generalize outH A1 ((knE L (lists ws)).flatMap e5) (knE L (lists ws)).length = A2 at *
  have hq1 := hq1.mono hp2
  have hp := hp1.trans hp2
  have hcE : cpE L (lists ws) (knE L (lists ws)) = 0 := by rw [cpE, if_pos h0, if_pos hCP]
  simp (maxSteps := 4000000) -implicitDefEqProofs -dsimp (disch := omega) only [↓AW_ops, ↓AW_seq, ↓AOps_nil, ↓AOps_pu, ↓AOps_call, ↓AOps_guard, on_some, extK_false, guardB_ff, ↓then_normal, pval, rd_S, put_S, eq_self, List.replicate_succ, List.replicate_zero, List.set_cons_zero, List.set_cons_succ, List.getElem?_cons_zero, List.getElem?_cons_succ, Option.getD_some, map_c, map_n, Nat.reduceSub, List.cons_append, List.nil_append, bin_neq, decide_false, not_true_eq_false]
  refine CallK.of (c_same hq1 hq2 (by omega)) ?_
  simp (maxSteps := 4000000) -implicitDefEqProofs -dsimp (disch := omega) only [↓AW_skip, ↓AW_ops, ↓AW_seq, ↓AW_cond, ↓AOps_nil, ↓AOps_pu, ↓AOps_call, ↓AOps_guard, on_some, extK_same, guardB_ff, condB_f, ↓then_normal, pval, rd_S, rd_C, put_S, chkd, bgot, partA, eq_self, List.replicate_succ, List.replicate_zero, List.set_cons_zero, List.set_cons_succ, List.getElem?_cons_zero, List.getElem?_cons_succ, List.drop_zero, List.take_succ_cons, List.take_nil, Option.getD_some, map_c, map_n, List.length_cons, List.length_nil, Nat.reduceAdd, Nat.reduceSub, Nat.reduceLeDiff, Nat.reduceEqDiff, Nat.zero_add, List.cons_append, List.nil_append, bin_neq, if_true, if_false, Bool.false_eq_true, Bool.not_true, decide_true, decide_false, not_true_eq_false]
  refine CallK.of (s34 (hL.mono hp) (hV.mono hp) hs hg hq1 (by omega) hW hCP P hP) ?_
  simp (maxSteps := 4000000) -implicitDefEqProofs -dsimp (disch := omega) only [↓AW_ops, ↓AW_seq, ↓AOps_nil, ↓AOps_pu, ↓AOps_call, on_some, extK_same, ↓then_normal, pval, rd_S, put_S, chkd, bgot, partA, eq_self, List.replicate_succ, List.replicate_zero, List.set_cons_zero, List.set_cons_succ, List.getElem?_cons_zero, List.getElem?_cons_succ, List.drop_zero, List.take_succ_cons, List.take_nil, Option.getD_some, map_c, map_n, List.length_cons, List.length_nil, Nat.reduceAdd, Nat.reduceSub, Nat.reduceLeDiff, Nat.reduceEqDiff, Nat.zero_add, List.cons_append, List.nil_append, if_true, if_false, decide_true]
  refine CallK.of (s35 (hL.mono hp) (hV.mono hp) hs hq1 (by omega) hW) ?_
  simp (maxSteps := 4000000) -implicitDefEqProofs -dsimp (disch := omega) only [↓AOps_pu, ↓AOps_call, ↓AOps_guard, on_some, extK_same, guardB_tt, pval, rd_S, rd_C, put_S, eq_self, List.replicate_succ, List.replicate_zero, List.set_cons_zero, List.set_cons_succ, List.getElem?_cons_zero, List.getElem?_cons_succ, Option.getD_some, map_n, Nat.reduceSub, List.cons_append, List.nil_append, bin_eql, if_true, decide_true, hcE]
  refine CallK.of (known A2) ?_
  simp (maxSteps := 4000000) -implicitDefEqProofs -dsimp (disch := omega) only [↓AW_ret, ↓AOps_nil, ↓AOps_pu, on_some, extK_same, ↓then_normal, ↓Fin_ret, pval, rd_S, rd_C, put_S, resV, resL, eq_self, List.replicate_succ, List.replicate_zero, List.set_cons_zero, List.set_cons_succ, List.getElem?_cons_zero, List.getElem?_cons_succ, Option.getD_some, Nat.reduceSub, List.cons_append, List.nil_append, if_true, decide_true]
  exact gc_val hp rfl
end
end Go.Proofs.Ytmblehbjedpjoaa

