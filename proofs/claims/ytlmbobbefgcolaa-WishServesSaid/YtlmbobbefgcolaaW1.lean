/- Wishes: which are valid. No conditions. -/
import Derived.Test.YtlmbobbefgcolaaS1
namespace Go.Proofs.Ytlmbobbefgcolaa
open Go Go.Eng

def e0 (x : AV × List Int) : List AV := [x.1]
/-- A list of lists in memory. -/
structure LL (A : AHeap) (v : AV) (ws : List (AV × List Int)) : Prop where
  ls : Ls 1 e0 A v ws
  inn : ∀ x ∈ ws, L1 A x.1 x.2
theorem LL.mono {A A' : AHeap} {v : AV} {ws : List (AV × List Int)} (h : LL A v ws) (hp : A <+: A') : LL A' v ws := ⟨h.ls.mono hp, fun x hx => (h.inn x hx).mono hp⟩
abbrev lists (ws : List (AV × List Int)) : List (List Int) := ws.map Prod.snd
/-- Lists that are not long. -/
def Sz (ws : List (AV × List Int)) : Prop := ws.length ≤ 40 ∧ ∀ x ∈ ws, x.2.length ≤ 40

theorem ld_new (A : AHeap) (x : AV) (l : List AV) : ldA 1 false (.ptr A.length 0) (A ++ [.cells true (x :: l)]) = some x := by
  simp [ldA, partA]
theorem ld_new1 (A : AHeap) (x y : AV) (l : List AV) : ldA 1 false (.ptr A.length 1) (A ++ [.cells true (x :: y :: l)]) = some y := by
  simp [ldA, partA]
theorem ld_new2 (A : AHeap) (x y : AV) : ldA 2 true (.ptr A.length 0) (A ++ [.cells true [x, y]]) = some (.agg [x, y]) := by
  simp [ldA, partA]

theorem s32 {xs : List Int} {v : AV} {A : AHeap} (hx : L1 A v xs) : ACalls Try.prog 32 [v] A (B (decide ((40 : Int) < xs.length))) A := by
  refine acalls hmix Try.func32 (by kernel_rfl) t32 1 rfl (by decide) ?_
  dsimp only [m32]
  simp (maxSteps := 4000000) -implicitDefEqProofs -dsimp (disch := omega) only [↓AW_ops, ↓AW_seq, ↓AW_ret, ↓AOps_nil, ↓AOps_pu, on_some, ↓then_normal, ↓Fin_ret, pval, rd_S, rd_C, put_S, resV, resL, List.replicate_succ, List.replicate_zero, List.set_cons_zero, List.set_cons_succ, List.getElem?_cons_zero, List.getElem?_cons_succ, Option.getD_some, Nat.reduceSub, List.cons_append, List.nil_append, bin_gtr, hx.len]
  exact gc_same rfl

def longW (ws : List (AV × List Int)) : Prop := (∃ x ∈ ws, (40 : Int) < x.2.length) ∨ (40 : Int) < ws.length
theorem Sz_of {ws : List (AV × List Int)} (h : ¬ longW ws) : Sz ws := by
  refine ⟨?_, fun x hx => ?_⟩
  · have : ¬ (40 : Int) < ws.length := fun h1 => h (.inr h1)
    omega
  · have : ¬ (40 : Int) < x.2.length := fun h1 => h (.inl ⟨x, hx, h1⟩)
    omega
instance (ws : List (AV × List Int)) : Decidable (longW ws) := by unfold longW; exact inferInstance

theorem s17 {P : Int} {ws : List (AV × List Int)} {v : AV} {A : AHeap} (hw : LL A v ws) (hl : ws.length ≤ 9223372036854775807) : ACalls Try.prog 17 [.agg [I P, v]] A (B (decide (longW ws))) A := by
  refine acalls hmix Try.func17 (by kernel_rfl) t17 1 rfl (by decide) ?_
  dsimp only [m17]
  simp (maxSteps := 4000000) -implicitDefEqProofs -dsimp (disch := omega) only [↓AW_ops, ↓AW_seq, ↓AW_block, ↓AOps_nil, ↓AOps_pu, on_some, ↓then_normal, pval, rd_S, rd_C, put_S, ↓AW_toLoop, AV.cells?, List.replicate_succ, List.replicate_zero, List.set_cons_zero, List.set_cons_succ, List.getElem?_cons_zero, Option.getD_some, Nat.reduceSub, List.cons_append, List.nil_append]
  refine LoopK.by 21 (fun i : Nat => i ≤ ws.length ∧ ∀ x ∈ ws.take i, ¬ (40 : Int) < x.2.length) (fun i => [(1, .agg [I P, v]), (3, I i)]) (fun _ => A) (fun i => ws.length - i) 0 ⟨by omega, by simp⟩ rfl (by simp [Has, rd_s]) rfl ?_
  rintro i ⟨hi, he⟩
  by_cases hlt : i < ws.length
  · obtain ⟨x, hz⟩ : ∃ z, ws[i]? = some z := ⟨_, List.getElem?_eq_getElem hlt⟩
    have hlt' : (i : Int) < ws.length := by omega
    have hm := List.mem_of_getElem? hz
    simp (maxSteps := 4000000) -implicitDefEqProofs -dsimp (disch := omega) only [↓AW_skip, ↓AW_ops, ↓AW_seq, ↓AW_cond, ↓AW_block, ↓AOps_nil, ↓AOps_pu, ↓AOps_ld, ↓AOps_call, on_some, condB_t, ↓then_normal, pval, lval, rd_S, put_S, chkd, isAdr, bgot, AV.cells?, partA, eq_self, mk, List.foldl_cons, List.foldl_nil, List.replicate_succ, List.replicate_zero, List.set_cons_zero, List.set_cons_succ, List.getElem?_cons_zero, List.getElem?_cons_succ, List.drop_zero, List.drop_succ_cons, List.take_succ_cons, List.take_nil, Option.getD_some, map_c, map_n, List.length_cons, List.length_nil, Nat.reduceAdd, Nat.reduceLeDiff, Nat.zero_add, bin_lss, if_true, if_false, Bool.false_eq_true, decide_true, hlt', hw.ls.len, hw.ls.idx hlt, hw.ls.ld0 hz 1 false (by decide), e0]
    refine CallK.of (s32 (hw.inn x hm)) ?_
    by_cases h : (40 : Int) < x.2.length
    · simp (maxSteps := 4000000) -implicitDefEqProofs -dsimp (disch := omega) only [↓AW_ops, ↓AW_seq, ↓AW_cond, ↓AW_ret, ↓AOps_nil, ↓AOps_pu, on_some, extK_same, condB_t, ↓then_normal, ↓then_ret, ↓inBlock_ret, ↓Fin_ret, pval, rd_S, rd_C, put_S, resV, resL, mk, List.foldl_cons, List.foldl_nil, List.replicate_succ, List.replicate_zero, List.set_cons_zero, List.set_cons_succ, List.getElem?_cons_zero, List.getElem?_cons_succ, Option.getD_some, decide_true, h]
      exact gc_same (by rw [decide_eq_true (show longW ws from .inl ⟨x, hm, h⟩)])
    · simp (maxSteps := 4000000) -implicitDefEqProofs -dsimp (disch := omega) only [↓AW_skip, ↓AW_ops, ↓AW_cond, ↓AOps_nil, ↓AOps_pu, on_some, extK_same, condB_f, ↓then_normal, ↓inBlock_normal, pval, rd_S, rd_C, put_S, eq_self, mk, List.foldl_cons, List.foldl_nil, List.replicate_succ, List.replicate_zero, List.set_cons_zero, List.set_cons_succ, List.getElem?_cons_zero, List.getElem?_cons_succ, Option.getD_some, List.length_cons, List.length_nil, Nat.reduceAdd, Nat.zero_add, bin_add, w64, decide_false, true_and, h]
      refine ⟨i + 1, ⟨hlt, fun y hy => ?_⟩, by simp [Has, rd_s], by omega⟩
      rw [List.take_add_one, hz] at hy
      rcases List.mem_append.1 hy with hy | hy
      · exact he y hy
      · have : y = x := by simpa using hy
        rw [this]; exact h
  · have hlt' : ¬ ((i : Int) < ws.length) := by omega
    simp (maxSteps := 4000000) -implicitDefEqProofs -dsimp (disch := omega) only [↓AW_ops, ↓AW_seq, ↓AW_cond, ↓AW_exit, ↓AW_ret, ↓AOps_nil, ↓AOps_pu, on_some, condB_f, ↓then_normal, ↓then_exit, ↓inBlock_exit, ↓Fin_ret, pval, rd_S, rd_C, put_S, resV, resL, chkd, isAdr, bgot, AV.cells?, partA, eq_self, mk, List.foldl_cons, List.foldl_nil, List.replicate_succ, List.replicate_zero, List.set_cons_zero, List.set_cons_succ, List.getElem?_cons_zero, List.getElem?_cons_succ, List.drop_zero, List.drop_succ_cons, List.take_succ_cons, List.take_nil, Option.getD_some, List.length_cons, List.length_nil, Nat.reduceAdd, Nat.reduceLeDiff, Nat.zero_add, bin_lss, bin_gtr, if_true, if_false, Bool.false_eq_true, decide_false, hlt', hw.ls.len]
    rw [List.take_of_length_le (by omega)] at he
    refine gc_same ?_
    congr 1
    rw [decide_eq_decide]
    constructor
    · exact fun h => .inr h
    · rintro (⟨x, hx, h⟩ | h)
      · exact absurd h (he x hx)
      · exact h

def inP (P : Int) (p : Int) : Prop := 0 ≤ p ∧ p < P
instance (P p : Int) : Decidable (inP P p) := by unfold inP; exact inferInstance

theorem s95 {n p : Int} {A : AHeap} {a o : Nat} (h : ldA 1 false (.ptr a o) A = some (I n)) : ACalls Try.prog 95 [I p, .ptr a o] A (B (!decide (inP n p))) A := by
  refine acalls hmix Try.func95 (by kernel_rfl) t95 2 rfl (by decide) ?_
  by_cases h1 : p < 0
  · dsimp only [m95]
    simp (maxSteps := 4000000) -implicitDefEqProofs -dsimp (disch := omega) only [↓AW_ops, ↓AW_seq, ↓AW_ret, ↓AOps_nil, ↓AOps_pu, ↓AOps_guard, on_some, guardB_tf, skipS_some, ↓then_normal, ↓Fin_ret, pval, rd_S, rd_C, put_S, resV, resL, eq_self, List.replicate_succ, List.replicate_zero, List.set_cons_zero, List.set_cons_succ, List.getElem?_cons_zero, List.getElem?_cons_succ, Option.getD_some, Nat.reduceSub, List.cons_append, List.nil_append, bin_lss, if_true, decide_true, h1]
    exact gc_same (by rw [decide_eq_false (fun h2 : inP n p => by have := h2.1; omega)]; rfl)
  · dsimp only [m95]
    simp (maxSteps := 4000000) -implicitDefEqProofs -dsimp (disch := omega) only [↓AW_ops, ↓AW_seq, ↓AW_ret, ↓AOps_nil, ↓AOps_pu, ↓AOps_ld, ↓AOps_guard, on_some, guardB_ff, ↓then_normal, ↓Fin_ret, pval, lval, rd_S, rd_C, put_S, resV, resL, List.replicate_succ, List.replicate_zero, List.set_cons_zero, List.set_cons_succ, List.getElem?_cons_zero, List.getElem?_cons_succ, Option.getD_some, Nat.reduceSub, List.cons_append, List.nil_append, bin_lss, bin_geq, if_false, Bool.false_eq_true, decide_false, h1, h]
    refine gc_same ?_
    have : inP n p ↔ ¬ n ≤ p := by unfold inP; omega
    congr 1
    rw [Bool.eq_iff_iff]
    simp [this]

theorem s73 {xs : List Int} {v : AV} {A : AHeap} (hx : L1 A v xs) (hl : xs.length ≤ 1000000) (n : Int) : ACalls Try.prog 73 [v, I n] A (B (decide (∀ p ∈ xs, inP n p))) A := by
  refine acalls hmix Try.func73 (by kernel_rfl) t73 2 rfl (by decide) ?_
  dsimp only [m73]
  simp (maxSteps := 4000000) -implicitDefEqProofs -dsimp (disch := omega) only [↓AW_ops, ↓AW_seq, ↓AOps_nil, ↓AOps_pu, ↓AOps_ha, ↓AOps_call, on_some, extK_app, ↓then_normal, pval, hval, rd_S, rd_C, put_S, AV.cells?, List.replicate_succ, List.replicate_zero, List.set_cons_zero, List.set_cons_succ, List.getElem?_cons_zero, List.getElem?_cons_succ, Option.getD_some, map_c, map_n, Nat.reduceSub, List.cons_append, List.nil_append]
  refine CallK.of (c_ContainsFunc (hx.mono (pre_app A [.cells true [I n]])) hl 95 [.ptr A.length 0] (fun p => !decide (inP n p)) (fun x _ => s95 (ld_new A _ _))) ?_
  simp (maxSteps := 4000000) -implicitDefEqProofs -dsimp (disch := omega) only [↓AW_ret, ↓AOps_nil, ↓AOps_pu, on_some, extK_same, ↓then_normal, ↓Fin_ret, pval, rd_S, put_S, resV, resL, List.replicate_succ, List.replicate_zero, List.set_cons_zero, List.set_cons_succ, List.getElem?_cons_zero, List.getElem?_cons_succ, Option.getD_some, Nat.reduceSub, List.cons_append, List.nil_append]
  refine gc_val (pre_app _ _) ?_
  simp only [ren]
  congr 1
  rw [Bool.eq_iff_iff]
  simp

/-- The error of a list of places. -/
def lE (P : Int) (l : List Int) : Int := if ∀ p ∈ l, inP P p then (if l.Nodup then 0 else 6) else 1
def lsE (P : Int) : List (List Int) → Int
  | [] => 0
  | l :: r => if lE P l = 0 then lsE P r else lE P l
/-- The error of wishes. -/
def vW (P : Int) (ls : List (List Int)) : Int := if ¬ (1 ≤ P ∧ P ≤ 7) then 1 else if 7 < ls.length then 3 else lsE P ls

theorem lsE_append (P : Int) : ∀ (a b : List (List Int)), lsE P (a ++ b) = if lsE P a = 0 then lsE P b else lsE P a
  | [], b => by simp [lsE]
  | l :: a, b => by
    by_cases h : lE P l = 0 <;> simp [lsE, h, lsE_append P a b]

theorem lsE_ok {P : Int} {ls : List (List Int)} {i : Nat} {l : List Int} (hl : ls[i]? = some l) (h : lsE P (ls.take i) = 0) (h2 : lE P l = 0) : lsE P (ls.take (i + 1)) = 0 := by
  rw [List.take_add_one, hl, lsE_append, if_pos h]
  simp [lsE, h2]
theorem lsE_bad {P : Int} {ls : List (List Int)} {i : Nat} {l : List Int} (hl : ls[i]? = some l) (h : lsE P (ls.take i) = 0) (h2 : lE P l ≠ 0) : lsE P ls = lE P l := by
  have hi : i < ls.length := (List.getElem?_eq_some_iff.1 hl).1
  have e : ls = ls.take i ++ l :: ls.drop (i + 1) := by
    have := (List.getElem?_eq_some_iff.1 hl).2
    rw [← this, List.getElem_cons_drop, List.take_append_drop]
  rw [e, lsE_append, if_pos h]
  simp [lsE, h2]

theorem ws_get {ws : List (AV × List Int)} {i : Nat} {x : AV × List Int} (hz : ws[i]? = some x) : (lists ws)[i]? = some x.2 := by
  rw [List.getElem?_map, hz]; rfl

theorem nodup_take {α : Type} {l : List α} {k : Nat} {p : α} (hp : l[k]? = some p) (h : (l.take k).Nodup) (hn : p ∉ l.take k) : (l.take (k + 1)).Nodup := by
  rw [List.take_add_one, hp, Option.toList_some, List.nodup_append]
  refine ⟨h, by simp, fun a ha b hb => ?_⟩
  have : b = p := by simpa using hb
  subst this
  rintro rfl
  exact hn ha

theorem not_nodup {α : Type} {l : List α} {k : Nat} {p : α} (hp : l[k]? = some p) (hn : p ∈ l.take k) : ¬ l.Nodup := by
  intro h
  have hi : k < l.length := (List.getElem?_eq_some_iff.1 hp).1
  have e : l = l.take k ++ p :: l.drop (k + 1) := by
    have := (List.getElem?_eq_some_iff.1 hp).2
    rw [← this, List.getElem_cons_drop, List.take_append_drop]
  rw [e, List.nodup_append] at h
  exact h.2.2 p hn p (by simp) rfl

theorem vW_P {P : Int} {ls : List (List Int)} (h : ¬ (1 ≤ P ∧ P ≤ 7)) : vW P ls = 1 := by unfold vW; rw [if_pos h]
theorem vW_n {P : Int} {ls : List (List Int)} (h : 1 ≤ P ∧ P ≤ 7) (h2 : 7 < ls.length) : vW P ls = 3 := by unfold vW; rw [if_neg (by omega), if_pos h2]
theorem vW_l {P : Int} {ls : List (List Int)} (h : 1 ≤ P ∧ P ≤ 7) (h2 : ¬ 7 < ls.length) : vW P ls = lsE P ls := by unfold vW; rw [if_neg (by omega), if_neg h2]

theorem s39 {P : Int} {ws : List (AV × List Int)} {v : AV} {A : AHeap} (hw : LL A v ws) (hs : Sz ws) : ACalls Try.prog 39 [.agg [I P, v]] A (I (vW P (lists ws))) A := by
  refine acalls hmix Try.func39 (by kernel_rfl) t39 1 rfl (by decide) ?_
  obtain ⟨hs1, hs2⟩ := hs
  by_cases h1 : P < 1
  · dsimp only [m39]
    simp (maxSteps := 4000000) -implicitDefEqProofs -dsimp (disch := omega) only [↓AW_ops, ↓AW_seq, ↓AW_cond, ↓AW_ret, ↓AOps_nil, ↓AOps_pu, ↓AOps_guard, on_some, guardB_tf, skipS_some, condB_t, ↓then_normal, ↓then_ret, ↓Fin_ret, pval, rd_S, rd_C, put_S, resV, resL, chkd, isAdr, bgot, AV.cells?, partA, eq_self, List.replicate_succ, List.replicate_zero, List.set_cons_zero, List.set_cons_succ, List.getElem?_cons_zero, List.getElem?_cons_succ, List.drop_zero, List.take_zero, List.take_succ_cons, Option.getD_some, List.length_cons, List.length_nil, Nat.reduceAdd, Nat.reduceSub, Nat.reduceLeDiff, Nat.zero_add, List.cons_append, List.nil_append, bin_lss, if_true, if_false, Bool.false_eq_true, decide_true, h1]
    exact gc_same (by rw [vW_P (by omega)])
  · by_cases h2 : 7 < P
    · dsimp only [m39]
      simp (maxSteps := 4000000) -implicitDefEqProofs -dsimp (disch := omega) only [↓AW_ops, ↓AW_seq, ↓AW_cond, ↓AW_ret, ↓AOps_nil, ↓AOps_pu, ↓AOps_guard, on_some, guardB_ff, condB_t, ↓then_normal, ↓then_ret, ↓Fin_ret, pval, rd_S, rd_C, put_S, resV, resL, chkd, isAdr, bgot, AV.cells?, partA, eq_self, List.replicate_succ, List.replicate_zero, List.set_cons_zero, List.set_cons_succ, List.getElem?_cons_zero, List.getElem?_cons_succ, List.drop_zero, List.take_zero, List.take_succ_cons, Option.getD_some, List.length_cons, List.length_nil, Nat.reduceAdd, Nat.reduceSub, Nat.reduceLeDiff, Nat.zero_add, List.cons_append, List.nil_append, bin_lss, bin_gtr, if_true, if_false, Bool.false_eq_true, decide_true, decide_false, h1, h2]
      exact gc_same (by rw [vW_P (by omega)])
    · by_cases h3 : (7 : Int) < ws.length
      · dsimp only [m39]
        simp (maxSteps := 4000000) -implicitDefEqProofs -dsimp (disch := omega) only [↓AW_skip, ↓AW_ops, ↓AW_seq, ↓AW_cond, ↓AW_ret, ↓AOps_nil, ↓AOps_pu, ↓AOps_guard, on_some, guardB_ff, condB_t, condB_f, ↓then_normal, ↓then_ret, ↓Fin_ret, pval, rd_S, rd_C, put_S, resV, resL, chkd, isAdr, bgot, AV.cells?, partA, eq_self, List.replicate_succ, List.replicate_zero, List.set_cons_zero, List.set_cons_succ, List.getElem?_cons_zero, List.getElem?_cons_succ, List.drop_zero, List.drop_succ_cons, List.take_zero, List.take_succ_cons, List.take_nil, Option.getD_some, List.length_cons, List.length_nil, Nat.reduceAdd, Nat.reduceSub, Nat.reduceLeDiff, Nat.zero_add, List.cons_append, List.nil_append, bin_lss, bin_gtr, if_true, if_false, Bool.false_eq_true, decide_true, decide_false, h1, h2, h3, hw.ls.len]
        exact gc_same (by rw [vW_n (by omega) (by simp; omega)])
      · dsimp only [m39]
        simp (maxSteps := 4000000) -implicitDefEqProofs -dsimp (disch := omega) only [↓AW_skip, ↓AW_ops, ↓AW_seq, ↓AW_cond, ↓AW_block, ↓AOps_nil, ↓AOps_pu, ↓AOps_guard, on_some, guardB_ff, condB_f, ↓then_normal, pval, rd_S, rd_C, put_S, ↓AW_toLoop, chkd, isAdr, bgot, AV.cells?, partA, eq_self, List.replicate_succ, List.replicate_zero, List.set_cons_zero, List.set_cons_succ, List.getElem?_cons_zero, List.getElem?_cons_succ, List.drop_zero, List.drop_succ_cons, List.take_zero, List.take_succ_cons, List.take_nil, Option.getD_some, List.length_cons, List.length_nil, Nat.reduceAdd, Nat.reduceSub, Nat.reduceLeDiff, Nat.zero_add, List.cons_append, List.nil_append, bin_lss, bin_gtr, if_true, if_false, Bool.false_eq_true, decide_false, h1, h2, h3, hw.ls.len]
        rw [vW_l (by omega) (by simp; omega)]
        refine LoopK.by 45 (fun i : Nat => i ≤ ws.length ∧ lsE P ((lists ws).take i) = 0) (fun i => [(1, .agg [I P, v]), (20, v), (21, I ws.length), (22, I i)]) (fun _ => A) (fun i => ws.length - i) 0 ⟨by omega, rfl⟩ rfl (by simp [Has, rd_s]) rfl ?_
        rintro i ⟨hi, he⟩
        by_cases hlt : i < ws.length
        · obtain ⟨x, hz⟩ : ∃ z, ws[i]? = some z := ⟨_, List.getElem?_eq_getElem hlt⟩
          have hlt' : (i : Int) < ws.length := by omega
          have hm := List.mem_of_getElem? hz
          have hx := hw.inn x hm
          have hx2 := hs2 x hm
          simp (maxSteps := 4000000) -implicitDefEqProofs -dsimp (disch := omega) only [↓AW_skip, ↓AW_ops, ↓AW_seq, ↓AW_cond, ↓AW_block, ↓AOps_nil, ↓AOps_pu, ↓AOps_ld, ↓AOps_call, on_some, condB_t, ↓then_normal, pval, lval, rd_S, put_S, chkd, isAdr, bgot, AV.cells?, partA, eq_self, mk, List.foldl_cons, List.foldl_nil, List.replicate_succ, List.replicate_zero, List.set_cons_zero, List.set_cons_succ, List.getElem?_cons_zero, List.getElem?_cons_succ, List.drop_zero, List.take_zero, List.take_succ_cons, List.take_nil, Option.getD_some, map_c, map_n, List.length_cons, List.length_nil, Nat.reduceAdd, Nat.reduceLeDiff, Nat.zero_add, bin_lss, if_true, if_false, Bool.false_eq_true, decide_true, hlt', hw.ls.idx hlt, hw.ls.ld0 hz 1 false (by decide), e0]
          refine CallK.of (s73 hx (by omega) P) ?_
          by_cases hp : ∀ p ∈ x.2, inP P p
          · rw [decide_eq_true hp]
            simp (maxSteps := 4000000) -implicitDefEqProofs -dsimp (disch := omega) only [↓AW_skip, ↓AW_ops, ↓AW_seq, ↓AW_cond, ↓AW_block, ↓AOps_nil, ↓AOps_pu, on_some, extK_same, condB_f, ↓then_normal, pval, rd_S, rd_C, put_S, ↓AW_toLoop, mk, List.foldl_cons, List.foldl_nil, List.replicate_succ, List.replicate_zero, List.set_cons_zero, List.set_cons_succ, List.getElem?_cons_zero, List.getElem?_cons_succ, Option.getD_some, Bool.not_true, hx.len]
            refine LoopK.by 45 (fun k : Nat => k ≤ x.2.length ∧ (x.2.take k).Nodup) (fun k => [(1, .agg [I P, v]), (4, x.1), (20, v), (21, I ws.length), (22, I i), (31, x.1), (32, I x.2.length), (33, I k)]) (fun _ => A) (fun k => x.2.length - k) 0 ⟨by omega, by simp⟩ rfl (by simp [Has, rd_s]) rfl ?_
            rintro k ⟨hk, hnd⟩
            by_cases hltk : k < x.2.length
            · obtain ⟨p, hzp⟩ : ∃ p, x.2[k]? = some p := ⟨_, List.getElem?_eq_getElem hltk⟩
              have hltk' : (k : Int) < x.2.length := by omega
              obtain ⟨v', hv', hL⟩ := Ls_takeS hx k (by omega)
              simp (maxSteps := 4000000) -implicitDefEqProofs -dsimp (disch := omega) only [↓AW_skip, ↓AW_ops, ↓AW_seq, ↓AW_cond, ↓AW_block, ↓AOps_nil, ↓AOps_pu, ↓AOps_ld, ↓AOps_call, on_some, condB_t, ↓then_normal, pval, lval, rd_S, put_S, partA, eq_self, mk, List.foldl_cons, List.foldl_nil, List.replicate_succ, List.replicate_zero, List.set_cons_zero, List.set_cons_succ, List.getElem?_cons_zero, List.getElem?_cons_succ, List.drop_zero, List.take_succ_cons, List.take_nil, Option.getD_some, Option.map_some, Option.map_none, map_c, map_n, List.length_cons, List.length_nil, Nat.reduceLeDiff, Nat.zero_add, bin_lss, if_true, if_false, Bool.false_eq_true, decide_true, Go.Eng.e1, hltk', hx.idx hltk, hx.ld0 hzp 1 false (by decide), hv']
              refine CallK.of (c_Contains hL (by rw [List.length_take]; omega) p) ?_
              by_cases hc : p ∈ x.2.take k
              · simp (maxSteps := 4000000) -implicitDefEqProofs -dsimp (disch := omega) only [↓AW_ops, ↓AW_seq, ↓AW_cond, ↓AW_ret, ↓AOps_nil, ↓AOps_pu, on_some, extK_same, condB_t, ↓then_normal, ↓then_ret, ↓inBlock_ret, ↓Fin_ret, pval, rd_S, rd_C, put_S, resV, resL, mk, List.foldl_cons, List.foldl_nil, List.replicate_succ, List.replicate_zero, List.set_cons_zero, List.set_cons_succ, List.getElem?_cons_zero, List.getElem?_cons_succ, Option.getD_some, decide_true, hc]
                have hb : lE P x.2 = 6 := by unfold lE; rw [if_pos hp, if_neg (not_nodup hzp hc)]
                exact gc_same (by rw [lsE_bad (ws_get hz) he (by rw [hb]; decide), hb])
              · simp (maxSteps := 4000000) -implicitDefEqProofs -dsimp (disch := omega) only [↓AW_skip, ↓AW_ops, ↓AW_cond, ↓AOps_nil, ↓AOps_pu, on_some, extK_same, condB_f, ↓then_normal, ↓inBlock_normal, pval, rd_S, rd_C, put_S, eq_self, mk, List.foldl_cons, List.foldl_nil, List.replicate_succ, List.replicate_zero, List.set_cons_zero, List.set_cons_succ, List.getElem?_cons_zero, List.getElem?_cons_succ, Option.getD_some, List.length_cons, List.length_nil, Nat.reduceAdd, Nat.zero_add, bin_add, w64, decide_false, true_and, hc]
                exact ⟨k + 1, ⟨hltk, nodup_take hzp hnd hc⟩, by simp [Has, rd_s], by omega⟩
            · have hltk' : ¬ ((k : Int) < x.2.length) := by omega
              rw [List.take_of_length_le (by omega)] at hnd
              simp (maxSteps := 4000000) -implicitDefEqProofs -dsimp (disch := omega) only [↓AW_ops, ↓AW_seq, ↓AW_cond, ↓AW_exit, ↓AW_ret, ↓AOps_nil, ↓AOps_pu, on_some, condB_f, ↓then_normal, ↓then_exit, ↓inBlock_normal, ↓inBlock_exit, ↓Fin_ret, pval, rd_S, rd_C, put_S, resV, resL, eq_self, mk, List.foldl_cons, List.foldl_nil, List.replicate_succ, List.replicate_zero, List.set_cons_zero, List.set_cons_succ, List.getElem?_cons_zero, List.getElem?_cons_succ, Option.getD_some, List.length_cons, List.length_nil, Nat.reduceAdd, Nat.reduceEqDiff, Nat.zero_add, bin_add, bin_lss, w64, if_true, if_false, decide_false, true_and, reduceCtorEq, hltk']
              exact ⟨i + 1, ⟨hlt, lsE_ok (ws_get hz) he (by unfold lE; rw [if_pos hp, if_pos hnd])⟩, by simp [Has, rd_s], by omega⟩
          · rw [decide_eq_false hp]
            simp (maxSteps := 4000000) -implicitDefEqProofs -dsimp (disch := omega) only [↓AW_ops, ↓AW_seq, ↓AW_cond, ↓AW_ret, ↓AOps_nil, ↓AOps_pu, on_some, extK_same, condB_t, ↓then_normal, ↓then_ret, ↓inBlock_ret, ↓Fin_ret, pval, rd_S, rd_C, put_S, resV, resL, mk, List.foldl_cons, List.foldl_nil, List.replicate_succ, List.replicate_zero, List.set_cons_zero, List.set_cons_succ, List.getElem?_cons_zero, List.getElem?_cons_succ, Option.getD_some, Bool.not_false]
            have hb : lE P x.2 = 1 := by unfold lE; rw [if_neg hp]
            exact gc_same (by rw [lsE_bad (ws_get hz) he (by rw [hb]; decide), hb])
        · have hlt' : ¬ ((i : Int) < ws.length) := by omega
          simp (maxSteps := 4000000) -implicitDefEqProofs -dsimp (disch := omega) only [↓AW_ops, ↓AW_seq, ↓AW_cond, ↓AW_exit, ↓AW_ret, ↓AOps_nil, ↓AOps_pu, on_some, condB_f, ↓then_normal, ↓then_exit, ↓inBlock_exit, ↓Fin_ret, pval, rd_S, rd_C, put_S, resV, resL, eq_self, mk, List.foldl_cons, List.foldl_nil, List.replicate_succ, List.replicate_zero, List.set_cons_zero, List.set_cons_succ, List.getElem?_cons_zero, List.getElem?_cons_succ, Option.getD_some, bin_lss, if_true, decide_false, hlt']
          rw [List.take_of_length_le (by simp; omega)] at he
          exact gc_same (by rw [he])

theorem s64 (n lo hi : Int) (A : AHeap) : ACalls Try.prog 64 [I n, I lo, I hi] A (B (decide (lo ≤ n ∧ n ≤ hi))) A := by
  refine acalls hmix Try.func64 (by kernel_rfl) t64 3 rfl (by decide) ?_
  by_cases h : lo ≤ n
  · dsimp only [m64]
    simp (maxSteps := 4000000) -implicitDefEqProofs -dsimp (disch := omega) only [↓AW_ops, ↓AW_seq, ↓AW_ret, ↓AOps_nil, ↓AOps_pu, ↓AOps_guard, on_some, guardB_tt, ↓then_normal, ↓Fin_ret, pval, rd_S, rd_C, put_S, resV, resL, eq_self, List.replicate_succ, List.replicate_zero, List.set_cons_zero, List.set_cons_succ, List.getElem?_cons_zero, List.getElem?_cons_succ, Option.getD_some, Nat.reduceSub, List.cons_append, List.nil_append, bin_leq, bin_geq, if_true, decide_true, true_and, h]
    exact gc_same rfl
  · dsimp only [m64]
    simp (maxSteps := 4000000) -implicitDefEqProofs -dsimp (disch := omega) only [↓AW_ops, ↓AW_seq, ↓AW_ret, ↓AOps_nil, ↓AOps_pu, ↓AOps_guard, on_some, guardB_ft, skipS_some, ↓then_normal, ↓Fin_ret, pval, rd_S, rd_C, put_S, resV, resL, List.replicate_succ, List.replicate_zero, List.set_cons_zero, List.set_cons_succ, List.getElem?_cons_zero, List.getElem?_cons_succ, Option.getD_some, Nat.reduceSub, List.cons_append, List.nil_append, bin_geq, if_false, Bool.false_eq_true, decide_false, h]
    exact gc_same rfl

theorem s65 {xs : List Int} {v : AV} {A : AHeap} (hx : L1 A v xs) (hl : xs.length ≤ 1000000) (p : Int) : ACalls Try.prog 65 [v, I p] A (B (decide (p ∈ xs))) A := by
  refine acalls hmix Try.func65 (by kernel_rfl) t65 2 rfl (by decide) ?_
  dsimp only [m65]
  simp (maxSteps := 4000000) -implicitDefEqProofs -dsimp (disch := omega) only [↓AW_ops, ↓AW_seq, ↓AW_block, ↓AOps_nil, ↓AOps_pu, on_some, ↓then_normal, pval, rd_C, put_S, ↓AW_toLoop, List.replicate_succ, List.replicate_zero, List.set_cons_zero, List.set_cons_succ, Nat.reduceSub, List.cons_append, List.nil_append]
  refine LoopK.by 18 (fun i : Nat => i ≤ xs.length ∧ p ∉ xs.take i) (fun i => [(0, v), (1, I p), (5, I i)]) (fun _ => A) (fun i => xs.length - i) 0 ⟨by omega, by simp⟩ rfl (by simp [Has, rd_s]) rfl ?_
  rintro i ⟨hi, he⟩
  by_cases hlt : i < xs.length
  · obtain ⟨z, hz⟩ : ∃ z, xs[i]? = some z := ⟨_, List.getElem?_eq_getElem hlt⟩
    have hlt' : (i : Int) < xs.length := by omega
    by_cases h : z = p
    · simp (maxSteps := 4000000) -implicitDefEqProofs -dsimp (disch := omega) only [↓AW_skip, ↓AW_ops, ↓AW_seq, ↓AW_cond, ↓AW_block, ↓AW_ret, ↓AOps_nil, ↓AOps_pu, ↓AOps_ld, on_some, condB_t, ↓then_normal, ↓then_ret, ↓inBlock_ret, ↓Fin_ret, pval, lval, rd_S, rd_C, put_S, resV, resL, partA, eq_self, mk, List.foldl_cons, List.foldl_nil, List.replicate_succ, List.replicate_zero, List.set_cons_zero, List.set_cons_succ, List.getElem?_cons_zero, List.getElem?_cons_succ, List.drop_zero, List.take_succ_cons, List.take_nil, Option.getD_some, List.length_cons, List.length_nil, Nat.reduceLeDiff, Nat.zero_add, bin_eql, bin_lss, if_true, if_false, Bool.false_eq_true, decide_true, Go.Eng.e1, hlt', hx.len, hx.idx hlt, hx.ld0 hz 1 false (by decide), h]
      exact gc_same (by rw [decide_eq_true (h ▸ List.mem_of_getElem? hz)])
    · simp (maxSteps := 4000000) -implicitDefEqProofs -dsimp (disch := omega) only [↓AW_skip, ↓AW_ops, ↓AW_seq, ↓AW_cond, ↓AW_block, ↓AOps_nil, ↓AOps_pu, ↓AOps_ld, on_some, condB_t, condB_f, ↓then_normal, ↓inBlock_normal, pval, lval, rd_S, rd_C, put_S, partA, eq_self, mk, List.foldl_cons, List.foldl_nil, List.replicate_succ, List.replicate_zero, List.set_cons_zero, List.set_cons_succ, List.getElem?_cons_zero, List.getElem?_cons_succ, List.drop_zero, List.take_succ_cons, List.take_nil, Option.getD_some, List.length_cons, List.length_nil, Nat.reduceAdd, Nat.reduceLeDiff, Nat.zero_add, bin_add, bin_eql, bin_lss, w64, if_true, if_false, Bool.false_eq_true, decide_true, decide_false, Go.Eng.e1, true_and, hlt', hx.len, hx.idx hlt, hx.ld0 hz 1 false (by decide), h]
      refine ⟨i + 1, ⟨hlt, fun hy => ?_⟩, by simp [Has, rd_s], by omega⟩
      rw [List.take_add_one, hz] at hy
      rcases List.mem_append.1 hy with hy | hy
      · exact he hy
      · have : p = z := by simpa using hy
        exact h this.symm
  · have hlt' : ¬ ((i : Int) < xs.length) := by omega
    simp (maxSteps := 4000000) -implicitDefEqProofs -dsimp (disch := omega) only [↓AW_ops, ↓AW_seq, ↓AW_cond, ↓AW_exit, ↓AW_ret, ↓AOps_nil, ↓AOps_pu, on_some, condB_f, ↓then_normal, ↓then_exit, ↓inBlock_exit, ↓Fin_ret, pval, rd_S, rd_C, put_S, resV, resL, eq_self, mk, List.foldl_cons, List.foldl_nil, List.replicate_succ, List.replicate_zero, List.set_cons_zero, List.set_cons_succ, List.getElem?_cons_zero, List.getElem?_cons_succ, Option.getD_some, bin_lss, if_true, decide_false, hlt', hx.len]
    rw [List.take_of_length_le (by omega)] at he
    exact gc_same (by rw [decide_eq_false he])

end Go.Proofs.Ytlmbobbefgcolaa
