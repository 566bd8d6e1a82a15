/- Wishes: a place struck from a list. No conditions. -/
import Derived.Test.YtlmbobbefgcolaaW15
namespace Go.Proofs.Ytlmbobbefgcolaa
open Go Go.Eng

/-- Cells that are cleared. -/
def clA (es : Nat) (zero : List AV) (x : AV) (H : AHeap) : Option AHeap :=
  match x with
    | .nilS => some H
    | .sl es' n off len _ => if len = 0 then some H else if es' = es then match H[n]? with
        | some (.cells true l) => if off + len * es ≤ l.length then some (H.set n (.cells true (splice l off (repl zero len)))) else none
        | _ => none
      else none
    | _ => none
theorem hval_clr (es : Nat) (zero : List AV) (x : Opd) (S : List AV) (H : AHeap) : hval (.clr es zero x) S H = (clA es zero (rd S x) H).map (fun H' => (undefA, H')) := by
  simp only [hval, clA]
  cases rd S x with
  | sl es' n off len full =>
    simp only
    by_cases h0 : len = 0
    · simp [h0]
    · by_cases h1 : es' = es
      · simp only [h0, h1, if_true, if_false]
        cases H[n]? with
        | none => rfl
        | some o =>
          cases o with
          | cells rw l =>
            cases rw
            · rfl
            · simp only
              split <;> rfl
          | _ => rfl
      · simp [h0, h1]
  | nilS => rfl
  | _ => rfl

theorem OL_clr {A H : AHeap} {n : Nat} {v : AV} {xs : List Int} (h : OL 1 e1 A H n v xs) (i : Nat) (hi : i ≤ xs.length) (full : Bool) :
    clA 1 [.int .i64 0] (.sl 1 n (i * 1) (xs.length - i) full) H = some (H.set n (.cells true ((xs.take i ++ List.replicate (xs.length - i) 0).flatMap e1))) := by
  have hl := flatMap_length e1_len xs
  unfold clA
  by_cases h0 : xs.length - i = 0
  · have : i = xs.length := by omega
    simp only [h0, if_true]
    rw [List.replicate_zero, List.append_nil, List.take_of_length_le (by omega), set_same h.ob]
  · simp only [h0, if_false, if_true, h.ob]
    rw [if_pos (by omega), repl_zero]
    congr 2
    congr 1
    unfold splice
    have h1 := flat_take e1_len xs i hi
    rw [h1, flatMap_length e1_len, List.length_replicate, List.flatMap_append, List.append_assoc]
    congr 1
    rw [List.drop_of_length_le (by omega), List.append_nil]

theorem s91 {x p : Int} {A : AHeap} {a : Nat} (h : ldA 1 false (.ptr a 0) A = some (I p)) : ACalls Try.prog 91 [I x, .ptr a 0] A (B (decide (x = p))) A := by
  refine acalls hmix Try.func91 (by kernel_rfl) t91 2 rfl (by decide) ?_
  dsimp only [m91]
  simp (maxSteps := 4000000) -implicitDefEqProofs -dsimp (disch := omega) only [↓AW_ops, ↓AW_seq, ↓AW_ret, ↓AOps_nil, ↓AOps_pu, ↓AOps_ld, on_some, ↓then_normal, ↓Fin_ret, pval, lval, rd_S, rd_C, put_S, resV, resL, List.replicate_succ, List.replicate_zero, List.set_cons_zero, List.set_cons_succ, List.getElem?_cons_zero, List.getElem?_cons_succ, Option.getD_some, Nat.reduceSub, List.cons_append, List.nil_append, bin_eql, h]
  exact gc_same rfl

def without (l : List Int) (p : Int) : List Int := l.filter (fun x => !decide (x = p))

theorem without_take {l : List Int} {j : Nat} {z p : Int} (h : l[j]? = some z) : without (l.take (j + 1)) p = without (l.take j) p ++ if z = p then [] else [z] := by
  unfold without
  rw [List.take_add_one, h, List.filter_append]
  by_cases hz : z = p <;> simp [hz]
theorem without_le (l : List Int) (p : Int) : (without l p).length ≤ l.length := List.length_filter_le _ _

set_option maxHeartbeats 1000000 in
theorem s90 {A H : AHeap} {n a : Nat} {full : Bool} {xs : List Int} {p : Int} (h : OL 1 e1 A H n (.sl 1 n 0 xs.length full) xs) (hl : xs.length ≤ 1000) (ha : a ≠ n) (hp : ldA 1 false (.ptr a 0) H = some (I p)) :
    ACalls Try.prog 90 [.sl 1 n 0 xs.length full, .fn 91 [.ptr a 0]] H (.sl 1 n 0 (without xs p).length (full && ((without xs p).length == xs.length))) (H.set n (.cells true ((without xs p ++ List.replicate (xs.length - (without xs p).length) 0).flatMap e1))) := by
  refine acalls hmix Try.func90 (by kernel_rfl) t90 2 rfl (by decide) ?_
  have hpk : ∀ ys : List Int, ldA 1 false (.ptr a 0) (H.set n (.cells true (ys.flatMap e1))) = some (I p) := fun ys => by
    unfold ldA at hp ⊢
    simp only at hp ⊢
    rw [List.getElem?_set_ne (Ne.symm ha)]
    exact hp
  have hln : ∀ k, lenA (.sl 1 n 0 k full) = some (I k) := fun k => rfl
  dsimp only [m90]
  simp (maxSteps := 4000000) -implicitDefEqProofs -dsimp (disch := omega) only [↓AW_ops, ↓AW_seq, ↓AOps_nil, ↓AOps_pu, ↓AOps_call, on_some, ↓then_normal, pval, rd_S, rd_C, put_S, List.replicate_succ, List.replicate_zero, List.set_cons_zero, List.set_cons_succ, List.getElem?_cons_zero, List.getElem?_cons_succ, Option.getD_some, map_c, map_n, Nat.reduceSub, List.cons_append, List.nil_append]
  refine CallK.of (c_IndexFunc h.ls (by omega) 91 [.ptr a 0] (fun x => decide (x = p)) (fun x _ => s91 hp)) ?_
  by_cases hmem : p ∈ xs
  · obtain ⟨i0, hi0, hf, hz0⟩ := fpos_in hmem
    have hfe : fpos (fun x => decide (x = p)) xs = i0 := by
      rw [← hf]; congr 1; funext y; rw [decide_eq_decide]; exact ⟨fun e => e.symm, fun e => e.symm⟩
    rw [hfe]
    have hne : ¬ (i0 : Int) = -1 := by omega
    have hpre : ∀ y ∈ xs.take i0, y ≠ p := fun y hy e => by
      have h2 : xs.findIdx? (fun y => decide (p = y)) = some i0 := by
        unfold fpos at hf
        cases hh : xs.findIdx? (fun y => decide (p = y)) with
        | none => rw [hh] at hf; simp at hf
        | some k => rw [hh] at hf; simp at hf; congr 1; omega
      rw [List.findIdx?_eq_some_iff_getElem] at h2
      obtain ⟨_, _, h3⟩ := h2
      obtain ⟨j, hj, he⟩ := List.mem_take_iff_getElem.1 hy
      have := h3 j (by omega)
      rw [he, e] at this
      simp at this
    have hw0 : without (xs.take i0) p = xs.take i0 := by
      unfold without
      rw [List.filter_eq_self]
      intro y hy
      simp [hpre y hy]
    have hw1 : without (xs.take (i0 + 1)) p = xs.take i0 := by rw [without_take hz0, if_pos rfl, hw0, List.append_nil]
    simp (maxSteps := 4000000) -implicitDefEqProofs -dsimp (disch := omega) only [↓AW_skip, ↓AW_ops, ↓AW_seq, ↓AW_cond, ↓AW_block, ↓AOps_nil, ↓AOps_pu, on_some, extK_same, condB_f, ↓then_normal, pval, rd_S, rd_C, put_S, ↓AW_toLoop, List.replicate_succ, List.replicate_zero, List.set_cons_zero, List.set_cons_succ, List.getElem?_cons_zero, List.getElem?_cons_succ, Option.getD_some, Nat.reduceSub, List.cons_append, List.nil_append, bin_add, bin_eql, w64, decide_false, Int.reduceNeg, hne]
    refine LoopK.by 42 (fun x : Nat × Nat × List Int => (x.2.1 ≤ xs.length ∧ x.1 < x.2.1) ∧ x.2.2.length = xs.length ∧ x.2.2.take x.1 = without (xs.take x.2.1) p ∧ x.2.2.drop x.2.1 = xs.drop x.2.1) (fun x => [(0, .sl 1 n 0 xs.length full), (1, .fn 91 [.ptr a 0]), (5, I x.1), (6, I x.2.1)]) (fun x => H.set n (.cells true (x.2.2.flatMap e1))) (fun x => xs.length - x.2.1) (i0, i0 + 1, xs) ⟨by simp only; omega, rfl, hw1.symm, rfl⟩ rfl (by simp [Has, rd_s]) (by simp only; rw [set_same h.ob]) ?_
    rintro ⟨i, j, ys⟩ ⟨⟨hj, hij⟩, hyl, hyt, hyd⟩
    simp only at hj hij hyl hyt hyd
    have ho := OL_setAll h ys hyl
    have hwl : (without (xs.take j) p).length = i := by rw [← hyt, List.length_take]; omega
    by_cases hlt : j < xs.length
    · have hlt' : (j : Int) < xs.length := by omega
      obtain ⟨z, hz⟩ : ∃ z, xs[j]? = some z := ⟨_, List.getElem?_eq_getElem hlt⟩
      have hzy : ys[j]? = some z := by
        have : (ys.drop j)[0]? = (xs.drop j)[0]? := by rw [hyd]
        rw [List.getElem?_drop, List.getElem?_drop, Nat.add_zero] at this
        rw [this]; exact hz
      have hjy : j < ys.length := by omega
      have hiy : i < ys.length := by omega
      simp (maxSteps := 4000000) -implicitDefEqProofs -dsimp (disch := omega) only [↓AW_skip, ↓AW_ops, ↓AW_seq, ↓AW_cond, ↓AW_block, ↓AOps_nil, ↓AOps_pu, ↓AOps_ld, ↓AOps_callv, on_some, CallF_fn, condB_t, ↓then_normal, pval, lval, rd_S, put_S, partA, eq_self, mk, List.foldl_cons, List.foldl_nil, List.replicate_succ, List.replicate_zero, List.set_cons_zero, List.set_cons_succ, List.getElem?_cons_zero, List.getElem?_cons_succ, List.drop_zero, List.take_succ_cons, List.take_nil, Option.getD_some, map_c, map_n, List.length_cons, List.length_nil, Nat.reduceLeDiff, Nat.zero_add, List.cons_append, List.nil_append, bin_lss, if_true, if_false, Bool.false_eq_true, decide_true, Go.Eng.e1, hlt', hln, ho.ls.idx hjy, ho.ls.ld0 hzy 1 false (by decide)]
      refine CallK.of (s91 (hpk ys)) ?_
      by_cases hzp : z = p
      · simp (maxSteps := 4000000) -implicitDefEqProofs -dsimp (disch := omega) only [↓AW_skip, ↓AW_ops, ↓AW_cond, ↓AOps_nil, ↓AOps_pu, on_some, extK_same, condB_f, ↓then_normal, ↓inBlock_normal, pval, rd_S, rd_C, put_S, eq_self, mk, List.foldl_cons, List.foldl_nil, List.replicate_succ, List.replicate_zero, List.set_cons_zero, List.set_cons_succ, List.getElem?_cons_zero, List.getElem?_cons_succ, Option.getD_some, List.length_cons, List.length_nil, Nat.reduceAdd, Nat.zero_add, bin_add, w64, Bool.not_true, decide_true, true_and, hzp]
        refine ⟨(i, j + 1, ys), ⟨⟨hlt, by simp only; omega⟩, hyl, ?_, ?_⟩, by simp [Has, rd_s], rfl, by simp only; omega⟩
        · simp only; rw [without_take hz, if_pos hzp, List.append_nil]; exact hyt
        · simp only
          rw [← List.drop_drop, ← List.drop_drop, hyd]
      · have hst := ho.st hiy (I z) z rfl
        rw [List.set_set] at hst
        simp (maxSteps := 4000000) -implicitDefEqProofs -dsimp (disch := omega) only [↓AW_ops, ↓AW_seq, ↓AW_cond, ↓AOps_nil, ↓AOps_pu, ↓AOps_ha, on_some, extK_false, extK_same, condB_t, ↓then_normal, ↓inBlock_normal, pval, hval_st, rd_S, rd_C, put_S, putS_none, eq_self, mk, List.foldl_cons, List.foldl_nil, List.replicate_succ, List.replicate_zero, List.set_cons_zero, List.set_cons_succ, List.getElem?_cons_zero, List.getElem?_cons_succ, Option.getD_some, Option.map_some, List.length_cons, List.length_nil, Nat.reduceAdd, Nat.zero_add, bin_add, w64, Bool.not_false, decide_false, true_and, hzp, ho.ls.idx hiy, hst]
        refine ⟨(i + 1, j + 1, ys.set i z), ⟨⟨hlt, by simp only; omega⟩, by simp [hyl], ?_, ?_⟩, by simp [Has, rd_s], rfl, by simp only; omega⟩
        · simp only
          rw [without_take hz, if_neg hzp, ← hyt, List.take_add_one, List.getElem?_set_self hiy, Option.toList_some, List.take_set_of_le (Nat.le_refl _)]
        · simp only
          rw [List.drop_set_of_lt (by omega), ← List.drop_drop, ← List.drop_drop, hyd]
    · have hlt' : ¬ ((j : Int) < xs.length) := by omega
      have hjj : j = xs.length := by omega
      rw [show xs.take j = xs from List.take_of_length_le (by omega)] at hyt hwl
      have hs1 : slcA 1 (.sl 1 n 0 xs.length full) (some (I i)) none none = some (.sl 1 n (i * 1) (xs.length - i) full) := by
        have : i ≤ xs.length := by omega
        simp [slcA, bnd, this]
      have hs2 : slcA 1 (.sl 1 n 0 xs.length full) none (some (I i)) none = some (.sl 1 n 0 i (full && (i == xs.length))) := by
        have : i ≤ xs.length := by omega
        simp [slcA, bnd, this]
      have hc := OL_clr ho i (by omega) full
      rw [hyl, List.set_set, hyt] at hc
      simp (maxSteps := 4000000) -implicitDefEqProofs -dsimp (disch := omega) only [↓AW_ops, ↓AW_seq, ↓AW_cond, ↓AW_exit, ↓AW_ret, ↓AOps_nil, ↓AOps_pu, ↓AOps_ha, on_some, extK_false, condB_f, ↓then_normal, ↓then_exit, ↓inBlock_exit, ↓Fin_ret, pval, rd_S, put_S, putS_none, resV, resL, eq_self, mk, List.foldl_cons, List.foldl_nil, List.replicate_succ, List.replicate_zero, List.set_cons_zero, List.set_cons_succ, List.getElem?_cons_zero, List.getElem?_cons_succ, Option.getD_some, Option.map_some, Option.map_none, bin_lss, if_true, decide_false, hlt', hln, hs1, hval_clr, hc, hs2]
      exact gc_same_all (by rw [hwl]) (by rw [hwl])
  · have hfe : fpos (fun x => decide (x = p)) xs = -1 := fpos_none (fun y hy => by
      rw [decide_eq_false_iff_not]; rintro rfl; exact hmem hy)
    rw [hfe]
    have hw : without xs p = xs := by
      unfold without
      rw [List.filter_eq_self]
      intro y hy
      have : y ≠ p := by rintro rfl; exact hmem hy
      simp [this]
    simp (maxSteps := 4000000) -implicitDefEqProofs -dsimp (disch := omega) only [↓AW_ops, ↓AW_seq, ↓AW_cond, ↓AW_ret, ↓AOps_nil, ↓AOps_pu, on_some, extK_same, condB_t, ↓then_normal, ↓then_ret, ↓Fin_ret, pval, rd_S, rd_C, put_S, resV, resL, eq_self, List.replicate_succ, List.replicate_zero, List.set_cons_zero, List.set_cons_succ, List.getElem?_cons_zero, List.getElem?_cons_succ, Option.getD_some, Nat.reduceSub, List.cons_append, List.nil_append, bin_eql, decide_true, Int.reduceNeg]
    refine gc_same_all (by rw [hw]; simp) ?_
    rw [hw, Nat.sub_self, List.replicate_zero, List.append_nil, set_same h.ob]

end Go.Proofs.Ytlmbobbefgcolaa
