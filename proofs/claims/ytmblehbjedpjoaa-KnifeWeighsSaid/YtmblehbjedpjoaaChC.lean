/- What the law's proof rests on, part 5: for all that is said in each line. No conditions. -/
import Derived.Test.YtmblehbjedpjoaaChB
namespace Go.Proofs.Ytmblehbjedpjoaa
open Go Go.Eng
/-- Cells that are cleared. -/
def clA (es : Nat) (zero : List AV) (x : AV) (H : AHeap) : Option AHeap :=
  match x with
    | .nilS => some H
    | .sl es' n off len _ => if len = 0 then some H else if es' = es then match H[n]? with
        | some (.cells true l) => if off + len * es ≤ l.length then some (H.set n (.cells true (splice l off (repl zero len)))) else none
        | _ => none
      else none
    | _ => none
theorem hval_clr (es : Nat) (zero : List AV) (x : Opd) (S : List AV) (H : AHeap) : hval (.clr es zero x) S H = (clA es zero (rd S x) H).map (fun H' => (undefA, H')) := by
  simp only [hval, clA]
  cases rd S x with
  | sl es' n off len full =>
    simp only
    by_cases h0 : len = 0
    · simp [h0]
    · by_cases h1 : es' = es
      · simp only [h0, h1, if_true, if_false]
        cases H[n]? with
        | none => rfl
        | some o =>
          cases o with
          | cells rw l =>
            cases rw
            · rfl
            · simp only
              split <;> rfl
          | _ => rfl
      · simp [h0, h1]
  | nilS => rfl
  | _ => rfl
theorem flat_map (xs : List Int) : xs.flatMap e1 = xs.map (fun x => I x) := by
  induction xs with
  | nil => rfl
  | cons a l ih => rw [List.flatMap_cons, ih]; rfl
theorem repl_map : ∀ n, repl [AV.int .i64 0] n = (List.replicate n (0 : Int)).map (fun x => I x)
  | 0 => rfl
  | n + 1 => by rw [repl, repl_map n, List.replicate_succ, List.map_cons]; rfl
/-- A list of the call's own in an object that may have more cells. -/
structure OT (A H : AHeap) (n : Nat) (v : AV) (xs tl : List Int) : Prop where
  pre : A <+: H
  new : A.length ≤ n
  ob : H[n]? = some (.cells true ((xs ++ tl).flatMap e1))
  v : v = .sl 1 n 0 xs.length false
section
variable {A H : AHeap} {n : Nat} {v : AV} {xs tl : List Int}
theorem OT.lt (h : OT A H n v xs tl) : n < H.length := (List.getElem?_eq_some_iff.1 h.ob).1
theorem OT.ls (h : OT A H n v xs tl) : L1 H v xs := by
  refine ⟨e1_len, ?_⟩
  rw [h.v]
  simp only [slCells, cellsAt, h.ob, if_true, Nat.zero_add]
  rw [flat_map, if_pos (by simp), flat_map]
  simp
theorem OT.ol (h : OT A H n v xs tl) : OL 1 e1 A H n (.sl 1 n 0 (xs ++ tl).length false) (xs ++ tl) := ⟨e1_len, h.pre, h.new, h.ob, false, rfl⟩
theorem OT.setAll (h : OT A H n v xs tl) (ys : List Int) (hl : ys.length = xs.length) : OT A (H.set n (.cells true ((ys ++ tl).flatMap e1))) n v ys tl :=
  ⟨pre_set h.pre h.new _, h.new, by rw [List.getElem?_set_self h.lt], by rw [h.v, hl]⟩
theorem OT.st (h : OT A H n v xs tl) {i : Nat} (hi : i < xs.length) (z : Int) : stA 1 (.ptr (nm v) (of v + i * 1)) (I z) H = some (H.set n (.cells true ((xs.set i z ++ tl).flatMap e1))) := by
  have := h.ol.st (i := i) (by simp; omega) (I z) z rfl
  rw [List.set_append_left _ _ hi] at this
  rw [h.v]
  exact this
theorem OT.clr (h : OT A H n v xs tl) (i : Nat) (hi : i ≤ xs.length) (full : Bool) :
    clA 1 [.int .i64 0] (.sl 1 n (i * 1) (xs.length - i) full) H = some (H.set n (.cells true ((xs.take i ++ (List.replicate (xs.length - i) 0 ++ tl)).flatMap e1))) := by
  unfold clA
  by_cases h0 : xs.length - i = 0
  · have : i = xs.length := by omega
    simp only [h0, if_true]
    rw [List.replicate_zero, List.nil_append, List.take_of_length_le (by omega), set_same h.ob]
  · simp only [h0, if_false, if_true, h.ob]
    rw [if_pos (by rw [flat_map]; simp; omega), repl_map]
    congr 3
    unfold splice
    rw [flat_map, flat_map]
    simp only [List.map_append, List.length_map, List.length_replicate, Nat.mul_one]
    rw [← List.map_append, ← List.map_take, ← List.map_drop, List.take_append_of_le_length hi, show i + (xs.length - i) = xs.length by omega, List.drop_left]
    rw [List.append_assoc]
end
theorem fpos_in {xs : List Int} {p : Int} (h : p ∈ xs) : ∃ i : Nat, fpos (fun x => decide (x = p)) xs = i ∧ xs[i]? = some p ∧ ∀ y ∈ xs.take i, y ≠ p := by
  have key : ∃ i : Nat, xs[i]? = some p ∧ ∀ y ∈ xs.take i, y ≠ p := by
    induction xs with
    | nil => simp at h
    | cons a l ih =>
      by_cases ha : a = p
      · exact ⟨0, by simp [ha], by simp⟩
      · rcases List.mem_cons.1 h with rfl | h
        · exact absurd rfl ha
        · obtain ⟨i, h1, h2⟩ := ih h
          refine ⟨i + 1, by simpa using h1, fun y hy => ?_⟩
          rw [List.take_succ_cons] at hy
          rcases List.mem_cons.1 hy with rfl | hy
          · exact ha
          · exact h2 y hy
  obtain ⟨i, h1, h2⟩ := key
  exact ⟨i, fpos_some (fun y hy => decide_eq_false (h2 y hy)) h1 (by simp), h1, h2⟩
theorem without_take {l : List Int} {j : Nat} {z p : Int} (h : l[j]? = some z) : without (l.take (j + 1)) p = without (l.take j) p ++ if z = p then [] else [z] := by
  unfold without
  rw [List.take_add_one, h, List.filter_append]
  by_cases hz : z = p <;> simp [hz]
theorem s86 {x p : Int} {A : AHeap} {a : Nat} (h : ldA 1 false (.ptr a 0) A = some (I p)) : ACalls Try.prog 86 [I x, .ptr a 0] A (B (decide (x = p))) A := by
  refine acalls hmix Try.func86 (by kernel_rfl) t86 2 rfl (by decide) ?_
  dsimp only [m86]
  simp (maxSteps := 4000000) -implicitDefEqProofs -dsimp (disch := omega) only [↓AW_ops, ↓AW_seq, ↓AW_ret, ↓AOps_nil, ↓AOps_pu, ↓AOps_ld, on_some, ↓then_normal, ↓Fin_ret, pval, lval, rd_S, rd_C, put_S, resV, resL, List.replicate_succ, List.replicate_zero, List.set_cons_zero, List.set_cons_succ, List.getElem?_cons_zero, List.getElem?_cons_succ, Option.getD_some, Nat.reduceSub, List.cons_append, List.nil_append, bin_eql, h]
  exact gc_same rfl
set_option maxHeartbeats 1000000 in
theorem c_del {A H : AHeap} {n a : Nat} {xs tl : List Int} {p : Int} (h : OT A H n (.sl 1 n 0 xs.length false) xs tl) (hl : xs.length ≤ 1000) (ha : a ≠ n) (hp : ldA 1 false (.ptr a 0) H = some (I p)) (hmem : p ∈ xs) :
    ACalls Try.prog 85 [.sl 1 n 0 xs.length false, .fn 86 [.ptr a 0]] H (.sl 1 n 0 (without xs p).length false) (H.set n (.cells true ((without xs p ++ (List.replicate (xs.length - (without xs p).length) 0 ++ tl)).flatMap e1))) := by
  refine acalls hmix Try.func85 (by kernel_rfl) t85 2 rfl (by decide) ?_
  have hpk : ∀ ys : List Int, ldA 1 false (.ptr a 0) (H.set n (.cells true (ys.flatMap e1))) = some (I p) := fun ys => by
    unfold ldA at hp ⊢
    simp only at hp ⊢
    rw [List.getElem?_set_ne (Ne.symm ha)]
    exact hp
  have hln : ∀ k, lenA (.sl 1 n 0 k false) = some (I k) := fun k => rfl
  dsimp only [m85]
  simp (maxSteps := 4000000) -implicitDefEqProofs -dsimp (disch := omega) only [↓AW_ops, ↓AW_seq, ↓AOps_nil, ↓AOps_pu, ↓AOps_call, on_some, ↓then_normal, pval, rd_S, rd_C, put_S, List.replicate_succ, List.replicate_zero, List.set_cons_zero, List.set_cons_succ, List.getElem?_cons_zero, List.getElem?_cons_succ, Option.getD_some, map_c, map_n, Nat.reduceSub, List.cons_append, List.nil_append]
  refine CallK.of (c_IndexFunc h.ls (by omega) 86 [.ptr a 0] (fun x => decide (x = p)) (fun x _ => s86 hp)) ?_
  obtain ⟨i0, hfe, hz0, hpre⟩ := fpos_in hmem
  have hi0 : i0 < xs.length := (List.getElem?_eq_some_iff.1 hz0).1
  rw [hfe]
  have hne : ¬ (i0 : Int) = -1 := by omega
  have hw0 : without (xs.take i0) p = xs.take i0 := by
    unfold without
    rw [List.filter_eq_self]
    intro y hy
    simp [hpre y hy]
  have hw1 : without (xs.take (i0 + 1)) p = xs.take i0 := by rw [without_take hz0, if_pos rfl, hw0, List.append_nil]
  simp (maxSteps := 4000000) -implicitDefEqProofs -dsimp (disch := omega) only [↓AW_skip, ↓AW_ops, ↓AW_seq, ↓AW_cond, ↓AW_block, ↓AOps_nil, ↓AOps_pu, on_some, extK_same, condB_f, ↓then_normal, pval, rd_S, rd_C, put_S, ↓AW_toLoop, List.replicate_succ, List.replicate_zero, List.set_cons_zero, List.set_cons_succ, List.getElem?_cons_zero, List.getElem?_cons_succ, Option.getD_some, Nat.reduceSub, List.cons_append, List.nil_append, bin_add, bin_eql, w64, decide_false, Int.reduceNeg, hne]
  refine LoopK.by 42 (fun x : Nat × Nat × List Int => (x.2.1 ≤ xs.length ∧ x.1 < x.2.1) ∧ x.2.2.length = xs.length ∧ x.2.2.take x.1 = without (xs.take x.2.1) p ∧ x.2.2.drop x.2.1 = xs.drop x.2.1) (fun x => [(0, .sl 1 n 0 xs.length false), (1, .fn 86 [.ptr a 0]), (5, I x.1), (6, I x.2.1)]) (fun x => H.set n (.cells true ((x.2.2 ++ tl).flatMap e1))) (fun x => xs.length - x.2.1) (i0, i0 + 1, xs) ⟨by simp only; omega, rfl, hw1.symm, rfl⟩ rfl (by simp [Has, rd_s]) (by simp only; rw [set_same h.ob]) ?_
  rintro ⟨i, j, ys⟩ ⟨⟨hj, hij⟩, hyl, hyt, hyd⟩
  simp only at hj hij hyl hyt hyd
  have ho := h.setAll ys hyl
  have hwl : (without (xs.take j) p).length = i := by rw [← hyt, List.length_take]; omega
  by_cases hlt : j < xs.length
  · have hlt' : (j : Int) < xs.length := by omega
    obtain ⟨z, hz⟩ : ∃ z, xs[j]? = some z := ⟨_, List.getElem?_eq_getElem hlt⟩
    have hzy : ys[j]? = some z := by
      have : (ys.drop j)[0]? = (xs.drop j)[0]? := by rw [hyd]
      rw [List.getElem?_drop, List.getElem?_drop, Nat.add_zero] at this
      rw [this]; exact hz
    have hjy : j < ys.length := by omega
    have hiy : i < ys.length := by omega
    simp (maxSteps := 4000000) -implicitDefEqProofs -dsimp (disch := omega) only [↓AW_skip, ↓AW_ops, ↓AW_seq, ↓AW_cond, ↓AW_block, ↓AOps_nil, ↓AOps_pu, ↓AOps_ld, ↓AOps_callv, on_some, CallF_fn, condB_t, ↓then_normal, pval, lval, rd_S, put_S, partA, eq_self, mk, List.foldl_cons, List.foldl_nil, List.replicate_succ, List.replicate_zero, List.set_cons_zero, List.set_cons_succ, List.getElem?_cons_zero, List.getElem?_cons_succ, List.drop_zero, List.take_succ_cons, List.take_nil, Option.getD_some, map_c, map_n, List.length_cons, List.length_nil, Nat.reduceLeDiff, Nat.zero_add, List.cons_append, List.nil_append, bin_lss, if_true, if_false, Bool.false_eq_true, decide_true, Go.Eng.e1, hlt', hln, ho.ls.idx hjy, ho.ls.ld0 hzy 1 false (by decide)]
    refine CallK.of (s86 (hpk (ys ++ tl))) ?_
    by_cases hzp : z = p
    · simp (maxSteps := 4000000) -implicitDefEqProofs -dsimp (disch := omega) only [↓AW_skip, ↓AW_ops, ↓AW_cond, ↓AOps_nil, ↓AOps_pu, on_some, extK_same, condB_f, ↓then_normal, ↓inBlock_normal, pval, rd_S, rd_C, put_S, eq_self, mk, List.foldl_cons, List.foldl_nil, List.replicate_succ, List.replicate_zero, List.set_cons_zero, List.set_cons_succ, List.getElem?_cons_zero, List.getElem?_cons_succ, Option.getD_some, List.length_cons, List.length_nil, Nat.reduceAdd, Nat.zero_add, bin_add, w64, Bool.not_true, decide_true, true_and, hzp]
      refine ⟨(i, j + 1, ys), ⟨⟨hlt, by simp only; omega⟩, hyl, ?_, ?_⟩, by simp [Has, rd_s], rfl, by simp only; omega⟩
      · simp only; rw [without_take hz, if_pos hzp, List.append_nil]; exact hyt
      · simp only
        rw [← List.drop_drop, ← List.drop_drop, hyd]
    · have hst := ho.st hiy z
      rw [List.set_set] at hst
      simp (maxSteps := 4000000) -implicitDefEqProofs -dsimp (disch := omega) only [↓AW_ops, ↓AW_seq, ↓AW_cond, ↓AOps_nil, ↓AOps_pu, ↓AOps_ha, on_some, extK_false, extK_same, condB_t, ↓then_normal, ↓inBlock_normal, pval, hval_st, rd_S, rd_C, put_S, putS_none, eq_self, mk, List.foldl_cons, List.foldl_nil, List.replicate_succ, List.replicate_zero, List.set_cons_zero, List.set_cons_succ, List.getElem?_cons_zero, List.getElem?_cons_succ, Option.getD_some, Option.map_some, List.length_cons, List.length_nil, Nat.reduceAdd, Nat.zero_add, bin_add, w64, Bool.not_false, decide_false, true_and, hzp, ho.ls.idx hiy, hst]
      refine ⟨(i + 1, j + 1, ys.set i z), ⟨⟨hlt, by simp only; omega⟩, by simp [hyl], ?_, ?_⟩, by simp [Has, rd_s], rfl, by simp only; omega⟩
      · simp only
        rw [without_take hz, if_neg hzp, ← hyt, List.take_add_one, List.getElem?_set_self hiy, Option.toList_some, List.take_set_of_le (Nat.le_refl _)]
      · simp only
        rw [List.drop_set_of_lt (by omega), ← List.drop_drop, ← List.drop_drop, hyd]
  · have hlt' : ¬ ((j : Int) < xs.length) := by omega
    rw [show xs.take j = xs from List.take_of_length_le (by omega)] at hyt hwl
    have hs1 : slcA 1 (.sl 1 n 0 xs.length false) (some (I i)) none none = some (.sl 1 n (i * 1) (xs.length - i) false) := by
      have : i ≤ xs.length := by omega
      simp [slcA, bnd, this]
    have hs2 : slcA 1 (.sl 1 n 0 xs.length false) none (some (I i)) none = some (.sl 1 n 0 i false) := by
      have : i ≤ xs.length := by omega
      simp [slcA, bnd, this]
    have hc := ho.clr i (by omega) false
    rw [hyl, List.set_set, hyt] at hc
    simp (maxSteps := 4000000) -implicitDefEqProofs -dsimp (disch := omega) only [↓AW_ops, ↓AW_seq, ↓AW_cond, ↓AW_exit, ↓AW_ret, ↓AOps_nil, ↓AOps_pu, ↓AOps_ha, on_some, extK_false, condB_f, ↓then_normal, ↓then_exit, ↓inBlock_exit, ↓Fin_ret, pval, rd_S, put_S, putS_none, resV, resL, eq_self, mk, List.foldl_cons, List.foldl_nil, List.replicate_succ, List.replicate_zero, List.set_cons_zero, List.set_cons_succ, List.getElem?_cons_zero, List.getElem?_cons_succ, Option.getD_some, Option.map_some, Option.map_none, bin_lss, if_true, decide_false, hlt', hln, hs1, hval_clr, hc, hs2]
    exact gc_same_all (by rw [hwl]) (by rw [hwl])
theorem s84 {H : AHeap} {a : Nat} {lv : AV} {ls : List (Int × Int)} (hld : ldA 1 false (.ptr a 0) H = some lv) (hls : L2 H lv ls) {i : Int} {q : Rat} (h0 : 0 ≤ i) (hi : ls[i.toNat]? = some (rp q)) : ACalls Try.prog 84 [I i, .ptr a 0] H (R q) H := by
  refine acalls hmix Try.func84 (by kernel_rfl) t84 2 rfl (by decide) ?_
  have hlt := (List.getElem?_eq_some_iff.1 hi).1
  dsimp only [m84]
  simp (maxSteps := 4000000) -implicitDefEqProofs -dsimp (disch := omega) only [↓AW_ops, ↓AW_seq, ↓AW_ret, ↓AOps_nil, ↓AOps_pu, ↓AOps_ld, on_some, ↓then_normal, ↓Fin_ret, pval, lval, rd_S, rd_C, put_S, resV, resL, chkd, bput, bgot, AV.cells?, splice, partA, eq_self, List.replicate_succ, List.replicate_zero, List.set_cons_zero, List.set_cons_succ, List.getElem?_cons_zero, List.getElem?_cons_succ, List.drop_zero, List.drop_succ_cons, List.drop_nil, List.take_zero, List.take_succ_cons, List.take_nil, Option.getD_some, List.length_cons, List.length_nil, Nat.reduceAdd, Nat.reduceSub, Nat.reduceLeDiff, Nat.reduceEqDiff, Nat.zero_add, List.cons_append, List.nil_append, List.append_nil, if_true, if_false, Go.Eng.e2, ne_eq, not_true_eq_false, hld, hls.idxI h0 (by omega : i < ls.length), hls.ld0 hi 2 true (by decide)]
  exact gc_same rfl
theorem c_first {H : AHeap} {v : AV} {xs : List Int} {x0 : Int} (hx : L1 H v xs) (h0 : xs[0]? = some x0) (hl : xs.length ≤ 1000) {a : Nat} (c : Int → Rat) (hc : ∀ i ∈ xs, ACalls Try.prog 84 [I i, .ptr a 0] H (R (c i)) H) (hs : ∀ i ∈ xs, Sm (c i)) :
    ACalls Try.prog 83 [v, .fn 84 [.ptr a 0], .fn 65 []] H (I (bestF c x0 xs)) H := by
  refine acalls hmix Try.func83 (by kernel_rfl) t83 3 rfl (by decide) ?_
  have hlt0 := (List.getElem?_eq_some_iff.1 h0).1
  have i0 := hx.idx (k := .i64) hlt0
  have l0 := hx.ld0 h0 1 false (by decide)
  rw [show ((0 : Nat) : Int) = 0 from rfl] at i0
  rw [Nat.zero_mul, Nat.add_zero] at i0 l0
  dsimp only [m83]
  simp (maxSteps := 4000000) -implicitDefEqProofs -dsimp (disch := omega) only [↓AW_ops, ↓AW_seq, ↓AW_block, ↓AOps_nil, ↓AOps_pu, ↓AOps_ld, on_some, ↓then_normal, pval, lval, rd_S, rd_C, put_S, ↓AW_toLoop, partA, eq_self, List.replicate_succ, List.replicate_zero, List.set_cons_zero, List.set_cons_succ, List.getElem?_cons_zero, List.getElem?_cons_succ, List.drop_zero, List.take_succ_cons, List.take_nil, Option.getD_some, List.length_cons, List.length_nil, Nat.reduceSub, Nat.reduceLeDiff, Nat.zero_add, List.cons_append, List.nil_append, if_true, if_false, Bool.false_eq_true, Go.Eng.e1, i0, l0, hx.len]
  refine LoopK.by 31 (fun s : Nat × Int => s.1 ≤ xs.length ∧ s.2 ∈ xs ∧ bestF c x0 xs = bestF c s.2 (xs.drop s.1)) (fun s => [(1, .fn 84 [.ptr a 0]), (2, .fn 65 []), (7, I s.2), (13, v), (14, I xs.length), (15, I s.1)]) (fun _ => H) (fun s => xs.length - s.1) (0, x0) ⟨by simp only; omega, List.mem_of_getElem? h0, rfl⟩ rfl (by simp [Has, rd_s]) rfl ?_
  rintro ⟨k, out⟩ ⟨hk, hom, hb⟩
  simp only at hk hom hb
  by_cases hlt : k < xs.length
  · obtain ⟨z, hz⟩ : ∃ z, xs[k]? = some z := ⟨_, List.getElem?_eq_getElem hlt⟩
    have hlt' : (k : Int) < xs.length := by omega
    have hzm := List.mem_of_getElem? hz
    have hdr : xs.drop k = z :: xs.drop (k + 1) := by
      have := (List.getElem?_eq_some_iff.1 hz).2
      rw [← this]; exact List.drop_eq_getElem_cons hlt
    rw [hdr, bestF] at hb
    simp (maxSteps := 4000000) -implicitDefEqProofs -dsimp (disch := omega) only [↓AW_skip, ↓AW_ops, ↓AW_seq, ↓AW_cond, ↓AW_block, ↓AOps_nil, ↓AOps_pu, ↓AOps_ld, ↓AOps_callv, on_some, CallF_fn, condB_t, ↓then_normal, pval, lval, rd_S, put_S, partA, eq_self, mk, List.foldl_cons, List.foldl_nil, List.replicate_succ, List.replicate_zero, List.set_cons_zero, List.set_cons_succ, List.getElem?_cons_zero, List.getElem?_cons_succ, List.drop_zero, List.take_succ_cons, List.take_nil, Option.getD_some, map_c, map_n, List.length_cons, List.length_nil, Nat.reduceLeDiff, Nat.zero_add, List.cons_append, List.nil_append, bin_lss, if_true, if_false, Bool.false_eq_true, decide_true, Go.Eng.e1, hlt', hx.idx hlt, hx.ld0 hz 1 false (by decide)]
    refine CallK.of (hc z hzm) ?_
    simp (maxSteps := 4000000) -implicitDefEqProofs -dsimp (disch := omega) only [↓AOps_pu, ↓AOps_callv, on_some, extK_same, CallF_fn, pval, rd_S, put_S, mk, List.foldl_cons, List.foldl_nil, List.replicate_succ, List.replicate_zero, List.set_cons_zero, List.set_cons_succ, List.getElem?_cons_zero, List.getElem?_cons_succ, Option.getD_some, map_c, map_n, List.cons_append, List.nil_append]
    refine CallK.of (hc out hom) ?_
    simp (maxSteps := 4000000) -implicitDefEqProofs -dsimp (disch := omega) only [↓AOps_callv, extK_same, CallF_fn, rd_S, put_S, mk, List.foldl_cons, List.foldl_nil, List.replicate_succ, List.replicate_zero, List.set_cons_zero, List.set_cons_succ, List.getElem?_cons_zero, List.getElem?_cons_succ, Option.getD_some, map_c, map_n, List.append_nil]
    refine CallK.of (s65 _ _ _ (hs z hzm) (hs out hom)) ?_
    by_cases h1 : c z < c out
    · have hn := (sub_neg_iff _ _).2 h1
      rw [if_pos h1] at hb
      simp (maxSteps := 4000000) -implicitDefEqProofs -dsimp (disch := omega) only [↓AW_ops, ↓AW_cond, ↓AOps_nil, ↓AOps_pu, on_some, extK_same, condB_t, ↓then_normal, ↓inBlock_normal, pval, rd_S, rd_C, put_S, eq_self, mk, List.foldl_cons, List.foldl_nil, List.replicate_succ, List.replicate_zero, List.set_cons_zero, List.set_cons_succ, List.getElem?_cons_zero, List.getElem?_cons_succ, Option.getD_some, List.length_cons, List.length_nil, Nat.reduceAdd, Nat.zero_add, bin_add, bin_lss, w64, decide_true, true_and, hn]
      exact ⟨(k + 1, z), ⟨hlt, hzm, hb⟩, by simp [Has, rd_s], by simp only; omega⟩
    · have hn : ¬ (c z - c out).num < 0 := fun hh => h1 ((sub_neg_iff _ _).1 hh)
      rw [if_neg h1] at hb
      simp (maxSteps := 4000000) -implicitDefEqProofs -dsimp (disch := omega) only [↓AW_skip, ↓AW_ops, ↓AW_cond, ↓AOps_nil, ↓AOps_pu, on_some, extK_same, condB_f, ↓then_normal, ↓inBlock_normal, pval, rd_S, rd_C, put_S, eq_self, mk, List.foldl_cons, List.foldl_nil, List.replicate_succ, List.replicate_zero, List.set_cons_zero, List.set_cons_succ, List.getElem?_cons_zero, List.getElem?_cons_succ, Option.getD_some, List.length_cons, List.length_nil, Nat.reduceAdd, Nat.zero_add, bin_add, bin_lss, w64, decide_false, true_and, hn]
      exact ⟨(k + 1, out), ⟨hlt, hom, hb⟩, by simp [Has, rd_s], by simp only; omega⟩
  · have hlt' : ¬ ((k : Int) < xs.length) := by omega
    rw [List.drop_of_length_le (by omega)] at hb
    simp (maxSteps := 4000000) -implicitDefEqProofs -dsimp (disch := omega) only [↓AW_ops, ↓AW_seq, ↓AW_cond, ↓AW_exit, ↓AW_ret, ↓AOps_nil, ↓AOps_pu, on_some, condB_f, ↓then_normal, ↓then_exit, ↓inBlock_exit, ↓Fin_ret, pval, rd_S, put_S, resV, resL, eq_self, mk, List.foldl_cons, List.foldl_nil, List.replicate_succ, List.replicate_zero, List.set_cons_zero, List.set_cons_succ, List.getElem?_cons_zero, List.getElem?_cons_succ, Option.getD_some, bin_lss, if_true, decide_false, hlt']
    exact gc_same (by rw [hb]; rfl)
end Go.Proofs.Ytmblehbjedpjoaa

namespace Go.Proofs.Ytmblehbjedpjoaa
open Go Go.Eng
theorem KI.dvb {L : List Int} {V : List (List Int)} {left : List Int} {p : Rat} {D : Int} (h : KI L V left p D) (hl : 2 ≤ left.length) {v : Int} (hv : 1 ≤ v ∧ v ≤ 20) : 0 < D * v ∧ D * v ≤ 1000000 := by
  have h1 := h.D1
  have h0 := h.D0
  have hpow : (20 : Int) ^ (left.length - 1) = 20 * 20 ^ (left.length - 1 - 1) := by
    rw [show left.length - 1 = (left.length - 1 - 1) + 1 by omega, Int.pow_succ, Int.mul_comm]
    rfl
  have hp := pow20 (left.length - 1 - 1)
  rw [hpow] at h1
  have h2 : D * (20 * 1) ≤ D * (20 * 20 ^ (left.length - 1 - 1)) := Int.mul_le_mul_of_nonneg_left (by omega) (by omega)
  have h3 : D * v ≤ D * 20 := Int.mul_le_mul_of_nonneg_left hv.2 (by omega)
  exact ⟨Int.mul_pos h0 (by omega), by omega⟩
/-- After one has called. -/
theorem KI.next {L : List Int} {V : List (List Int)} (hg : KG L V) {left : List Int} {p : Rat} {D : Int} (h : KI L V left p D) (hl : 2 ≤ left.length) {b : Int} (hbl : ∀ i ∈ left, cqI L V p b ≤ cqI L V p i) (hbm : b ∈ left) :
    ∃ D', KI L V (without left b) (cqI L V p b) D' ∧ (without left b).length = left.length - 1 := by
  obtain ⟨c1, c2, c3, v, hv, c4⟩ := h.call hg (by omega) hbm
  have hwe := without_erase h.nd b
  have hwl : (without left b).length = left.length - 1 := by rw [hwe, List.length_erase_of_mem hbm]
  have hpow : (20 : Int) ^ (left.length - 1) = 20 * 20 ^ (left.length - 1 - 1) := by
    rw [show left.length - 1 = (left.length - 1 - 1) + 1 by omega, Int.pow_succ, Int.mul_comm]
    rfl
  have hD1 := h.D1
  have hDp := h.D0
  have hn : (0 : Rat) ≤ ((V.length : Int) : Rat) := cast_nonneg (by omega)
  have hKI : KI L V (without left b) (cqI L V p b) (D * v) := by
    refine ⟨?_, fun o ho => ?_, Rat.le_trans h.p0 c1, c2, c4, Int.dvd_trans h.nD (Int.dvd_mul_right _ _), Int.mul_pos hDp (by omega), ?_, fun o ho => ?_⟩
    · rw [hwe]; exact h.nd.erase _
    · rw [hwe] at ho; exact h.rg o (List.mem_of_mem_erase ho)
    · rw [hwl]
      rw [hpow] at hD1
      have hpp := pow20 (left.length - 1 - 1)
      have e1 : D * v * 20 ^ (left.length - 1 - 1) = (D * 20 ^ (left.length - 1 - 1)) * v := by rw [Int.mul_assoc, Int.mul_comm v, Int.mul_assoc]
      have e2 : D * (20 * 20 ^ (left.length - 1 - 1)) = (D * 20 ^ (left.length - 1 - 1)) * 20 := by rw [Int.mul_comm 20, Int.mul_assoc]
      rw [e1]
      rw [e2] at hD1
      have := Int.mul_le_mul_of_nonneg_left hv.2 (show 0 ≤ D * 20 ^ (left.length - 1 - 1) from Int.le_of_lt (Int.mul_pos hDp hpp))
      omega
    · rw [hwe] at ho
      have hol := List.mem_of_mem_erase ho
      obtain ⟨d1, d2, d3, _⟩ := h.call hg (by omega) hol
      have hfr := h.fr o hol
      obtain ⟨r, hr, hf⟩ := fOf_mem (L := L) (h.rg o hol)
      have hgd := hg.gd hr
      have hmo := upTo_mono (hbl o hol) (fOf L V o) 0 (by rw [hf]; exact hgd.2)
      have hm2 := Rat.mul_le_mul_of_nonneg_right hmo hn
      rw [hwl]
      have e : (((left.length - 1 : Nat) : Int) : Rat) = ((left.length : Int) : Rat) - 1 := by
        rw [show ((left.length - 1 : Nat) : Int) = (left.length : Int) - 1 by omega, Rat.intCast_sub]; rfl
      rw [e]
      rw [rsub_mul] at d3 hfr ⊢
      rw [rsub_mul, Rat.one_mul]
      grind
  exact ⟨D * v, hKI, hwl⟩
/-- The list of those who are left, and what has been made. -/
structure KS (A H : AHeap) (nl : Nat) (left tl : List Int) (u : AV) (K : List Pc) : Prop where
  ot : OT A H nl (.sl 1 nl 0 left.length false) left tl
  out : (K = [] ∧ u = .nilS) ∨ ∃ no, 0 < K.length ∧ u = .sl 5 no 0 K.length false ∧ A.length ≤ no ∧ no ≠ nl ∧ H[no]? = some (.cells true (K.flatMap e5))
  Kl : K.length ≤ 1000
section
variable {A H H' : AHeap} {nl : Nat} {left tl : List Int} {u : AV} {K : List Pc}
theorem KS.mono (h : KS A H nl left tl u K) (hp : H <+: H') : KS A H' nl left tl u K := by
  refine ⟨⟨h.ot.pre.trans hp, h.ot.new, pre_get hp h.ot.ob, rfl⟩, ?_, h.Kl⟩
  rcases h.out with h1 | ⟨no, h1, h2, h3, h4, h5⟩
  · exact .inl h1
  · exact .inr ⟨no, h1, h2, h3, h4, pre_get hp h5⟩
theorem KS.no_lt (h : KS A H nl left tl u K) {no len : Nat} (hu : u = .sl 5 no 0 len false) : no < H.length := by
  rcases h.out with ⟨_, h2⟩ | ⟨no', _, h2, _, _, h5⟩
  · rw [h2] at hu; cases hu
  · rw [h2] at hu; cases hu
    exact (List.getElem?_eq_some_iff.1 h5).1
theorem KS.del (h : KS A H nl left tl u K) (left' tl' : List Int) : KS A (H.set nl (.cells true ((left' ++ tl').flatMap e1))) nl left' tl' u K := by
  refine ⟨⟨pre_set h.ot.pre h.ot.new _, h.ot.new, by rw [List.getElem?_set_self h.ot.lt], rfl⟩, ?_, h.Kl⟩
  rcases h.out with h1 | ⟨no, h1, h2, h3, h4, h5⟩
  · exact .inl h1
  · exact .inr ⟨no, h1, h2, h3, h4, by rw [List.getElem?_set_ne (Ne.symm h4)]; exact h5⟩
theorem KS.acc (h : KS A H nl left tl u K) : AccL 5 e5 A H u K := by
  refine ⟨h.ot.pre, flatMap_length e5_len K, ?_⟩
  rcases h.out with ⟨rfl, h2⟩ | ⟨no, h1, h2, h3, h4, h5⟩
  · exact .inl ⟨rfl, h2⟩
  · exact .inr ⟨h1, no, h2, h3, h5⟩
theorem KS.push (h : KS A H nl left tl u K) (p : Pc) (hl : K.length + 1 ≤ 1000) :
    ∃ u' H', appA 5 (H ++ [.cells true (e5 p)]) u (.sl 5 H.length 0 1 true) = some (u', H') ∧ KS A H' nl left tl u' (K ++ [p]) ∧ ∀ m, m < H.length → (∀ no len, u = .sl 5 no 0 len false → m ≠ no) → H'[m]? = H[m]? := by
  have hc := slCells_new H (e5 p) (e5_len p)
  have hlt := h.ot.lt
  rcases h.out with ⟨rfl, rfl⟩ | ⟨no, h1, rfl, h3, h4, h5⟩
  · refine ⟨.sl 5 (H.length + 1) 0 1 false, H ++ [.cells true (e5 p)] ++ [.cells true (e5 p)], ?_, ⟨⟨(h.ot.pre.trans (pre_app _ _)).trans (pre_app _ _), h.ot.new, ?_, rfl⟩, .inr ⟨H.length + 1, by simp, rfl, by have := h.ot.pre.length_le; omega, by omega, by simp⟩, by simp⟩, fun m hm _ => ?_⟩
    · unfold appA
      rw [hc]
      simp [lim]
    · rw [List.append_assoc, List.getElem?_append_left hlt]; exact h.ot.ob
    · rw [List.append_assoc, List.getElem?_append_left hm]
  · have hno := (List.getElem?_eq_some_iff.1 h5).1
    have h5' : (H ++ [AObj.cells true (e5 p)])[no]? = some (.cells true (K.flatMap e5)) := by rw [List.getElem?_append_left hno]; exact h5
    have hfl := flatMap_length e5_len K
    have hpl := h.ot.pre.length_le
    refine ⟨.sl 5 (H.length + 1) 0 (K.length + 1) false, (H ++ [AObj.cells true (e5 p)]).set no AObj.dead ++ [AObj.cells true ((K ++ [p]).flatMap e5)], ?_, ⟨⟨(pre_set (h.ot.pre.trans (pre_app _ _)) h3 _).trans (pre_app _ _), h.ot.new, ?_, rfl⟩, .inr ⟨H.length + 1, by simp, by simp, by omega, by omega, ?_⟩, by simpa using hl⟩, fun m hm hne => ?_⟩
    · unfold appA
      rw [hc]
      have h0 : ¬ (1 : Nat) = 0 := by decide
      have hlim : K.length + 1 ≤ lim := by unfold lim; omega
      simp only [h0, if_false, hlim, and_self, if_true, h5']
      rw [if_pos (by omega), List.drop_zero, ← hfl, List.take_length, List.flatMap_append]
      simp
    · rw [List.getElem?_append_left (by simp; omega), List.getElem?_set_ne h4, List.getElem?_append_left hlt]; exact h.ot.ob
    · rw [List.getElem?_append_right (by simp)]
      simp
    · have := hne no _ rfl
      rw [List.getElem?_append_left (by simp; omega), List.getElem?_set_ne (Ne.symm this), List.getElem?_append_left hm]
end
theorem Ls_congr {α : Type} {es : Nat} {e : α → List AV} {H H' : AHeap} {v : AV} {xs : List α} (h : Ls es e H v xs) (hg : v ≠ .nilS → H'[nm v]? = H[nm v]?) : Ls es e H' v xs := by
  refine ⟨h.he, ?_⟩
  have hc := h.hc
  rcases h.inv with ⟨rfl, _⟩ | ⟨n, off, full, rw, l, rfl, h1, _⟩
  · exact hc
  · have := hg (by simp)
    simp only [nm] at this
    unfold slCells cellsAt at hc ⊢
    simp only at hc ⊢
    rw [this]
    exact hc
theorem Ls_lt {α : Type} {es : Nat} {e : α → List AV} {H : AHeap} {v : AV} {xs : List α} (h : Ls es e H v xs) (hne : v ≠ .nilS) : nm v < H.length := by
  rcases h.inv with ⟨rfl, _⟩ | ⟨n, off, full, rw, l, rfl, h1, _⟩
  · exact absurd rfl hne
  · exact (List.getElem?_eq_some_iff.1 h1).1
/-- All owners. -/
def rg0 (n : Nat) : List Int := (List.range n).map (fun (i : Nat) => (i : Int))
structure KSt where
  H : AHeap
  nl : Nat
  left : List Int
  tl : List Int
  u : AV
  K : List Pc
  p : Rat
theorem KI.start {L : List Int} {V : List (List Int)} (hg : KG L V) : KI L V (rg0 V.length) ((0 : Int) : Rat) V.length := by
  have hv1 := hg.v1
  have hv5 := hg.v5
  have hs := hg.sum
  have hlen : (rg0 V.length).length = V.length := by simp [rg0]
  have hrg : ∀ o ∈ rg0 V.length, 0 ≤ o ∧ o < V.length := by
    intro o ho
    obtain ⟨i, hi, rfl⟩ := List.mem_map.1 ho
    have := List.mem_range.1 hi
    omega
  refine ⟨?_, hrg, by rw [int0]; exact Rat.le_refl, Rat.intCast_le_intCast.2 (by omega), Dv_int _ _, Int.dvd_refl _, by omega, ?_, fun o ho => ?_⟩
  · unfold rg0
    rw [List.nodup_iff_pairwise_ne, List.pairwise_map]
    exact (List.nodup_iff_pairwise_ne.1 List.nodup_range).imp (fun h e => h (by omega))
  · rw [hlen]
    have : V.length = 1 ∨ V.length = 2 ∨ V.length = 3 ∨ V.length = 4 ∨ V.length = 5 := by omega
    rcases this with h | h | h | h | h <;> rw [h] <;> decide
  · obtain ⟨r, hr, hf⟩ := fOf_mem (L := L) (hrg o ho)
    rw [hf, upTo_at0 (hg.gd hr), hlen]
    grind
section
variable {L : List Int} {ws : List (AV × List Int)} {x y : AV} {A : AHeap}
def knE (L : List Int) (V : List (List Int)) : List Pc := kn L V V.length (rg0 V.length) ((0 : Int) : Rat)
set_option maxRecDepth 20000 in
set_option maxHeartbeats 8000000 in
theorem s32 (hL : L1 A x L) (hV : LL A y ws) (hs : Sz L ws) (hg : KG L (lists ws)) :
    ACalls Try.prog 32 [.agg [x, y]] A (.tuple [outV 5 A (knE L (lists ws)).length, I 0]) (outH A ((knE L (lists ws)).flatMap e5) (knE L (lists ws)).length) := by
  refine acalls hmix Try.func32 (by kernel_rfl) t32 1 rfl (by decide) ?_
  have hln : ∀ n k, lenA (.sl 1 n 0 k false) = some (I k) := fun _ _ => rfl
  have hv1 := hg.v1
  have hv5 := hg.v5
  have hLs := hg.sum
  have hll : (lists ws).length = ws.length := by simp
  unfold knE
  dsimp only [m32]
  simp (maxSteps := 4000000) -implicitDefEqProofs -dsimp (disch := omega) only [↓AW_ops, ↓AW_seq, ↓AOps_nil, ↓AOps_pu, on_some, ↓then_normal, pval, rd_S, rd_C, put_S, cells_agg, List.replicate_succ, List.replicate_zero, List.set_cons_zero, List.set_cons_succ, List.getElem?_cons_zero, Option.getD_some, Nat.reduceSub, List.cons_append, List.nil_append, ↓AW_toScope]
  refine ScopeK.by 65 (fun s : KSt => KS A s.H s.nl s.left s.tl s.u s.K ∧ (∃ D, KI L (lists ws) s.left s.p D) ∧ 1 ≤ s.left.length ∧ kn L (lists ws) (lists ws).length (rg0 (lists ws).length) ((0 : Int) : Rat) = s.K ++ kn L (lists ws) s.left.length s.left s.p ∧ s.K.length + s.left.length = ws.length)
    (fun s => [(1, .agg [x, y]), (5, .sl 1 s.nl 0 s.left.length false), (7, s.u), (8, R s.p)]) (fun s => s.H) (fun s => s.left.length) (ws.length + 1) ?_ ?_
  · simp (maxSteps := 4000000) -implicitDefEqProofs -dsimp (disch := omega) only [↓AW_ops, ↓AW_seq, ↓AOps_pu, ↓AOps_call, on_some, pval, rd_S, put_S, chkd, bgot, partA, eq_self, List.set_cons_zero, List.set_cons_succ, List.getElem?_cons_zero, List.getElem?_cons_succ, List.drop_zero, List.take_succ_cons, List.take_nil, Option.getD_some, map_c, map_n, List.length_cons, List.length_nil, Nat.reduceAdd, Nat.reduceLeDiff, Nat.reduceEqDiff, Nat.zero_add, if_true, if_false]
    refine CallK.of (s26 hL hV hs.l hs.v hs.w) ?_
    have h0 := hg.e
    simp (maxSteps := 4000000) -implicitDefEqProofs -dsimp (disch := omega) only [↓AW_skip, ↓AW_ops, ↓AW_seq, ↓AW_cond, ↓AW_block, ↓AOps_nil, ↓AOps_pu, on_some, extK_same, condB_f, ↓then_normal, pval, rd_S, rd_C, put_S, ↓AW_toLoop, chkd, isAdr, bgot, cells_agg, partA, eq_self, List.set_cons_zero, List.set_cons_succ, List.getElem?_cons_zero, List.getElem?_cons_succ, List.drop_zero, List.drop_succ_cons, List.take_succ_cons, List.take_nil, Option.getD_some, List.length_cons, List.length_nil, Nat.reduceAdd, Nat.reduceLeDiff, Nat.zero_add, bin_neq, if_true, if_false, Bool.false_eq_true, decide_false, not_true_eq_false, h0, hV.ls.len]
    refine LoopK.by 65 (fun z : Nat × AV × AHeap => z.1 ≤ ws.length ∧ AccL 1 e1 A z.2.2 z.2.1 ((rg0 ws.length).take z.1)) (fun z => [(1, .agg [x, y]), (5, z.2.1), (18, I ws.length), (19, I z.1)]) (fun z => z.2.2) (fun z => ws.length - z.1) (0, .nilS, A) ⟨by simp only; omega, AccL.nil (List.prefix_refl _)⟩ rfl (by simp [Has, rd_s]) rfl ?_
    rintro ⟨i, v0, H0⟩ ⟨hi, hv0⟩
    simp only at hi hv0
    by_cases hlt : i < ws.length
    · have hlt' : (i : Int) < ws.length := by omega
      have hri : (rg0 ws.length)[i]? = some (i : Int) := by
        unfold rg0
        rw [List.getElem?_map, List.getElem?_range hlt]; rfl
      obtain ⟨u3, A3, happ, hu3⟩ := hv0.push e1_len (i : Int) (by simp [lim, rg0]; omega)
      simp only [e1] at happ
      simp (maxSteps := 4000000) -implicitDefEqProofs -dsimp (disch := omega) only [↓AW_skip, ↓AW_ops, ↓AW_seq, ↓AW_cond, ↓AW_block, ↓AOps_nil, ↓AOps_pu, ↓AOps_ha, on_some, extK_false, extK_app, condB_t, ↓then_normal, ↓inBlock_normal, pval, hval_blds, hval_app, rd_S, rd_C, put_S, cells_int, splice, fillA, repl, eq_self, mk, List.foldl_cons, List.foldl_nil, List.replicate_succ, List.replicate_zero, List.set_cons_zero, List.set_cons_succ, List.getElem?_cons_zero, List.getElem?_cons_succ, List.drop_succ_cons, List.drop_nil, List.take_zero, Option.getD_some, map_c, map_n, List.length_cons, List.length_nil, Nat.reduceAdd, Nat.reduceLeDiff, Nat.zero_add, List.nil_append, List.append_nil, bin_add, bin_lss, w64, if_true, decide_true, true_and, and_true, hlt', happ]
      refine ⟨(i + 1, u3, A3), ⟨hlt, ?_⟩, by simp [Has, rd_s], rfl, by simp only; omega⟩
      simp only
      rw [List.take_add_one, hri]
      exact hu3
    · have hlt' : ¬ ((i : Int) < ws.length) := by omega
      have hrl : (rg0 ws.length).length = ws.length := by simp [rg0]
      rw [List.take_of_length_le (by omega)] at hv0
      obtain ⟨nl, hol, hve⟩ := AccL_ol hv0 e1_len (by omega)
      have hki := KI.start hg
      rw [hll] at hki
      have hks : KS A H0 nl (rg0 ws.length) [] .nilS [] := ⟨⟨hol.pre, hol.new, by rw [List.append_nil]; exact hol.ob, rfl⟩, .inl ⟨rfl, rfl⟩, by simp⟩
      have hl1 : 1 ≤ (rg0 ws.length).length := by omega
      have hkn : kn L (lists ws) (lists ws).length (rg0 (lists ws).length) ((0 : Int) : Rat) = [] ++ kn L (lists ws) (rg0 ws.length).length (rg0 ws.length) ((0 : Int) : Rat) := by rw [hll, hrl]; rfl
      have hKl : ([] : List Pc).length + (rg0 ws.length).length = ws.length := by simpa using hrl
      subst hve
      simp (maxSteps := 4000000) -implicitDefEqProofs -dsimp (disch := omega) only [↓AW_ops, ↓AW_seq, ↓AW_cond, ↓AW_exit, ↓AOps_nil, ↓AOps_pu, ↓AOps_call, on_some, condB_f, ↓then_normal, ↓then_exit, ↓inBlock_exit, pval, rd_S, rd_C, put_S, eq_self, mk, List.foldl_cons, List.foldl_nil, List.replicate_succ, List.replicate_zero, List.set_cons_zero, List.set_cons_succ, List.getElem?_cons_zero, List.getElem?_cons_succ, Option.getD_some, map_c, map_n, List.length_cons, List.length_nil, Nat.reduceAdd, Nat.reduceLeDiff, Nat.zero_add, bin_lss, if_true, if_false, decide_false, true_and, reduceCtorEq, ↓inScope_exit, hlt']
      refine CallK.of (s76 _ _) ?_
      simp (maxSteps := 4000000) -implicitDefEqProofs -dsimp (disch := omega) only [↓AW_ops, ↓AW_seq, ↓AOps_nil, ↓AOps_pu, on_some, extK_same, ↓then_normal, pval, rd_S, rd_C, put_S, chkd, bput, cells_agg, splice, eq_self, mk, List.foldl_cons, List.foldl_nil, List.replicate_succ, List.replicate_zero, List.set_cons_zero, List.set_cons_succ, List.getElem?_cons_zero, List.getElem?_cons_succ, List.drop_succ_cons, List.drop_nil, List.take_zero, Option.getD_some, List.length_cons, List.length_nil, Nat.reduceAdd, Nat.reduceLeDiff, Nat.zero_add, List.nil_append, List.append_nil, if_true, if_false, ne_eq, not_true_eq_false, ↓AW_label]
      have hN : (rg0 ws.length).length < ws.length + 1 := by omega
      generalize rg0 ws.length = left at *
      generalize (((ws.length : Nat) : Int)) = D at hki
      generalize ((0 : Int) : Rat) = p at *
      generalize H0 = H at *
      by_cases hl2 : 1 < left.length
      · obtain ⟨a0, b0, l0, rfl⟩ : ∃ a b l, left = a :: b :: l := by
          match left, hl2 with
          | a :: b :: l, _ => exact ⟨a, b, l, rfl⟩
        generalize hleft : a0 :: b0 :: l0 = left at *
        have hl2' : (1 : Int) < left.length := by omega
        have hPl : ∀ row ∈ lists ws, Pl (L.zip row) p := fun row hr => Pl_of hg hr hki.p0 hki.p1 (by have := hki.den; omega)
        have hpre := hks.ot.pre
        have hL1 := hL.mono hpre
        have hV1 := hV.mono hpre
        have ham : a0 ∈ left := by rw [← hleft]; simp
        have hbm : bestF (cqI L (lists ws) p) a0 left ∈ left := by
          rcases bestF_mem (cqI L (lists ws) p) left a0 with h1 | h1
          · rw [h1]; exact ham
          · exact h1
        have hcal : ∀ i ∈ left, Sm (cqI L (lists ws) p i) ∧ ((cqs L (lists ws) p).map rp)[i.toNat]? = some (rp (cqI L (lists ws) p i)) ∧ 0 ≤ i := by
          intro i hi
          obtain ⟨c1, c2, _, v, hv, c4⟩ := hki.call hg (by omega) hi
          have hr := hki.rg i hi
          have hDv := hki.dvb (by omega) hv
          have hc2 : cqI L (lists ws) p i ≤ ((120 : Int) : Rat) := Rat.le_trans c2 (Rat.intCast_le_intCast.2 (by omega))
          refine ⟨Sm_of (M := 120) hDv.1 (by omega) (by omega) c4 (int_neg_le_zero (by omega) (Rat.le_trans hki.p0 c1)) hc2, ?_, hr.1⟩
          have hget : (lists ws)[i.toNat]? = some (lists ws)[i.toNat] := List.getElem?_eq_getElem (by omega)
          rw [List.getElem?_map]
          unfold cqs
          rw [List.getElem?_map, hget]
          simp only [Option.map_some]
          unfold cqI fOf rowOf
          rw [hget]
          rfl
        simp (maxSteps := 4000000) -implicitDefEqProofs -dsimp (disch := omega) only [↓AW_ops, ↓AW_seq, ↓AW_cond, ↓AOps_nil, ↓AOps_pu, ↓AOps_call, on_some, condB_t, ↓then_normal, pval, rd_S, rd_C, put_S, chkd, bgot, partA, eq_self, mk, List.foldl_cons, List.foldl_nil, List.replicate_succ, List.replicate_zero, List.set_cons_zero, List.set_cons_succ, List.getElem?_cons_zero, List.getElem?_cons_succ, List.drop_zero, List.take_succ_cons, List.take_nil, Option.getD_some, map_c, map_n, List.length_cons, List.length_nil, Nat.reduceAdd, Nat.reduceLeDiff, Nat.reduceEqDiff, Nat.zero_add, bin_gtr, if_true, if_false, decide_true, hln, hl2']
        refine CallK.of (c_calls hL1 hV1 hg p hPl) ?_
        have hlv := Ls_out H e2_len ((cqs L (lists ws) p).map rp)
        have hlp := pre_out H (((cqs L (lists ws) p).map rp).flatMap e2) ((cqs L (lists ws) p).map rp).length
        have hnm : H.length ≤ nm (outV 2 H ((cqs L (lists ws) p).map rp).length) ∧ (outV 2 H ((cqs L (lists ws) p).map rp).length).cells? = some [outV 2 H ((cqs L (lists ws) p).map rp).length] := by
          have hcl : ((cqs L (lists ws) p).map rp).length = ws.length := by simp [cqs]
          unfold outV
          rw [if_neg (by omega)]
          exact ⟨Nat.le_refl _, rfl⟩
        generalize outV 2 H ((cqs L (lists ws) p).map rp).length = lv at *
        generalize outH H (((cqs L (lists ws) p).map rp).flatMap e2) ((cqs L (lists ws) p).map rp).length = H1 at *
        have hst1 : stA 1 (.ptr H1.length 0) lv (H1 ++ [.cells true [.nilS]]) = some (H1 ++ [.cells true [lv]]) := by simp [stA, hnm.2, splice]
        simp (maxSteps := 4000000) -implicitDefEqProofs -dsimp (disch := omega) only [↓AW_ops, ↓AW_seq, ↓AOps_nil, ↓AOps_pu, ↓AOps_ha, ↓AOps_call, on_some, extK_false, extK_app, ↓then_normal, pval, hval_st, hval_newv, rd_S, rd_C, put_S, putS_none, cells_nilS, mk, List.foldl_cons, List.foldl_nil, List.replicate_succ, List.replicate_zero, List.set_cons_zero, List.set_cons_succ, List.getElem?_cons_zero, List.getElem?_cons_succ, Option.getD_some, Option.map_some, map_c, map_n, hst1]
        have hp2 := pre_app H1 [AObj.cells true [lv]]
        have hld9 : ldA 1 false (.ptr H1.length 0) (H1 ++ [AObj.cells true [lv]]) = some lv := ld_new _ _ _
        have hlv2 := hlv.mono hp2
        have hks2 := hks.mono (hlp.trans hp2)
        generalize hH2 : H1 ++ [AObj.cells true [lv]] = H2 at *
        have hH2l : H1.length < H2.length := by rw [← hH2]; simp
        refine CallK.of (c_first (x0 := a0) hks2.ot.ls (by rw [← hleft]; rfl) (by omega) (a := H1.length) (cqI L (lists ws) p) (fun i hi => s84 hld9 hlv2 (hcal i hi).2.2 (hcal i hi).2.1) (fun i hi => (hcal i hi).1)) ?_
        have hkn2 : kn L (lists ws) left.length left p = ⟨bestF (cqI L (lists ws) p) a0 left, rp p, rp (cqI L (lists ws) p (bestF (cqI L (lists ws) p) a0 left))⟩ :: kn L (lists ws) (left.length - 1) (without left (bestF (cqI L (lists ws) p) a0 left)) (cqI L (lists ws) p (bestF (cqI L (lists ws) p) a0 left)) := by
          rw [← hleft]; rfl
        rw [hkn2] at hkn
        have hnext := hki.next hg (by omega) (bestF_le (cqI L (lists ws) p) left a0).2 hbm
        generalize bestF (cqI L (lists ws) p) a0 left = b at *
        obtain ⟨hsm, hget, hb0⟩ := hcal b hbm
        have hst2 : stA 1 (.ptr H2.length 0) (I b) (H2 ++ [.cells true [.int .i64 0]]) = some (H2 ++ [.cells true [I b]]) := by simp [stA, cells_int, splice]
        have hp3 := pre_app H2 [AObj.cells true [I b]]
        have hld10 : ldA 1 false (.ptr H2.length 0) (H2 ++ [AObj.cells true [I b]]) = some (I b) := ld_new _ _ _
        have hlv3 := hlv2.mono hp3
        have hks3 := hks2.mono hp3
        have hld9' : ldA 1 false (.ptr H1.length 0) (H2 ++ [AObj.cells true [I b]]) = some lv := by
          unfold ldA at hld9 ⊢
          simp only at hld9 ⊢
          rw [List.getElem?_append_left hH2l]; exact hld9
        have hgl := (List.getElem?_eq_some_iff.1 hget).1
        obtain ⟨u4, H4, happ, hks4, hfr4⟩ := hks3.push ⟨b, rp p, rp (cqI L (lists ws) p b)⟩ (by have := hks.Kl; omega)
        have hno : ∀ m, H.length ≤ m → ∀ no len, AV.nilS = .sl 5 no 0 len false → m ≠ no := fun m hm no len hu => by have := hks.no_lt hu; omega
        have hf9 : H4[H1.length]? = (H2 ++ [AObj.cells true [I b]])[H1.length]? := hfr4 _ (by simp; omega) (hno _ hlp.length_le)
        have hf10 : H4[H2.length]? = (H2 ++ [AObj.cells true [I b]])[H2.length]? := hfr4 _ (by simp) (hno _ (by have := hlp.length_le; omega))
        have hld9b : ldA 1 false (.ptr H1.length 0) H4 = some lv := by
          unfold ldA at hld9' ⊢
          simp only at hld9' ⊢
          rw [hf9]; exact hld9'
        have hld10b : ldA 1 false (.ptr H2.length 0) H4 = some (I b) := by
          unfold ldA at hld10 ⊢
          simp only at hld10 ⊢
          rw [hf10]; exact hld10
        have hlv4 : L2 H4 lv ((cqs L (lists ws) p).map rp) := Ls_congr hlv3 (fun hne => hfr4 _ (Ls_lt hlv3 hne) (hno _ hnm.1))
        have e5p : e5 ⟨b, rp p, rp (cqI L (lists ws) p b)⟩ = [I b, I p.num, I (p.den : Int), I (rp (cqI L (lists ws) p b)).1, I (rp (cqI L (lists ws) p b)).2] := rfl
        rw [e5p] at happ
        simp (maxSteps := 4000000) -implicitDefEqProofs -dsimp (disch := omega) only [↓AW_ops, ↓AW_seq, ↓AOps_nil, ↓AOps_pu, ↓AOps_ld, ↓AOps_ha, ↓AOps_call, on_some, extK_false, extK_app, extK_same, ↓then_normal, pval, lval, hval_st, hval_newv, hval_blds, hval_app, rd_S, rd_C, put_S, putS_none, chkd, bput, bgot, cells_agg, cells_int, splice, partA, fillA, repl, eq_self, mk, List.foldl_cons, List.foldl_nil, List.replicate_succ, List.replicate_zero, List.set_cons_zero, List.set_cons_succ, List.getElem?_cons_zero, List.getElem?_cons_succ, List.drop_zero, List.drop_succ_cons, List.drop_nil, List.take_zero, List.take_succ_cons, List.take_nil, Option.getD_some, Option.map_some, map_c, map_n, List.length_cons, List.length_nil, Nat.reduceAdd, Nat.reduceLeDiff, Nat.reduceEqDiff, Nat.zero_add, List.cons_append, List.nil_append, List.append_nil, if_true, if_false, Go.Eng.e2, and_true, ne_eq, not_true_eq_false, hst2, hld10, hld9', hlv3.idxI hb0 (by omega : b < ((cqs L (lists ws) p).map rp).length), hlv3.ld0 hget 2 true (by decide), R, happ, hld9b, hld10b, hlv4.ld0 hget 2 true (by decide)]
        have hne10 : H2.length ≠ nl := by
          have := hks.ot.lt
          have := hlp.length_le
          omega
        refine CallK.of (c_del hks4.ot (by omega) hne10 hld10b hbm) ?_
        obtain ⟨D2, hki2, hwl⟩ := hnext
        simp (maxSteps := 4000000) -implicitDefEqProofs -dsimp (disch := omega) only [↓AW_exit, ↓AOps_nil, ↓AOps_pu, on_some, extK_false, ↓then_normal, ↓then_exit, pval, rd_S, put_S, putS_none, eq_self, mk, List.foldl_cons, List.foldl_nil, List.replicate_succ, List.replicate_zero, List.set_cons_zero, List.set_cons_succ, List.getElem?_cons_zero, List.getElem?_cons_succ, Option.getD_some, List.length_cons, List.length_nil, Nat.reduceAdd, Nat.reduceLeDiff, Nat.zero_add, List.append_nil, if_true, true_and, ↓inScope_exit]
        refine ⟨⟨_, nl, without left b, _, u4, ([] : List Pc) ++ [⟨b, rp p, rp (cqI L (lists ws) p b)⟩], cqI L (lists ws) p b⟩, ⟨hks4.del _ _, ⟨D2, hki2⟩, by simp only; omega, ?_, ?_⟩, by simp [Has, rd_s, R, rp], rfl, by simp only; omega⟩
        · simp only
          rw [hkn, hwl, List.append_assoc]
          rfl
        · simp only [List.length_append, List.length_cons, List.length_nil]
          omega
      · obtain ⟨o, rfl⟩ : ∃ o, left = [o] := by
          match left, hl1, hl2 with
          | [o], _, _ => exact ⟨o, rfl⟩
          | _ :: _ :: _, _, h => simp at h
        have hl2' : ¬ ((1 : Int) < ((1 : Nat) : Int)) := by decide
        have hpre := hks.ot.pre
        have hls := hks.ot.ls
        have i0 := hls.idx (k := .i64) (i := 0) (by simp)
        have d0 := hls.ld0 (i := 0) (x := o) rfl 1 false (by decide)
        rw [show ((0 : Nat) : Int) = 0 from rfl] at i0
        rw [Nat.zero_mul, Nat.add_zero] at i0 d0
        have hlen1 := hls.len
        obtain ⟨u4, H4, happ, hks4, _⟩ := hks.push ⟨o, rp p, (L.sum, 1)⟩ (by have := hks.Kl; omega)
        have e5p : e5 ⟨o, rp p, (L.sum, 1)⟩ = [I o, I p.num, I (p.den : Int), I ((L.sum : Int) : Rat).num, I (((L.sum : Int) : Rat).den : Int)] := rfl
        rw [e5p] at happ
        clear hks hls
        generalize AV.sl 1 nl 0 [o].length false = vv at *
        simp (maxSteps := 4000000) -implicitDefEqProofs -dsimp (disch := omega) only [↓AW_skip, ↓AW_ops, ↓AW_seq, ↓AW_cond, ↓AOps_nil, ↓AOps_pu, ↓AOps_ld, ↓AOps_call, on_some, condB_f, ↓then_normal, pval, lval, rd_S, rd_C, put_S, chkd, bgot, partA, eq_self, mk, List.foldl_cons, List.foldl_nil, List.replicate_succ, List.replicate_zero, List.set_cons_zero, List.set_cons_succ, List.getElem?_cons_zero, List.getElem?_cons_succ, List.drop_zero, List.take_succ_cons, List.take_nil, Option.getD_some, map_c, map_n, List.length_cons, List.length_nil, Nat.reduceAdd, Nat.reduceLeDiff, Nat.reduceEqDiff, Nat.zero_add, bin_gtr, if_true, if_false, Bool.false_eq_true, decide_false, Go.Eng.e1, hlen1, hl2', i0, d0]
        refine CallK.of (c_end (y := y) (hL.mono hpre) hg) ?_
        simp (maxSteps := 4000000) -implicitDefEqProofs -dsimp (disch := omega) only [↓AOps_call, extK_same, rd_S, put_S, mk, List.foldl_cons, List.foldl_nil, List.replicate_succ, List.replicate_zero, List.set_cons_zero, List.set_cons_succ, List.getElem?_cons_zero, List.getElem?_cons_succ, Option.getD_some, map_c, map_n]
        refine CallK.of (s76 _ _) ?_
        simp (maxSteps := 4000000) -implicitDefEqProofs -dsimp (disch := omega) only [↓AW_ret, ↓AOps_nil, ↓AOps_pu, ↓AOps_ha, on_some, extK_false, extK_app, extK_same, ↓then_normal, ↓Fin_ret, pval, hval_blds, hval_app, rd_S, rd_C, put_S, resV, resL, cells_agg, cells_int, splice, fillA, repl, eq_self, mk, List.foldl_cons, List.foldl_nil, List.replicate_succ, List.replicate_zero, List.set_cons_zero, List.set_cons_succ, List.getElem?_cons_zero, List.getElem?_cons_succ, List.drop_zero, List.drop_succ_cons, List.drop_nil, List.take_zero, List.take_succ_cons, Option.getD_some, Option.map_some, map_c, map_n, List.length_cons, List.length_nil, Nat.reduceAdd, Nat.reduceLeDiff, Nat.zero_add, List.cons_append, List.nil_append, List.append_nil, if_true, and_true, ↓inScope_ret, R, happ]
        have hfin := hks4.acc
        have hkn3 : ([] : List Pc) ++ [⟨o, rp p, (L.sum, 1)⟩] = kn L (lists ws) (lists ws).length (rg0 (lists ws).length) p := by rw [hkn]; rfl
        rw [hkn3] at hfin
        exact hfin.gc2 flat_e5 (I 0) rfl
  · rintro ⟨H, nl, left, tl, u, K, p⟩ ⟨hks, ⟨D, hki⟩, hl1, hkn, hKl⟩
    simp only at hks hki hl1 hkn hKl
    by_cases hl2 : 1 < left.length
    · obtain ⟨a0, b0, l0, rfl⟩ : ∃ a b l, left = a :: b :: l := by
        match left, hl2 with
        | a :: b :: l, _ => exact ⟨a, b, l, rfl⟩
      generalize hleft : a0 :: b0 :: l0 = left at *
      have hl2' : (1 : Int) < left.length := by omega
      have hPl : ∀ row ∈ lists ws, Pl (L.zip row) p := fun row hr => Pl_of hg hr hki.p0 hki.p1 (by have := hki.den; omega)
      have hpre := hks.ot.pre
      have hL1 := hL.mono hpre
      have hV1 := hV.mono hpre
      have ham : a0 ∈ left := by rw [← hleft]; simp
      have hbm : bestF (cqI L (lists ws) p) a0 left ∈ left := by
        rcases bestF_mem (cqI L (lists ws) p) left a0 with h1 | h1
        · rw [h1]; exact ham
        · exact h1
      have hcal : ∀ i ∈ left, Sm (cqI L (lists ws) p i) ∧ ((cqs L (lists ws) p).map rp)[i.toNat]? = some (rp (cqI L (lists ws) p i)) ∧ 0 ≤ i := by
        intro i hi
        obtain ⟨c1, c2, _, v, hv, c4⟩ := hki.call hg (by omega) hi
        have hr := hki.rg i hi
        have hDv := hki.dvb (by omega) hv
        have hc2 : cqI L (lists ws) p i ≤ ((120 : Int) : Rat) := Rat.le_trans c2 (Rat.intCast_le_intCast.2 (by omega))
        refine ⟨Sm_of (M := 120) hDv.1 (by omega) (by omega) c4 (int_neg_le_zero (by omega) (Rat.le_trans hki.p0 c1)) hc2, ?_, hr.1⟩
        have hget : (lists ws)[i.toNat]? = some (lists ws)[i.toNat] := List.getElem?_eq_getElem (by omega)
        rw [List.getElem?_map]
        unfold cqs
        rw [List.getElem?_map, hget]
        simp only [Option.map_some]
        unfold cqI fOf rowOf
        rw [hget]
        rfl
      simp (maxSteps := 4000000) -implicitDefEqProofs -dsimp (disch := omega) only [↓AW_skip, ↓AW_ops, ↓AW_seq, ↓AW_cond, ↓AOps_nil, ↓AOps_pu, ↓AOps_call, on_some, condB_t, ↓then_normal, pval, rd_S, rd_C, put_S, chkd, bgot, partA, eq_self, mk, List.foldl_cons, List.foldl_nil, List.replicate_succ, List.replicate_zero, List.set_cons_zero, List.set_cons_succ, List.getElem?_cons_zero, List.getElem?_cons_succ, List.drop_zero, List.take_succ_cons, List.take_nil, Option.getD_some, map_c, map_n, List.length_cons, List.length_nil, Nat.reduceAdd, Nat.reduceLeDiff, Nat.reduceEqDiff, Nat.zero_add, bin_gtr, if_true, if_false, decide_true, hln, hl2']
      refine CallK.of (c_calls hL1 hV1 hg p hPl) ?_
      have hlv := Ls_out H e2_len ((cqs L (lists ws) p).map rp)
      have hlp := pre_out H (((cqs L (lists ws) p).map rp).flatMap e2) ((cqs L (lists ws) p).map rp).length
      have hnm : H.length ≤ nm (outV 2 H ((cqs L (lists ws) p).map rp).length) ∧ (outV 2 H ((cqs L (lists ws) p).map rp).length).cells? = some [outV 2 H ((cqs L (lists ws) p).map rp).length] := by
        have hcl : ((cqs L (lists ws) p).map rp).length = ws.length := by simp [cqs]
        unfold outV
        rw [if_neg (by omega)]
        exact ⟨Nat.le_refl _, rfl⟩
      generalize outV 2 H ((cqs L (lists ws) p).map rp).length = lv at *
      generalize outH H (((cqs L (lists ws) p).map rp).flatMap e2) ((cqs L (lists ws) p).map rp).length = H1 at *
      have hst1 : stA 1 (.ptr H1.length 0) lv (H1 ++ [.cells true [.nilS]]) = some (H1 ++ [.cells true [lv]]) := by simp [stA, hnm.2, splice]
      simp (maxSteps := 4000000) -implicitDefEqProofs -dsimp (disch := omega) only [↓AW_ops, ↓AW_seq, ↓AOps_nil, ↓AOps_pu, ↓AOps_ha, ↓AOps_call, on_some, extK_false, extK_app, ↓then_normal, pval, hval_st, hval_newv, rd_S, rd_C, put_S, putS_none, cells_nilS, mk, List.foldl_cons, List.foldl_nil, List.replicate_succ, List.replicate_zero, List.set_cons_zero, List.set_cons_succ, List.getElem?_cons_zero, List.getElem?_cons_succ, Option.getD_some, Option.map_some, map_c, map_n, hst1]
      have hp2 := pre_app H1 [AObj.cells true [lv]]
      have hld9 : ldA 1 false (.ptr H1.length 0) (H1 ++ [AObj.cells true [lv]]) = some lv := ld_new _ _ _
      have hlv2 := hlv.mono hp2
      have hks2 := hks.mono (hlp.trans hp2)
      generalize hH2 : H1 ++ [AObj.cells true [lv]] = H2 at *
      have hH2l : H1.length < H2.length := by rw [← hH2]; simp
      refine CallK.of (c_first (x0 := a0) hks2.ot.ls (by rw [← hleft]; rfl) (by omega) (a := H1.length) (cqI L (lists ws) p) (fun i hi => s84 hld9 hlv2 (hcal i hi).2.2 (hcal i hi).2.1) (fun i hi => (hcal i hi).1)) ?_
      have hkn2 : kn L (lists ws) left.length left p = ⟨bestF (cqI L (lists ws) p) a0 left, rp p, rp (cqI L (lists ws) p (bestF (cqI L (lists ws) p) a0 left))⟩ :: kn L (lists ws) (left.length - 1) (without left (bestF (cqI L (lists ws) p) a0 left)) (cqI L (lists ws) p (bestF (cqI L (lists ws) p) a0 left)) := by
        rw [← hleft]; rfl
      rw [hkn2] at hkn
      have hnext := hki.next hg (by omega) (bestF_le (cqI L (lists ws) p) left a0).2 hbm
      generalize bestF (cqI L (lists ws) p) a0 left = b at *
      obtain ⟨hsm, hget, hb0⟩ := hcal b hbm
      have hst2 : stA 1 (.ptr H2.length 0) (I b) (H2 ++ [.cells true [.int .i64 0]]) = some (H2 ++ [.cells true [I b]]) := by simp [stA, cells_int, splice]
      have hp3 := pre_app H2 [AObj.cells true [I b]]
      have hld10 : ldA 1 false (.ptr H2.length 0) (H2 ++ [AObj.cells true [I b]]) = some (I b) := ld_new _ _ _
      have hlv3 := hlv2.mono hp3
      have hks3 := hks2.mono hp3
      have hld9' : ldA 1 false (.ptr H1.length 0) (H2 ++ [AObj.cells true [I b]]) = some lv := by
        unfold ldA at hld9 ⊢
        simp only at hld9 ⊢
        rw [List.getElem?_append_left hH2l]; exact hld9
      have hgl := (List.getElem?_eq_some_iff.1 hget).1
      obtain ⟨u4, H4, happ, hks4, hfr4⟩ := hks3.push ⟨b, rp p, rp (cqI L (lists ws) p b)⟩ (by have := hks.Kl; omega)
      have hno : ∀ m, H.length ≤ m → ∀ no len, u = .sl 5 no 0 len false → m ≠ no := fun m hm no len hu => by have := hks.no_lt hu; omega
      have hf9 : H4[H1.length]? = (H2 ++ [AObj.cells true [I b]])[H1.length]? := hfr4 _ (by simp; omega) (hno _ hlp.length_le)
      have hf10 : H4[H2.length]? = (H2 ++ [AObj.cells true [I b]])[H2.length]? := hfr4 _ (by simp) (hno _ (by have := hlp.length_le; omega))
      have hld9b : ldA 1 false (.ptr H1.length 0) H4 = some lv := by
        unfold ldA at hld9' ⊢
        simp only at hld9' ⊢
        rw [hf9]; exact hld9'
      have hld10b : ldA 1 false (.ptr H2.length 0) H4 = some (I b) := by
        unfold ldA at hld10 ⊢
        simp only at hld10 ⊢
        rw [hf10]; exact hld10
      have hlv4 : L2 H4 lv ((cqs L (lists ws) p).map rp) := Ls_congr hlv3 (fun hne => hfr4 _ (Ls_lt hlv3 hne) (hno _ hnm.1))
      have e5p : e5 ⟨b, rp p, rp (cqI L (lists ws) p b)⟩ = [I b, I p.num, I (p.den : Int), I (rp (cqI L (lists ws) p b)).1, I (rp (cqI L (lists ws) p b)).2] := rfl
      rw [e5p] at happ
      simp (maxSteps := 4000000) -implicitDefEqProofs -dsimp (disch := omega) only [↓AW_ops, ↓AW_seq, ↓AOps_nil, ↓AOps_pu, ↓AOps_ld, ↓AOps_ha, ↓AOps_call, on_some, extK_false, extK_app, extK_same, ↓then_normal, pval, lval, hval_st, hval_newv, hval_blds, hval_app, rd_S, rd_C, put_S, putS_none, chkd, bput, bgot, cells_agg, cells_int, splice, partA, fillA, repl, eq_self, mk, List.foldl_cons, List.foldl_nil, List.replicate_succ, List.replicate_zero, List.set_cons_zero, List.set_cons_succ, List.getElem?_cons_zero, List.getElem?_cons_succ, List.drop_zero, List.drop_succ_cons, List.drop_nil, List.take_zero, List.take_succ_cons, List.take_nil, Option.getD_some, Option.map_some, map_c, map_n, List.length_cons, List.length_nil, Nat.reduceAdd, Nat.reduceLeDiff, Nat.reduceEqDiff, Nat.zero_add, List.cons_append, List.nil_append, List.append_nil, if_true, if_false, Go.Eng.e2, and_true, ne_eq, not_true_eq_false, hst2, hld10, hld9', hlv3.idxI hb0 (by omega : b < ((cqs L (lists ws) p).map rp).length), hlv3.ld0 hget 2 true (by decide), R, happ, hld9b, hld10b, hlv4.ld0 hget 2 true (by decide)]
      have hne10 : H2.length ≠ nl := by
        have := hks.ot.lt
        have := hlp.length_le
        omega
      refine CallK.of (c_del hks4.ot (by omega) hne10 hld10b hbm) ?_
      obtain ⟨D2, hki2, hwl⟩ := hnext
      simp (maxSteps := 4000000) -implicitDefEqProofs -dsimp (disch := omega) only [↓AW_exit, ↓AOps_nil, ↓AOps_pu, on_some, extK_false, ↓then_normal, ↓then_exit, pval, rd_S, put_S, putS_none, eq_self, mk, List.foldl_cons, List.foldl_nil, List.replicate_succ, List.replicate_zero, List.set_cons_zero, List.set_cons_succ, List.getElem?_cons_zero, List.getElem?_cons_succ, Option.getD_some, List.length_cons, List.length_nil, Nat.reduceAdd, Nat.reduceLeDiff, Nat.zero_add, if_true, true_and, ↓inScope_exit]
      refine ⟨⟨_, nl, without left b, _, u4, K ++ [⟨b, rp p, rp (cqI L (lists ws) p b)⟩], cqI L (lists ws) p b⟩, ⟨hks4.del _ _, ⟨D2, hki2⟩, by simp only; omega, ?_, ?_⟩, by simp [Has, rd_s, R, rp], rfl, by simp only; omega⟩
      · simp only
        rw [hkn, hwl, List.append_assoc]
        rfl
      · simp only [List.length_append, List.length_cons, List.length_nil]
        omega
    · obtain ⟨o, rfl⟩ : ∃ o, left = [o] := by
        match left, hl1, hl2 with
        | [o], _, _ => exact ⟨o, rfl⟩
        | _ :: _ :: _, _, h => simp at h
      have hl2' : ¬ ((1 : Int) < ((1 : Nat) : Int)) := by decide
      have hpre := hks.ot.pre
      have hls := hks.ot.ls
      have i0 := hls.idx (k := .i64) (i := 0) (by simp)
      have d0 := hls.ld0 (i := 0) (x := o) rfl 1 false (by decide)
      rw [show ((0 : Nat) : Int) = 0 from rfl] at i0
      rw [Nat.zero_mul, Nat.add_zero] at i0 d0
      have hlen1 := hls.len
      obtain ⟨u4, H4, happ, hks4, _⟩ := hks.push ⟨o, rp p, (L.sum, 1)⟩ (by have := hks.Kl; omega)
      have e5p : e5 ⟨o, rp p, (L.sum, 1)⟩ = [I o, I p.num, I (p.den : Int), I ((L.sum : Int) : Rat).num, I (((L.sum : Int) : Rat).den : Int)] := rfl
      rw [e5p] at happ
      clear hks hls
      generalize AV.sl 1 nl 0 [o].length false = vv at *
      simp (maxSteps := 4000000) -implicitDefEqProofs -dsimp (disch := omega) only [↓AW_skip, ↓AW_ops, ↓AW_seq, ↓AW_cond, ↓AOps_nil, ↓AOps_pu, ↓AOps_ld, ↓AOps_call, on_some, condB_f, ↓then_normal, pval, lval, rd_S, rd_C, put_S, chkd, bgot, partA, eq_self, mk, List.foldl_cons, List.foldl_nil, List.replicate_succ, List.replicate_zero, List.set_cons_zero, List.set_cons_succ, List.getElem?_cons_zero, List.getElem?_cons_succ, List.drop_zero, List.take_succ_cons, List.take_nil, Option.getD_some, map_c, map_n, List.length_cons, List.length_nil, Nat.reduceAdd, Nat.reduceLeDiff, Nat.reduceEqDiff, Nat.zero_add, bin_gtr, if_true, if_false, Bool.false_eq_true, decide_false, Go.Eng.e1, hlen1, hl2', i0, d0]
      refine CallK.of (c_end (y := y) (hL.mono hpre) hg) ?_
      simp (maxSteps := 4000000) -implicitDefEqProofs -dsimp (disch := omega) only [↓AOps_call, extK_same, rd_S, put_S, mk, List.foldl_cons, List.foldl_nil, List.replicate_succ, List.replicate_zero, List.set_cons_zero, List.set_cons_succ, List.getElem?_cons_zero, List.getElem?_cons_succ, Option.getD_some, map_c, map_n]
      refine CallK.of (s76 _ _) ?_
      simp (maxSteps := 4000000) -implicitDefEqProofs -dsimp (disch := omega) only [↓AW_ret, ↓AOps_nil, ↓AOps_pu, ↓AOps_ha, on_some, extK_false, extK_app, extK_same, ↓then_normal, ↓Fin_ret, pval, hval_blds, hval_app, rd_S, rd_C, put_S, resV, resL, cells_agg, cells_int, splice, fillA, repl, eq_self, mk, List.foldl_cons, List.foldl_nil, List.replicate_succ, List.replicate_zero, List.set_cons_zero, List.set_cons_succ, List.getElem?_cons_zero, List.getElem?_cons_succ, List.drop_zero, List.drop_succ_cons, List.drop_nil, List.take_zero, List.take_succ_cons, Option.getD_some, Option.map_some, map_c, map_n, List.length_cons, List.length_nil, Nat.reduceAdd, Nat.reduceLeDiff, Nat.zero_add, List.cons_append, List.nil_append, List.append_nil, if_true, and_true, ↓inScope_ret, R, happ]
      have hfin := hks4.acc
      have hkn3 : K ++ [⟨o, rp p, (L.sum, 1)⟩] = kn L (lists ws) (lists ws).length (rg0 (lists ws).length) ((0 : Int) : Rat) := by rw [hkn]; rfl
      rw [hkn3] at hfin
      exact hfin.gc2 flat_e5 (I 0) rfl
end
end Go.Proofs.Ytmblehbjedpjoaa

namespace Go.Proofs.Ytmblehbjedpjoaa
open Go Go.Eng
/-- Those who are left, in order. -/
def Ord (n : Nat) (left : List Int) : Prop := left = (rg0 n).filter (fun o => decide (o ∈ left))
theorem Ord.without {n : Nat} {left : List Int} (h : Ord n left) (b : Int) : Ord n (without left b) := by
  unfold Ord at h ⊢
  have e : ∀ o, o ∈ Go.Proofs.Ytmblehbjedpjoaa.without left b ↔ o ∈ left ∧ o ≠ b := by
    intro o
    unfold Go.Proofs.Ytmblehbjedpjoaa.without
    rw [List.mem_filter]
    simp
  have h2 : Go.Proofs.Ytmblehbjedpjoaa.without left b = ((rg0 n).filter (fun o => decide (o ∈ left))).filter (fun x => !decide (x = b)) := by
    conv => lhs; rw [h]
    rfl
  rw [h2, List.filter_filter]
  refine List.filter_congr (fun o ho => ?_)
  simp only [List.mem_filter, ho, true_and]
  simp
section
variable {L : List Int} {ws : List (AV × List Int)} {x y : AV} {A : AHeap}
end
end Go.Proofs.Ytmblehbjedpjoaa

namespace Go.Proofs.Ytmblehbjedpjoaa
open Go Go.Eng
theorem Dv_dvd {E : Int} {q : Rat} (h : Dv E q) : (q.den : Int) ∣ E := by
  obtain ⟨k, hk⟩ := h
  have e := R_self q
  have hne := cast_ne (show (q.den : Int) ≠ 0 by have := den_pos q; omega)
  have h1 : ((q.num * E : Int) : Rat) = ((k * q.den : Int) : Rat) := by
    rw [Rat.intCast_mul, Rat.intCast_mul, ← hk]
    generalize ((q.num : Int) : Rat) = n at *
    generalize ((q.den : Int) : Rat) = d at *
    generalize ((E : Int) : Rat) = E' at *
    grind
  have h2 : q.num * E = k * q.den := Rat.intCast_inj.1 h1
  have h3 : q.den ∣ q.num.natAbs * E.natAbs := by
    rw [← Int.natAbs_mul, h2, Int.natAbs_mul]
    exact Nat.dvd_mul_left _ _
  have h4 := Nat.Coprime.dvd_of_dvd_mul_left q.reduced.symm h3
  exact Int.natAbs_dvd_natAbs.1 (by rw [Int.natAbs_natCast]; exact h4)
theorem chain_at {L : List Int} : ∀ (pcs : List Pc) (a : Int × Int), chainR L a pcs → ∀ (i : Nat) (p : Pc), pcs[i]? = some p → p.r = (match i with | 0 => a | j + 1 => ((pcs[j]?).map Pc.s).getD a) ∧ isK L p.r ∧ isK L p.s ∧ ¬ qr p.s < qr p.r
  | [], _, _, _, _, h => by simp at h
  | q :: pcs, a, hc, 0, p, h => by
    have : q = p := by simpa using h
    subst this
    exact ⟨hc.1, hc.2.1, hc.2.2.1, hc.2.2.2.1⟩
  | q :: pcs, a, hc, i + 1, p, h => by
    have h' : pcs[i]? = some p := by simpa using h
    obtain ⟨h1, h2⟩ := chain_at pcs q.s hc.2.2.2.2 i p h'
    refine ⟨?_, h2⟩
    rw [h1]
    cases i with
    | zero => rfl
    | succ j =>
      have hj : j < pcs.length := by have := (List.getElem?_eq_some_iff.1 h').1; omega
      simp [List.getElem?_eq_getElem hj]
theorem chain_last {L : List Int} : ∀ (pcs : List Pc) (a : Int × Int), chainR L a pcs → (match pcs.getLast? with | some p => p.s | none => a) = (L.sum, 1)
  | [], _, h => h
  | [q], a, hc => hc.2.2.2.2
  | q :: q2 :: pcs, a, hc => by
    have := chain_last (q2 :: pcs) q.s hc.2.2.2.2
    rw [List.getLast?_cons_cons]
    rw [List.getLast?_eq_some_getLast (by simp)] at this ⊢
    exact this
theorem CP_of {L : List Int} {V : List (List Int)} (hg : KG L V) {pcs : List Pc} (hp : (pcs.map Pc.o).Perm (rg0 V.length)) (hc : chainR L (0, 1) pcs) {E : Int} (hE : 0 < E ∧ E ≤ 1000000) (hD : ∀ q ∈ pcs, Dv E (qr q.r) ∧ Dv E (qr q.s)) : CP L V pcs := by
  have hst := KI.start hg
  have hlen : pcs.length = V.length := by
    have := hp.length_eq
    simpa [rg0] using this
  have hnd : (pcs.map Pc.o).Nodup := hp.nodup_iff.2 hst.nd
  have hat := chain_at pcs (0, 1) hc
  refine ⟨hlen, fun i hi => ?_, ?_, ?_⟩
  · have hpi : pcs[i]? = some pcs[i] := List.getElem?_eq_getElem hi
    obtain ⟨h1, h2, h3, h4⟩ := hat i _ hpi
    have hom : pcs[i].o ∈ rg0 V.length := hp.mem_iff.1 (List.mem_map_of_mem (List.getElem_mem hi))
    have hr := hst.rg _ hom
    refine ⟨by omega, ?_, h2, h3, ?_, h4⟩
    · have hs := split_f (l := pcs.map Pc.o) (i := i) (z := pcs[i].o) (by rw [List.getElem?_map, hpi]; rfl)
      rw [hs] at hnd
      rw [List.map_take]
      intro hm
      exact (List.nodup_append.1 hnd).2.2 _ hm _ (by simp) rfl
    · rw [h1]
      cases i with
      | zero => rfl
      | succ j =>
        have hj : pcs[j]? = some pcs[j] := List.getElem?_eq_getElem (by omega)
        rw [atI_succ hj]
        simp only [hj, Option.map_some, Option.getD_some]
  · have := chain_last pcs (0, 1) hc
    unfold atI
    rw [List.take_length]
    exact this
  · refine cmn_le hE _ 1 (by omega) (Int.one_dvd _) ?_
    intro d hd
    obtain ⟨r, hr, rfl⟩ := List.mem_map.1 hd
    obtain ⟨q, hq, hr⟩ := List.mem_flatMap.1 hr
    obtain ⟨i, hi, rfl⟩ := List.mem_iff_getElem.1 hq
    obtain ⟨_, h2, h3, _⟩ := hat i _ (List.getElem?_eq_getElem hi)
    obtain ⟨d1, d2⟩ := hD _ hq
    simp only [List.mem_cons, List.not_mem_nil, or_false] at hr
    rcases hr with rfl | rfl
    · obtain ⟨_, _, k3, _⟩ := isK_R hg h2
      have := Dv_dvd d1
      rw [k3] at this
      exact ⟨by have := h2.1.1; omega, this⟩
    · obtain ⟨_, _, k3, _⟩ := isK_R hg h3
      have := Dv_dvd d2
      rw [k3] at this
      exact ⟨by have := h3.1.1; omega, this⟩
/-- What the knife makes are pieces, and each one has his part. -/
theorem knE_ok {L : List Int} {V : List (List Int)} (hg : KG L V) : CP L V (knE L V) ∧ (∀ p ∈ knE L V, W p.r.1 ∧ W p.s.1) ∧ (knE L V).length = V.length ∧
    ∃ P : Nat → Pc, ∀ o : Nat, o < V.length → (∃ k, At (knE L V) o k (P o)) ∧ ((tot (fOf L V o) : Int) : Rat) ≤ pwo (fOf L V o) (P o) * ((V.length : Int) : Rat) := by
  have hv1 := hg.v1
  have hLs := hg.sum
  have hlen : (rg0 V.length).length = V.length := by simp [rg0]
  obtain ⟨h1, h2, ⟨E, hE, _, hEq⟩, h4⟩ := kn_facts hg V.length (rg0 V.length) ((0 : Int) : Rat) V.length hlen hv1 (KI.start hg)
  have hCP := CP_of hg h1 h2 hE hEq
  refine ⟨hCP, fun p hp => ?_, hCP.1, ?_⟩
  · obtain ⟨a, b, _⟩ := hCP.at hp
    have m1 := Int.mul_le_mul hLs.2 a.1.1.2 (by have := a.1.1.1; omega) (by omega : (0 : Int) ≤ 120)
    have m2 := Int.mul_le_mul hLs.2 b.1.1.2 (by have := b.1.1.1; omega) (by omega : (0 : Int) ≤ 120)
    have := a.2
    have := b.2
    constructor <;> constructor <;> omega
  · have hex : ∀ o : Nat, o < V.length → ∃ p k, At (knE L V) o k p := by
      intro o ho
      have hm : (o : Int) ∈ (knE L V).map Pc.o := h1.mem_iff.2 (List.mem_map.2 ⟨o, List.mem_range.2 ho, rfl⟩)
      obtain ⟨p, hp, hpo⟩ := List.mem_map.1 hm
      obtain ⟨k, q, hq⟩ := At.ex ⟨p, hp, hpo⟩
      exact ⟨q, k, hq⟩
    classical
    refine ⟨fun o => if h : ∃ p k, At (knE L V) o k p then h.choose else ⟨0, (0, 1), (0, 1)⟩, fun o ho => ?_⟩
    have hx := hex o ho
    simp only [dif_pos hx]
    refine ⟨hx.choose_spec, ?_⟩
    obtain ⟨k, hk⟩ := hx.choose_spec
    have := h4 _ hk.o.1
    rw [hk.o.2] at this
    exact this
section
variable {L : List Int} {ws : List (AV × List Int)} {x y : AV} {A : AHeap}
end
end Go.Proofs.Ytmblehbjedpjoaa

namespace Go.Proofs.Ytmblehbjedpjoaa
open Go Go.Eng
def scr (k : Int) (r : List Int) : List Int := r.map (fun v => v * k)
def sc (k : Int) (f : List (Int × Int)) : List (Int × Int) := f.map (fun z => (z.1, z.2 * k))
theorem zip_scr (k : Int) : ∀ (L r : List Int), L.zip (scr k r) = sc k (L.zip r)
  | [], _ => rfl
  | _ :: _, [] => rfl
  | n :: L, v :: r => by
    have ih := zip_scr k L r
    show (n, v * k) :: L.zip (scr k r) = (n, v * k) :: sc k (L.zip r)
    rw [ih]
theorem upTo_sc (k : Int) (x : Rat) : ∀ (f : List (Int × Int)) (b : Int), upTo b (sc k f) x = upTo b f x * (k : Rat)
  | [], b => by simp only [sc, List.map_nil, upTo]; grind
  | z :: f, b => by
    have ih := upTo_sc k x f (b + z.1)
    show (clamp x (b : Rat) ((b + z.1 : Int) : Rat) - (b : Rat)) * ((z.2 * k : Int) : Rat) + upTo (b + z.1) (sc k f) x = ((clamp x (b : Rat) ((b + z.1 : Int) : Rat) - (b : Rat)) * (z.2 : Rat) + upTo (b + z.1) f x) * (k : Rat)
    rw [ih, Rat.intCast_mul]
    grind
theorem tot_sc (k : Int) : ∀ f : List (Int × Int), tot (sc k f) = tot f * k
  | [] => by simp [tot, sumZ, sc]
  | z :: f => by
    have ih := tot_sc k f
    have e : ∀ (y : Int × Int) (g : List (Int × Int)), tot (y :: g) = y.1 * y.2 + tot g := by intro y g; simp [tot, sumZ]
    show tot ((z.1, z.2 * k) :: sc k f) = _
    rw [e, e, ih, Int.add_mul, Int.mul_assoc]
theorem len_sc (k : Int) : ∀ f : List (Int × Int), len (sc k f) = len f
  | [] => rfl
  | z :: f => by
    have ih := len_sc k f
    have e : ∀ (y : Int × Int) (g : List (Int × Int)), len (y :: g) = y.1 + len g := by intro y g; simp [len, sumZ]
    show len ((z.1, z.2 * k) :: sc k f) = _
    rw [e, e, ih]
theorem units_sc (k : Int) : ∀ f : List (Int × Int), units (sc k f) = (units f).map (fun v => v * k)
  | [] => rfl
  | z :: f => by
    have ih := units_sc k f
    show List.replicate z.1.toNat (z.2 * k) ++ units (sc k f) = (List.replicate z.1.toNat z.2 ++ units f).map (fun v => v * k)
    rw [ih, List.map_append, List.map_replicate]
theorem rch_sc {k : Int} (hk : 0 < k) (x : Rat) : ∀ (us : List Int) (b a : Int), rch b (a * k) (us.map (fun v => v * k)) (x * (k : Rat)) = rch b a us x
  | [], _, _ => rfl
  | u :: us, b, a => by
    have hk' := cast_pos hk
    have ih := rch_sc hk x us (b + 1) (a + u)
    have e1 : (a * k + u * k) = (a + u) * k := by rw [Int.add_mul]
    show (if x * (k : Rat) ≤ ((a * k + u * k : Int) : Rat) then some ((b : Rat) + (x * (k : Rat) - ((a * k : Int) : Rat)) / ((u * k : Int) : Rat)) else rch (b + 1) (a * k + u * k) (us.map (fun v => v * k)) (x * (k : Rat))) = if x ≤ ((a + u : Int) : Rat) then some ((b : Rat) + (x - (a : Rat)) / (u : Rat)) else rch (b + 1) (a + u) us x
    rw [e1, ih, Rat.intCast_mul]
    have hiff : x * (k : Rat) ≤ ((a + u : Int) : Rat) * (k : Rat) ↔ x ≤ ((a + u : Int) : Rat) := ⟨fun h => Rat.le_of_mul_le_mul_right h hk', fun h => Rat.mul_le_mul_of_nonneg_right h (Rat.le_of_lt hk')⟩
    have hdiv : (x * (k : Rat) - ((a * k : Int) : Rat)) / ((u * k : Int) : Rat) = (x - (a : Rat)) / (u : Rat) := by
      rw [Rat.intCast_mul, Rat.intCast_mul]
      have hne : (k : Rat) ≠ 0 := cast_ne (by omega)
      generalize (k : Rat) = K at *
      generalize (a : Rat) = a' at *
      rw [show x * K - a' * K = (x - a') * K by grind]
      generalize x - a' = y
      by_cases hu : (u : Rat) = 0
      · rw [hu, Rat.zero_mul, Rat.div_def, Rat.div_def, Rat.inv_zero, Rat.mul_zero, Rat.mul_zero]
      · generalize (u : Rat) = u' at *
        have h1 : y / u' * u' = y := Rat.div_mul_cancel hu
        have hn : u' * K ≠ 0 := by grind
        have h2 : y * K / (u' * K) * (u' * K) = y * K := Rat.div_mul_cancel hn
        generalize y / u' = s at *
        generalize y * K / (u' * K) = t at *
        grind
    by_cases h : x ≤ ((a + u : Int) : Rat)
    · rw [if_pos (hiff.2 h), if_pos h, hdiv]
    · rw [if_neg (fun hh => h (hiff.1 hh)), if_neg h]
theorem pw_sc (k : Int) (f : List (Int × Int)) (n m : Int) : pw (sc k f) n m = pw f n m * (k : Rat) := by
  unfold pw
  rw [tot_sc]
  have e : tot f * k * n = tot f * n * k := by rw [Int.mul_assoc, Int.mul_comm k n, ← Int.mul_assoc]
  rw [e, Rat.intCast_mul, Rat.div_def, Rat.div_def]
  grind
theorem plc_sc {k : Int} (hk : 0 < k) (f : List (Int × Int)) (p w : Rat) : plc (sc k f) p (w * (k : Rat)) = plc f p w := by
  have hne : (k : Rat) ≠ 0 := cast_ne (by omega)
  unfold plc
  have hz : (w * (k : Rat)).num = 0 ↔ w.num = 0 := by
    rw [Rat.num_eq_zero, Rat.num_eq_zero]
    constructor
    · intro h
      exact Classical.byContradiction fun h2 => by
        generalize (k : Rat) = K at *
        grind
    · intro h; rw [h, Rat.zero_mul]
  by_cases h : w.num = 0
  · rw [if_pos (hz.2 h), if_pos h]
  · rw [if_neg (fun hh => h (hz.1 hh)), if_neg h, units_sc, upTo_sc]
    have := rch_sc hk (upTo 0 f p + w) (units f) 0 0
    rw [Int.zero_mul] at this
    rw [← this]
    congr 1
    grind
theorem cq_sc {k : Int} (hk : 0 < k) (f : List (Int × Int)) (p : Rat) (n : Nat) : cq (sc k f) p n = cq f p n := by
  unfold cq
  rw [pw_sc, plc_sc hk, len_sc]
theorem pwo_sc (k : Int) (f : List (Int × Int)) (p : Pc) : pwo (sc k f) p = pwo f p * (k : Rat) := by
  unfold pwo
  rw [upTo_sc, upTo_sc]
  grind
/-- The values with an owner's multiplied. -/
def mulV (V : List (List Int)) (o : Nat) (k : Int) : List (List Int) := V.set o (scr k ((V[o]?).getD []))
theorem mulV_len (V : List (List Int)) (o : Nat) (k : Int) : (mulV V o k).length = V.length := by simp [mulV]
theorem fOf_mulV {L : List Int} {V : List (List Int)} {o : Nat} (ho : o < V.length) (k : Int) (i : Int) : fOf L (mulV V o k) i = if i.toNat = o then sc k (fOf L V i) else fOf L V i := by
  unfold fOf rowOf mulV
  by_cases h : i.toNat = o
  · subst h
    rw [if_pos rfl, List.getElem?_set_self ho, Option.getD_some, zip_scr]
  · rw [if_neg h, List.getElem?_set_ne (Ne.symm h)]
theorem cqI_mulV {L : List Int} {V : List (List Int)} {o : Nat} (ho : o < V.length) {k : Int} (hk : 0 < k) (p : Rat) : cqI L (mulV V o k) p = cqI L V p := by
  funext i
  unfold cqI
  rw [fOf_mulV ho, mulV_len]
  split
  · rw [cq_sc hk]
  · rfl
theorem kn_mulV {L : List Int} {V : List (List Int)} {o : Nat} (ho : o < V.length) {k : Int} (hk : 0 < k) : ∀ (m : Nat) (left : List Int) (p : Rat), kn L (mulV V o k) m left p = kn L V m left p
  | 0, _, _ => rfl
  | _ + 1, [], _ => rfl
  | _ + 1, [_], _ => rfl
  | m + 1, a :: b :: l, p => by
    unfold kn
    rw [cqI_mulV ho hk, kn_mulV ho hk m]
theorem knE_mulV {L : List Int} {V : List (List Int)} {o : Nat} (ho : o < V.length) {k : Int} (hk : 0 < k) : knE L (mulV V o k) = knE L V := by
  unfold knE
  rw [mulV_len, kn_mulV ho hk]
theorem prts_mulV {L : List Int} {V : List (List Int)} {o : Nat} (ho : o < V.length) {k : Int} (hk : 0 < k) (P : Nat → Pc) : prts L (mulV V o k) P = prts L V P := by
  have hne : (k : Rat) ≠ 0 := cast_ne (by omega)
  unfold prts
  rw [mulV_len]
  refine List.map_congr_left (fun i _ => ?_)
  have h := fOf_mulV (L := L) ho k (i : Int)
  unfold fOf at h
  rw [h]
  split
  · rw [pwo_sc, tot_sc, Rat.intCast_mul]
    generalize pwo (L.zip (rowOf V (i : Int))) (P i) = y
    generalize ((tot (L.zip (rowOf V (i : Int))) : Int) : Rat) = u'
    generalize (k : Rat) = K at *
    by_cases hu : u' = 0
    · rw [hu, Rat.zero_mul, Rat.div_def, Rat.div_def, Rat.inv_zero, Rat.mul_zero, Rat.mul_zero]
    · have h1 : y / u' * u' = y := Rat.div_mul_cancel hu
      have hn : u' * K ≠ 0 := by grind
      have h2 : y * K / (u' * K) * (u' * K) = y * K := Rat.div_mul_cancel hn
      generalize y / u' = s at *
      generalize y * K / (u' * K) = t at *
      grind
  · rfl
end Go.Proofs.Ytmblehbjedpjoaa

namespace Go.Proofs.Ytmblehbjedpjoaa
open Go Go.Eng
theorem ws_get {ws : List (AV × List Int)} {i : Nat} {x : AV × List Int} (hz : ws[i]? = some x) : (lists ws)[i]? = some x.2 := by
  rw [List.getElem?_map, hz]; rfl
theorem c_SameInts {xs ys : List Int} {v u : AV} {A : AHeap} (hx : L1 A v xs) (hy : L1 A u ys) (hl : xs.length ≤ 1000000) : ACalls Try.prog 103 [v, u] A (B (decide (xs = ys))) A := by
  refine acalls hmix Try.func103 (by kernel_rfl) t103 2 rfl (by decide) ?_
  by_cases hle : xs.length = ys.length
  · have hle' : (xs.length : Int) = ys.length := by omega
    dsimp only [m103]
    simp (maxSteps := 4000000) -implicitDefEqProofs -dsimp (disch := omega) only [↓AW_skip, ↓AW_ops, ↓AW_seq, ↓AW_cond, ↓AW_block, ↓AOps_nil, ↓AOps_pu, on_some, condB_f, ↓then_normal, pval, rd_S, rd_C, put_S, ↓AW_toLoop, eq_self, List.replicate_succ, List.replicate_zero, List.set_cons_zero, List.set_cons_succ, List.getElem?_cons_zero, List.getElem?_cons_succ, Option.getD_some, Nat.reduceSub, List.cons_append, List.nil_append, bin_neq, decide_false, not_true_eq_false, hx.len, hy.len, hle']
    refine LoopK.by 26 (fun i : Nat => i ≤ xs.length ∧ xs.take i = ys.take i) (fun i => [(0, v), (1, u), (5, I i)]) (fun _ => A) (fun i => xs.length - i) 0 ⟨by omega, rfl⟩ rfl (by simp [Has, rd_s]) rfl ?_
    rintro i ⟨hi, he⟩
    by_cases hlt : i < xs.length
    · obtain ⟨z, hz⟩ : ∃ z, xs[i]? = some z := ⟨_, List.getElem?_eq_getElem hlt⟩
      have hlt' : (i : Int) < xs.length := by omega
      have hlt2 : i < ys.length := by omega
      obtain ⟨w, hw⟩ : ∃ w, ys[i]? = some w := ⟨_, List.getElem?_eq_getElem hlt2⟩
      by_cases hzw : z = w
      · subst hzw
        simp (maxSteps := 4000000) -implicitDefEqProofs -dsimp (disch := omega) only [↓AW_skip, ↓AW_ops, ↓AW_seq, ↓AW_cond, ↓AW_block, ↓AOps_nil, ↓AOps_pu, ↓AOps_ld, on_some, condB_t, condB_f, ↓then_normal, ↓inBlock_normal, pval, lval, rd_S, rd_C, put_S, partA, eq_self, mk, List.foldl_cons, List.foldl_nil, List.replicate_succ, List.replicate_zero, List.set_cons_zero, List.set_cons_succ, List.getElem?_cons_zero, List.getElem?_cons_succ, List.drop_zero, List.take_succ_cons, List.take_nil, Option.getD_some, List.length_cons, List.length_nil, Nat.reduceAdd, Nat.reduceLeDiff, Nat.zero_add, bin_add, bin_neq, bin_lss, w64, if_true, if_false, Bool.false_eq_true, decide_true, decide_false, Go.Eng.e1, true_and, not_true_eq_false, hlt', hx.len, hx.idx hlt, hx.ld0 hz 1 false (by decide), hy.idx hlt2, hy.ld0 hw 1 false (by decide)]
        exact ⟨i + 1, ⟨hlt, (take_succ_eq hz hw).2 ⟨he, rfl⟩⟩, by simp [Has, rd_s], by omega⟩
      · simp (maxSteps := 4000000) -implicitDefEqProofs -dsimp (disch := omega) only [↓AW_skip, ↓AW_ops, ↓AW_seq, ↓AW_cond, ↓AW_block, ↓AW_ret, ↓AOps_nil, ↓AOps_pu, ↓AOps_ld, on_some, condB_t, ↓then_normal, ↓then_ret, ↓inBlock_ret, ↓Fin_ret, pval, lval, rd_S, rd_C, put_S, resV, resL, partA, eq_self, mk, List.foldl_cons, List.foldl_nil, List.replicate_succ, List.replicate_zero, List.set_cons_zero, List.set_cons_succ, List.getElem?_cons_zero, List.getElem?_cons_succ, List.drop_zero, List.take_succ_cons, List.take_nil, Option.getD_some, List.length_cons, List.length_nil, Nat.reduceLeDiff, Nat.zero_add, bin_neq, bin_lss, if_true, if_false, Bool.false_eq_true, decide_true, Go.Eng.e1, not_false_eq_true, hlt', hx.len, hx.idx hlt, hx.ld0 hz 1 false (by decide), hy.idx hlt2, hy.ld0 hw 1 false (by decide), hzw]
        refine gc_same ?_
        have : ¬ xs = ys := by rintro rfl; rw [hz] at hw; exact hzw (Option.some.inj hw)
        simp [this]
    · have hlt' : ¬ ((i : Int) < xs.length) := by omega
      simp (maxSteps := 4000000) -implicitDefEqProofs -dsimp (disch := omega) only [↓AW_ops, ↓AW_seq, ↓AW_cond, ↓AW_exit, ↓AW_ret, ↓AOps_nil, ↓AOps_pu, on_some, condB_f, ↓then_normal, ↓then_exit, ↓inBlock_exit, ↓Fin_ret, pval, rd_S, rd_C, put_S, resV, resL, eq_self, mk, List.foldl_cons, List.foldl_nil, List.replicate_succ, List.replicate_zero, List.set_cons_zero, List.set_cons_succ, List.getElem?_cons_zero, List.getElem?_cons_succ, Option.getD_some, bin_lss, if_true, decide_false, hlt', hx.len]
      rw [List.take_of_length_le (by omega), List.take_of_length_le (by omega)] at he
      exact gc_same (by simp [he])
  · have hle' : ¬ (xs.length : Int) = ys.length := by omega
    dsimp only [m103]
    simp (maxSteps := 4000000) -implicitDefEqProofs -dsimp (disch := omega) only [↓AW_ops, ↓AW_seq, ↓AW_cond, ↓AW_ret, ↓AOps_nil, ↓AOps_pu, on_some, condB_t, ↓then_normal, ↓then_ret, ↓Fin_ret, pval, rd_S, rd_C, put_S, resV, resL, List.replicate_succ, List.replicate_zero, List.set_cons_zero, List.set_cons_succ, List.getElem?_cons_zero, List.getElem?_cons_succ, Option.getD_some, Nat.reduceSub, List.cons_append, List.nil_append, bin_neq, decide_true, not_false_eq_true, hx.len, hy.len, hle']
    have : ¬ xs = ys := by rintro rfl; exact hle rfl
    exact gc_same (by simp [this])
theorem c_Clone {xs : List Int} {v : AV} {A : AHeap} (hx : L1 A v xs) (hn : v ≠ .nilS) (hl : xs.length ≤ 1000000) :
    ∃ r H', ACalls Try.prog 116 [v] A r H' ∧ ∃ n full, A <+: H' ∧ A.length ≤ n ∧ r = .sl 1 n 0 xs.length full ∧ H'[n]? = some (.cells true (xs.flatMap e1 ++ [])) := by
  refine acallsR hmix Try.func116 (by kernel_rfl) t116 _ 1 rfl (by decide) ?_
  obtain ⟨v', n, full, H2, happ, hp, hle, rfl, hg⟩ := L1_app_new hx (by simp [lim]; omega)
  rcases hx.inv with ⟨rfl, _⟩ | ⟨n', off, full', rw, l, rfl, _⟩
  · exact absurd rfl hn
  · dsimp only [m116]
    simp (maxSteps := 4000000) -implicitDefEqProofs -dsimp (disch := omega) only [↓AW_skip, ↓AW_ops, ↓AW_seq, ↓AW_cond, ↓AW_ret, ↓AOps_nil, ↓AOps_pu, ↓AOps_ha, on_some, extK_false, extK_app, condB_f, ↓then_normal, ↓FinR_ret, pval, hval_blds, hval_app, rd_S, rd_C, put_S, resV, resL, fillA, repl, List.replicate_succ, List.replicate_zero, List.set_cons_zero, List.set_cons_succ, List.getElem?_cons_zero, List.getElem?_cons_succ, Option.getD_some, map_n, Nat.reduceSub, List.cons_append, List.nil_append, List.append_nil, List.replicate_zero, repl, happ]
    exact ⟨_, _, gc_all, n, full, hp, hle, rfl, by simpa using hg⟩
/-- A field that the call has made. -/
def NF (A H : AHeap) (r : AV) (L : List Int) (V : List (List Int)) : Prop := ∃ A1 x y ws, A <+: A1 ∧ A1 <+: H ∧ L1 A1 x L ∧ NL A1 H y ws ∧ lists ws = V ∧ r = .agg [x, y]
theorem row_l1 {A H : AHeap} {xs : List Int} {n : Nat} {full : Bool} (h : H[n]? = some (.cells true (xs.flatMap e1 ++ []))) : L1 H (.sl 1 n 0 xs.length full) xs := by
  refine ⟨e1_len, ?_⟩
  have hl := flatMap_length e1_len xs
  simp only [slCells, cellsAt, h, if_true, Nat.zero_add]
  rw [if_pos (by rw [List.length_append]; omega)]
  simp only [List.drop_zero, Option.map_some, Option.some.injEq, Prod.mk.injEq, true_and]
  rw [← hl, List.take_left]
theorem s40 {x y : AV} {L : List Int} {ws : List (AV × List Int)} {A : AHeap} (hL : L1 A x L) (hV : LL A y ws) (hl : L.length ≤ 1000000) (hs : ws.length ≤ 1000000) (hw : ∀ w ∈ ws, w.2.length ≤ 1000000) :
    ∃ r H', ACalls Try.prog 40 [.agg [x, y]] A r H' ∧ NF A H' r L (lists ws) := by
  refine acallsR hmix Try.func40 (by kernel_rfl) t40 _ 1 rfl (by decide) ?_
  obtain ⟨v1, n1, full1, H1, happ1, hp1, hle1, rfl, hg1⟩ := L1_app_new hL (by simp [lim]; omega)
  have hx1 := row_l1 (A := A) (full := full1) hg1
  have hV1 := hV.mono hp1
  dsimp only [m40]
  simp (maxSteps := 4000000) -implicitDefEqProofs -dsimp (disch := omega) only [↓AW_ops, ↓AW_seq, ↓AW_block, ↓AOps_nil, ↓AOps_pu, ↓AOps_ha, on_some, extK_false, extK_app, ↓then_normal, pval, hval_blds, hval_app, rd_S, rd_C, put_S, ↓AW_toLoop, chkd, isAdr, bput, bgot, cells_agg, cells_sl, splice, partA, fillA, repl, eq_self, List.replicate_succ, List.replicate_zero, List.set_cons_zero, List.set_cons_succ, List.getElem?_cons_zero, List.getElem?_cons_succ, List.drop_zero, List.drop_succ_cons, List.drop_nil, List.take_zero, List.take_succ_cons, Option.getD_some, Option.map_some, map_c, map_n, List.length_cons, List.length_nil, Nat.reduceAdd, Nat.reduceSub, Nat.reduceLeDiff, Nat.zero_add, List.cons_append, List.nil_append, List.append_nil, if_true, if_false, Bool.false_eq_true, and_true, ne_eq, not_true_eq_false, List.replicate_zero, repl, happ1]
  refine LoopK.by 30 (fun x : Nat × AV × AHeap × List (AV × List Int) => (x.1 ≤ ws.length ∧ x.2.2.2.length = x.1) ∧ NL H1 x.2.2.1 x.2.1 x.2.2.2 ∧ lists x.2.2.2 = (lists ws).take x.1)
    (fun z => [(1, .agg [x, y]), (2, .agg [.nilS, .nilS]), (3, .agg [.sl 1 n1 0 L.length full1, z.2.1]), (4, I z.1)]) (fun x => x.2.2.1) (fun x => ws.length - x.1) (0, .nilS, H1, []) ⟨⟨by simp only; omega, rfl⟩, NL.nil (List.prefix_refl _), by simp⟩ rfl (by simp [Has, rd_s]) rfl ?_
  rintro ⟨i, u, H2, ws1⟩ ⟨⟨hi, hwl⟩, hnl, hli⟩
  simp only at hi hwl hnl hli
  have hw1 := hV1.mono hnl.acc.1
  have hll : (lists ws).length = ws.length := by simp
  by_cases hlt : i < ws.length
  · obtain ⟨z, hz⟩ : ∃ z, ws[i]? = some z := ⟨_, List.getElem?_eq_getElem hlt⟩
    have hlt' : (i : Int) < ws.length := by omega
    have hm := List.mem_of_getElem? hz
    have hx := hw1.inn z hm
    have hx2 := hw z hm
    have hA0 := hV1.pos (by omega)
    have hwm := hw1.mono (pre_app H2 [AObj.cells true []])
    obtain ⟨v2, n, full, H3, happ2, hp2, hn, rfl, hg2⟩ := L1_app_new hx (by simp [lim]; omega)
    obtain ⟨v3, H4, happ, h3⟩ := (hnl.mono hp2).push (.sl 1 n 0 z.2.length full, z.2) (.inr ⟨n, full, [], rfl, Nat.le_trans hnl.acc.1.length_le hn, hg2, nm_ne_nil hnl hn hA0, fun y hy => (hnl.lt.1 y hy).imp id (fun h => by omega)⟩) (by simp [lim]; omega)
    simp only at happ
    have hv3c : v3.cells? = some [v3] := Ls_cells (AccL_ls h3.acc e0_len)
    simp (maxSteps := 4000000) -implicitDefEqProofs -dsimp (disch := omega) only [↓AW_skip, ↓AW_ops, ↓AW_seq, ↓AW_cond, ↓AW_block, ↓AOps_nil, ↓AOps_pu, ↓AOps_ld, ↓AOps_ha, on_some, extK_false, extK_app, condB_t, ↓then_normal, ↓inBlock_normal, pval, lval, hval_blds, hval_app, rd_S, rd_C, put_S, chkd, isAdr, bput, bgot, cells_agg, cells_sl, splice, partA, fillA, repl, eq_self, mk, List.foldl_cons, List.foldl_nil, List.replicate_succ, List.replicate_zero, List.set_cons_zero, List.set_cons_succ, List.getElem?_cons_zero, List.getElem?_cons_succ, List.drop_zero, List.drop_succ_cons, List.drop_nil, List.take_zero, List.take_succ_cons, List.take_nil, Option.getD_some, map_c, map_n, List.length_cons, List.length_nil, Nat.reduceAdd, Nat.reduceLeDiff, Nat.zero_add, List.cons_append, List.nil_append, List.append_nil, bin_add, bin_lss, w64, if_true, if_false, Bool.false_eq_true, decide_true, true_and, and_true, ne_eq, not_true_eq_false, hlt', hw1.ls.len, hwm.ls.idx hlt, hwm.ls.ld0 hz 1 false (by decide), e0, happ2, happ, hv3c, List.replicate_zero, repl]
    refine ⟨(i + 1, v3, H4, ws1 ++ [(.sl 1 n 0 z.2.length full, z.2)]), ⟨⟨hlt, by simp [hwl]⟩, h3, ?_⟩, by simp [Has, rd_s], rfl, by simp only; omega⟩
    simp only [lists, List.map_append, List.map_cons, List.map_nil]
    rw [List.take_add_one, show List.map Prod.snd ws1 = (lists ws).take i from hli, ws_get hz]
    rfl
  · have hlt' : ¬ ((i : Int) < ws.length) := by omega
    rw [List.take_of_length_le (by omega)] at hli
    simp (maxSteps := 4000000) -implicitDefEqProofs -dsimp (disch := omega) only [↓AW_ops, ↓AW_seq, ↓AW_cond, ↓AW_exit, ↓AW_ret, ↓AOps_nil, ↓AOps_pu, on_some, condB_f, ↓then_normal, ↓then_exit, ↓inBlock_exit, ↓FinR_ret, pval, rd_S, put_S, resV, resL, chkd, isAdr, bput, bgot, cells_agg, splice, partA, eq_self, mk, List.foldl_cons, List.foldl_nil, List.replicate_succ, List.replicate_zero, List.set_cons_zero, List.set_cons_succ, List.getElem?_cons_zero, List.getElem?_cons_succ, List.drop_zero, List.drop_succ_cons, List.drop_nil, List.take_zero, List.take_succ_cons, List.take_nil, Option.getD_some, List.length_cons, List.length_nil, Nat.reduceAdd, Nat.reduceLeDiff, Nat.reduceEqDiff, Nat.zero_add, List.nil_append, List.append_nil, bin_lss, if_true, if_false, Bool.false_eq_true, decide_false, ne_eq, not_true_eq_false, hlt', hw1.ls.len]
    exact ⟨_, _, gc_all, H1, _, u, ws1, hp1, hnl.acc.1, hx1, hnl, hli, rfl⟩
theorem s92 {x y : AV} {L : List Int} {ws : List (AV × List Int)} {A : AHeap} (hL : L1 A x L) (hV : LL A y ws) (hl : L.length ≤ 1000000) (hs : ws.length ≤ 1000000) (hw : ∀ w ∈ ws, w.2.length ≤ 1000000) (h0 : 1 ≤ L.length) (hw0 : ∀ w ∈ ws, 1 ≤ w.2.length) :
    ∃ r H', ACalls Try.prog 92 [.agg [x, y]] A r H' ∧ NF A H' r L (lists ws) := by
  refine acallsR hmix Try.func92 (by kernel_rfl) t92 _ 1 rfl (by decide) ?_
  obtain ⟨r1, H1, hc1, n1, full1, hp1, hle1, rfl, hg1⟩ := c_Clone hL (Ls_nn hL h0) hl
  have hx1 := row_l1 (A := A) (full := full1) hg1
  have hV1 := hV.mono hp1
  dsimp only [m92]
  simp (maxSteps := 4000000) -implicitDefEqProofs -dsimp (disch := omega) only [↓AW_ops, ↓AW_seq, ↓AOps_nil, ↓AOps_pu, ↓AOps_call, on_some, ↓then_normal, pval, rd_S, rd_C, put_S, chkd, isAdr, bgot, cells_agg, partA, eq_self, List.replicate_succ, List.replicate_zero, List.set_cons_zero, List.set_cons_succ, List.getElem?_cons_zero, List.getElem?_cons_succ, List.drop_zero, List.take_zero, List.take_succ_cons, Option.getD_some, map_c, map_n, List.length_cons, List.length_nil, Nat.reduceAdd, Nat.reduceSub, Nat.reduceLeDiff, Nat.zero_add, List.cons_append, List.nil_append, if_true, if_false, Bool.false_eq_true]
  refine CallK.of hc1 ?_
  simp (maxSteps := 4000000) -implicitDefEqProofs -dsimp (disch := omega) only [↓AW_ops, ↓AW_seq, ↓AW_block, ↓AOps_nil, ↓AOps_pu, on_some, extK_false, ↓then_normal, pval, rd_S, rd_C, put_S, ↓AW_toLoop, chkd, isAdr, bput, bgot, cells_agg, cells_sl, splice, partA, fillA, eq_self, List.replicate_succ, List.replicate_zero, List.set_cons_zero, List.set_cons_succ, List.getElem?_cons_zero, List.getElem?_cons_succ, List.drop_zero, List.drop_succ_cons, List.drop_nil, List.take_zero, List.take_succ_cons, List.take_nil, Option.getD_some, Option.map_some, map_c, map_n, List.length_cons, List.length_nil, Nat.reduceAdd, Nat.reduceSub, Nat.reduceLeDiff, Nat.zero_add, List.cons_append, List.nil_append, List.append_nil, if_true, if_false, Bool.false_eq_true, and_true, ne_eq, not_true_eq_false, hV1.ls.len]
  refine LoopK.by 26 (fun x : Nat × AV × AHeap × List (AV × List Int) => (x.1 ≤ ws.length ∧ x.2.2.2.length = x.1) ∧ NL H1 x.2.2.1 x.2.1 x.2.2.2 ∧ lists x.2.2.2 = (lists ws).take x.1)
    (fun z => [(2, .agg [.nilS, .nilS]), (3, .agg [.sl 1 n1 0 L.length full1, z.2.1]), (11, y), (12, I ws.length), (13, I z.1)]) (fun x => x.2.2.1) (fun x => ws.length - x.1) (0, .nilS, H1, []) ⟨⟨by simp only; omega, rfl⟩, NL.nil (List.prefix_refl _), by simp⟩ rfl (by simp [Has, rd_s]) rfl ?_
  rintro ⟨i, u, H2, ws1⟩ ⟨⟨hi, hwl⟩, hnl, hli⟩
  simp only at hi hwl hnl hli
  have hw1 := hV1.mono hnl.acc.1
  have hll : (lists ws).length = ws.length := by simp
  by_cases hlt : i < ws.length
  · obtain ⟨z, hz⟩ : ∃ z, ws[i]? = some z := ⟨_, List.getElem?_eq_getElem hlt⟩
    have hlt' : (i : Int) < ws.length := by omega
    have hm := List.mem_of_getElem? hz
    have hx := hw1.inn z hm
    have hx2 := hw z hm
    have hA0 := hV1.pos (by omega)
    obtain ⟨r2, H3, hc2, n, full, hp2, hn, rfl, hg2⟩ := c_Clone hx (Ls_nn hx (hw0 z hm)) hx2
    obtain ⟨v3, H4, happ, h3⟩ := (hnl.mono hp2).push (.sl 1 n 0 z.2.length full, z.2) (.inr ⟨n, full, [], rfl, Nat.le_trans hnl.acc.1.length_le hn, hg2, nm_ne_nil hnl hn hA0, fun y hy => (hnl.lt.1 y hy).imp id (fun h => by omega)⟩) (by simp [lim]; omega)
    simp only at happ
    have hv3c : v3.cells? = some [v3] := Ls_cells (AccL_ls h3.acc e0_len)
    simp (maxSteps := 4000000) -implicitDefEqProofs -dsimp (disch := omega) only [↓AW_skip, ↓AW_ops, ↓AW_seq, ↓AW_cond, ↓AW_block, ↓AOps_nil, ↓AOps_pu, ↓AOps_ld, ↓AOps_call, on_some, condB_t, ↓then_normal, pval, lval, rd_S, put_S, chkd, isAdr, bgot, cells_agg, partA, eq_self, mk, List.foldl_cons, List.foldl_nil, List.replicate_succ, List.replicate_zero, List.set_cons_zero, List.set_cons_succ, List.getElem?_cons_zero, List.getElem?_cons_succ, List.drop_zero, List.drop_succ_cons, List.take_succ_cons, List.take_nil, Option.getD_some, map_c, map_n, List.length_cons, List.length_nil, Nat.reduceAdd, Nat.reduceLeDiff, Nat.zero_add, bin_lss, if_true, if_false, Bool.false_eq_true, decide_true, hlt', hw1.ls.idx hlt, hw1.ls.ld0 hz 1 false (by decide), e0]
    refine CallK.of hc2 ?_
    simp (maxSteps := 4000000) -implicitDefEqProofs -dsimp (disch := omega) only [↓AW_ops, ↓AOps_nil, ↓AOps_pu, ↓AOps_ha, on_some, extK_false, extK_app, ↓then_normal, ↓inBlock_normal, pval, hval_blds, hval_app, rd_S, rd_C, put_S, chkd, isAdr, bput, cells_agg, cells_sl, splice, fillA, repl, eq_self, mk, List.foldl_cons, List.foldl_nil, List.replicate_succ, List.replicate_zero, List.set_cons_zero, List.set_cons_succ, List.getElem?_cons_zero, List.getElem?_cons_succ, List.drop_succ_cons, List.drop_nil, List.take_zero, List.take_succ_cons, Option.getD_some, map_c, map_n, List.length_cons, List.length_nil, Nat.reduceAdd, Nat.reduceLeDiff, Nat.zero_add, List.cons_append, List.nil_append, List.append_nil, bin_add, w64, if_true, if_false, true_and, and_true, ne_eq, not_true_eq_false, happ, hv3c]
    refine ⟨(i + 1, v3, H4, ws1 ++ [(.sl 1 n 0 z.2.length full, z.2)]), ⟨⟨hlt, by simp [hwl]⟩, h3, ?_⟩, by simp [Has, rd_s], rfl, by simp only; omega⟩
    simp only [lists, List.map_append, List.map_cons, List.map_nil]
    rw [List.take_add_one, show List.map Prod.snd ws1 = (lists ws).take i from hli, ws_get hz]
    rfl
  · have hlt' : ¬ ((i : Int) < ws.length) := by omega
    rw [List.take_of_length_le (by omega)] at hli
    simp (maxSteps := 4000000) -implicitDefEqProofs -dsimp (disch := omega) only [↓AW_ops, ↓AW_seq, ↓AW_cond, ↓AW_exit, ↓AW_ret, ↓AOps_nil, ↓AOps_pu, on_some, condB_f, ↓then_normal, ↓then_exit, ↓inBlock_exit, ↓FinR_ret, pval, rd_S, put_S, resV, resL, chkd, bput, bgot, cells_agg, splice, partA, eq_self, mk, List.foldl_cons, List.foldl_nil, List.replicate_succ, List.replicate_zero, List.set_cons_zero, List.set_cons_succ, List.getElem?_cons_zero, List.getElem?_cons_succ, List.drop_zero, List.drop_succ_cons, List.drop_nil, List.take_zero, List.take_succ_cons, List.take_nil, Option.getD_some, List.length_cons, List.length_nil, Nat.reduceAdd, Nat.reduceLeDiff, Nat.reduceEqDiff, Nat.zero_add, List.nil_append, List.append_nil, bin_lss, if_true, if_false, decide_false, ne_eq, not_true_eq_false, hlt']
    exact ⟨_, _, gc_all, H1, _, u, ws1, hp1, hnl.acc.1, hx1, hnl, hli, rfl⟩
theorem s45 {x y x2 y2 : AV} {L L2 : List Int} {ws vs : List (AV × List Int)} {A : AHeap} (hL : L1 A x L) (hw : LL A y ws) (hL2 : L1 A x2 L2) (hv : LL A y2 vs) (hl : L.length ≤ 1000000) (hs1 : ws.length ≤ 1000000) (hs : ∀ w ∈ ws, w.2.length ≤ 1000000) :
    ACalls Try.prog 45 [.agg [x, y], .agg [x2, y2]] A (B (decide (L = L2 ∧ lists ws = lists vs))) A := by
  refine acalls hmix Try.func45 (by kernel_rfl) t45 2 rfl (by decide) ?_
  have hwl : (lists ws).length = ws.length := by simp
  have hvl : (lists vs).length = vs.length := by simp
  dsimp only [m45]
  simp (maxSteps := 4000000) -implicitDefEqProofs -dsimp (disch := omega) only [↓AW_ops, ↓AW_seq, ↓AOps_nil, ↓AOps_pu, ↓AOps_call, on_some, ↓then_normal, pval, rd_S, rd_C, put_S, chkd, isAdr, bgot, AV.cells?, partA, eq_self, List.replicate_succ, List.replicate_zero, List.set_cons_zero, List.set_cons_succ, List.getElem?_cons_zero, List.getElem?_cons_succ, List.drop_zero, List.take_zero, List.take_succ_cons, Option.getD_some, map_c, map_n, List.length_cons, List.length_nil, Nat.reduceAdd, Nat.reduceSub, Nat.reduceLeDiff, Nat.zero_add, List.cons_append, List.nil_append, if_true, if_false, Bool.false_eq_true]
  refine CallK.of (c_SameInts hL hL2 (by omega)) ?_
  by_cases hLL : L = L2
  · by_cases hle : ws.length = vs.length
    · have hle' : (ws.length : Int) = vs.length := by omega
      simp (maxSteps := 4000000) -implicitDefEqProofs -dsimp (disch := omega) only [↓AW_skip, ↓AW_ops, ↓AW_seq, ↓AW_cond, ↓AW_block, ↓AOps_nil, ↓AOps_pu, ↓AOps_guard, on_some, extK_same, guardB_ff, condB_f, ↓then_normal, pval, rd_S, rd_C, put_S, ↓AW_toLoop, chkd, isAdr, bgot, AV.cells?, partA, eq_self, List.replicate_succ, List.replicate_zero, List.set_cons_zero, List.set_cons_succ, List.getElem?_cons_zero, List.getElem?_cons_succ, List.drop_zero, List.drop_succ_cons, List.take_succ_cons, List.take_nil, Option.getD_some, List.length_cons, List.length_nil, Nat.reduceAdd, Nat.reduceSub, Nat.reduceLeDiff, Nat.zero_add, List.cons_append, List.nil_append, bin_neq, if_true, if_false, Bool.false_eq_true, Bool.not_true, decide_true, decide_false, not_true_eq_false, hLL, hw.ls.len, hv.ls.len, hle']
      refine LoopK.by 40 (fun i : Nat => i ≤ ws.length ∧ (lists ws).take i = (lists vs).take i) (fun i => [(2, .agg [x, y]), (3, .agg [x2, y2]), (5, I i)]) (fun _ => A) (fun i => ws.length - i) 0 ⟨by omega, rfl⟩ rfl (by simp [Has, rd_s]) rfl ?_
      rintro i ⟨hi, he⟩
      by_cases hlt : i < ws.length
      · obtain ⟨x, hz⟩ : ∃ z, ws[i]? = some z := ⟨_, List.getElem?_eq_getElem hlt⟩
        have hlt' : (i : Int) < ws.length := by omega
        have hlt2 : i < vs.length := by omega
        obtain ⟨y, hy⟩ : ∃ y, vs[i]? = some y := ⟨_, List.getElem?_eq_getElem hlt2⟩
        have hx1 := hw.inn x (List.mem_of_getElem? hz)
        have hx2 := hs x (List.mem_of_getElem? hz)
        have hy1 := hv.inn y (List.mem_of_getElem? hy)
        simp (maxSteps := 4000000) -implicitDefEqProofs -dsimp (disch := omega) only [↓AW_skip, ↓AW_ops, ↓AW_seq, ↓AW_cond, ↓AW_block, ↓AOps_nil, ↓AOps_pu, ↓AOps_ld, ↓AOps_call, on_some, condB_t, ↓then_normal, pval, lval, rd_S, put_S, chkd, isAdr, bgot, AV.cells?, partA, eq_self, mk, List.foldl_cons, List.foldl_nil, List.replicate_succ, List.replicate_zero, List.set_cons_zero, List.set_cons_succ, List.getElem?_cons_zero, List.getElem?_cons_succ, List.drop_zero, List.drop_succ_cons, List.take_succ_cons, List.take_nil, Option.getD_some, map_c, map_n, List.length_cons, List.length_nil, Nat.reduceAdd, Nat.reduceLeDiff, Nat.zero_add, bin_lss, if_true, if_false, Bool.false_eq_true, decide_true, hlt', hw.ls.len, hw.ls.idx hlt, hw.ls.ld0 hz 1 false (by decide), hv.ls.idx hlt2, hv.ls.ld0 hy 1 false (by decide), e0]
        refine CallK.of (c_SameInts hx1 hy1 (by omega)) ?_
        by_cases hxy : x.2 = y.2
        · simp (maxSteps := 4000000) -implicitDefEqProofs -dsimp (disch := omega) only [↓AW_skip, ↓AW_ops, ↓AW_cond, ↓AOps_nil, ↓AOps_pu, on_some, extK_same, condB_f, ↓then_normal, ↓inBlock_normal, pval, rd_S, rd_C, put_S, eq_self, mk, List.foldl_cons, List.foldl_nil, List.replicate_succ, List.replicate_zero, List.set_cons_zero, List.set_cons_succ, List.getElem?_cons_zero, List.getElem?_cons_succ, Option.getD_some, List.length_cons, List.length_nil, Nat.reduceAdd, Nat.zero_add, bin_add, w64, Bool.not_true, decide_true, true_and, hxy]
          exact ⟨i + 1, ⟨hlt, (take_succ_eq (ws_get hz) (ws_get hy)).2 ⟨he, hxy⟩⟩, by simp [Has, rd_s], by omega⟩
        · simp (maxSteps := 4000000) -implicitDefEqProofs -dsimp (disch := omega) only [↓AW_ops, ↓AW_seq, ↓AW_cond, ↓AW_ret, ↓AOps_nil, ↓AOps_pu, on_some, extK_same, condB_t, ↓then_normal, ↓then_ret, ↓inBlock_ret, ↓Fin_ret, pval, rd_S, rd_C, put_S, resV, resL, mk, List.foldl_cons, List.foldl_nil, List.replicate_succ, List.replicate_zero, List.set_cons_zero, List.set_cons_succ, List.getElem?_cons_zero, List.getElem?_cons_succ, Option.getD_some, Bool.not_false, decide_false, hxy]
          refine gc_same ?_
          have : ¬ lists ws = lists vs := by
            intro h
            have h1 := ws_get hz
            rw [h, ws_get hy] at h1
            exact hxy (Option.some.inj h1).symm
          simp only [this, and_false, decide_false]
      · have hlt' : ¬ ((i : Int) < ws.length) := by omega
        simp (maxSteps := 4000000) -implicitDefEqProofs -dsimp (disch := omega) only [↓AW_ops, ↓AW_seq, ↓AW_cond, ↓AW_exit, ↓AW_ret, ↓AOps_nil, ↓AOps_pu, on_some, condB_f, ↓then_normal, ↓then_exit, ↓inBlock_exit, ↓Fin_ret, pval, rd_S, rd_C, put_S, resV, resL, chkd, isAdr, bgot, AV.cells?, partA, eq_self, mk, List.foldl_cons, List.foldl_nil, List.replicate_succ, List.replicate_zero, List.set_cons_zero, List.set_cons_succ, List.getElem?_cons_zero, List.getElem?_cons_succ, List.drop_zero, List.drop_succ_cons, List.take_succ_cons, List.take_nil, Option.getD_some, List.length_cons, List.length_nil, Nat.reduceAdd, Nat.reduceLeDiff, Nat.zero_add, bin_lss, if_true, if_false, Bool.false_eq_true, decide_false, hlt', hw.ls.len]
        rw [List.take_of_length_le (by omega), List.take_of_length_le (by omega)] at he
        exact gc_same (by simp only [he, hLL, and_self, decide_true])
    · have hle' : ¬ (ws.length : Int) = vs.length := by omega
      simp (maxSteps := 4000000) -implicitDefEqProofs -dsimp (disch := omega) only [↓AW_ops, ↓AW_seq, ↓AW_cond, ↓AW_ret, ↓AOps_nil, ↓AOps_pu, ↓AOps_guard, on_some, extK_same, guardB_ff, condB_t, ↓then_normal, ↓then_ret, ↓Fin_ret, pval, rd_S, rd_C, put_S, resV, resL, chkd, isAdr, bgot, AV.cells?, partA, eq_self, List.replicate_succ, List.replicate_zero, List.set_cons_zero, List.set_cons_succ, List.getElem?_cons_zero, List.getElem?_cons_succ, List.drop_zero, List.drop_succ_cons, List.take_succ_cons, List.take_nil, Option.getD_some, List.length_cons, List.length_nil, Nat.reduceAdd, Nat.reduceSub, Nat.reduceLeDiff, Nat.zero_add, List.cons_append, List.nil_append, bin_neq, if_true, if_false, Bool.false_eq_true, Bool.not_true, decide_true, true_and, not_false_eq_true, hLL, hw.ls.len, hv.ls.len, hle']
      have : ¬ lists ws = lists vs := by
        intro h
        have := congrArg List.length h
        omega
      exact gc_same (by simp only [this, decide_false])
  · simp (maxSteps := 4000000) -implicitDefEqProofs -dsimp (disch := omega) only [↓AW_ops, ↓AW_seq, ↓AW_cond, ↓AW_ret, ↓AOps_nil, ↓AOps_pu, ↓AOps_guard, on_some, extK_same, guardB_tf, skipS_some, condB_t, ↓then_normal, ↓then_ret, ↓Fin_ret, pval, rd_S, rd_C, put_S, resV, resL, eq_self, List.replicate_succ, List.replicate_zero, List.set_cons_zero, List.set_cons_succ, List.getElem?_cons_zero, List.getElem?_cons_succ, Option.getD_some, Nat.reduceSub, List.cons_append, List.nil_append, if_true, Bool.not_false, decide_false, hLL]
    exact gc_same (by simp only [false_and, decide_false])
end Go.Proofs.Ytmblehbjedpjoaa

namespace Go.Proofs.Ytmblehbjedpjoaa
open Go Go.Eng
def fm (k v : Int) : Int := v * k
def gE (L : List Int) (V : List (List Int)) (o k : Int) : Int :=
  if oE L V o = 0 then (if (1 ≤ k ∧ k ≤ 20) ∧ mxL (rowOf V o) * k ≤ 20 then 0 else 1) else oE L V o
def gL (L : List Int) (V : List (List Int)) (o k : Int) : List Int := if gE L V o k = 0 then L else []
def gV (L : List Int) (V : List (List Int)) (o k : Int) : List (List Int) := if gE L V o k = 0 then mulV V o.toNat k else []
theorem gL_0 {L : List Int} {V : List (List Int)} {o k : Int} (h : gE L V o k = 0) : gL L V o k = L := if_pos h
theorem gV_0 {L : List Int} {V : List (List Int)} {o k : Int} (h : gE L V o k = 0) : gV L V o k = mulV V o.toNat k := if_pos h
theorem NF.nil {A H : AHeap} (h : A <+: H) : NF A H (.agg [.nilS, .nilS]) [] [] := ⟨A, .nilS, .nilS, [], List.prefix_refl _, h, L1_nil _, NL.nil h, rfl, rfl⟩
theorem NF.err {A H : AHeap} (h : A <+: H) {L : List Int} {V : List (List Int)} {o k : Int} (h0 : ¬ gE L V o k = 0) : NF A H (.agg [.nilS, .nilS]) (gL L V o k) (gV L V o k) := by
  unfold gL gV
  rw [if_neg h0, if_neg h0]
  exact NF.nil h
theorem kE_mul {L : List Int} {V : List (List Int)} (h : KG L V) {o k : Int} (h0 : 0 ≤ o) (h1 : o ≤ (V.length : Int) - 1) (hk : 1 ≤ k ∧ k ≤ 20) : kE L (mulV V o.toNat k) = if mxL (rowOf V o) * k ≤ 20 then 0 else 1 := by
  have hl1 := h.l1
  have hl6 := h.l6
  have hv1 := h.v1
  have hv5 := h.v5
  have ho : o.toNat < V.length := by omega
  have hrow : V[o.toNat]? = some (rowOf V o) := by unfold rowOf; rw [List.getElem?_eq_getElem ho, Option.getD_some]
  have hrm := List.mem_of_getElem? hrow
  have hrl := h.rl _ hrm
  have hmul : mulV V o.toNat k = V.set o.toNat (scr k (rowOf V o)) := rfl
  have hL : L.all vLn = true := List.all_eq_true.2 fun n hn => by simpa [vLn] using h.ls n hn
  have hsh : ((1 : Int) ≤ L.length ∧ (L.length : Int) ≤ 6) ∧ ((1 : Int) ≤ (mulV V o.toNat k).length ∧ ((mulV V o.toNat k).length : Int) ≤ 5) := by rw [mulV_len]; omega
  have hne : rowOf V o ≠ [] := by intro e; rw [e] at hrl; simp only [List.length_nil] at hrl; omega
  by_cases hm : mxL (rowOf V o) * k ≤ 20
  · rw [if_pos hm]
    refine kE_ok hsh hL (List.all_eq_true.2 fun r hr => ?_)
    rw [hmul] at hr
    rcases List.mem_or_eq_of_mem_set hr with hr | rfl
    · exact rOK_iff.2 ⟨h.rl r hr, h.rv r hr, h.rp r hr⟩
    · refine rOK_iff.2 ⟨by simp [scr, hrl], fun y hy => ?_, ?_⟩
      · obtain ⟨z, hz, rfl⟩ := List.mem_map.1 hy
        have h2 := h.rv _ hrm z hz
        have h3 := mxL_ge hz
        have h4 := Int.mul_le_mul_of_nonneg_right h3 (by omega : (0 : Int) ≤ k)
        have h5 := Int.mul_nonneg h2.1 (by omega : (0 : Int) ≤ k)
        omega
      · obtain ⟨y, hy, hy0⟩ := h.rp _ hrm
        refine ⟨y * k, List.mem_map.2 ⟨y, hy, rfl⟩, fun e => ?_⟩
        rcases Int.mul_eq_zero.1 e with e | e <;> omega
  · rw [if_neg hm]
    have hin : scr k (rowOf V o) ∈ mulV V o.toNat k := by
      rw [hmul]
      exact List.mem_of_getElem? (List.getElem?_set_self ho)
    refine kE_row hsh hin (rOK_false (fun hh => ?_))
    have := hh.2.1 (mxL (rowOf V o) * k) (List.mem_map.2 ⟨_, mxL_mem hne, rfl⟩)
    omega
theorem gE_0 {L : List Int} {V : List (List Int)} {o k : Int} (h : gE L V o k = 0) : KG L V ∧ (0 ≤ o ∧ o ≤ (V.length : Int) - 1) ∧ (1 ≤ k ∧ k ≤ 20) ∧ mxL (rowOf V o) * k ≤ 20 := by
  unfold gE at h
  split at h
  · rename_i h1
    obtain ⟨a, b⟩ := oE_0 h1
    split at h
    · rename_i h2; exact ⟨a, b, h2⟩
    · cases h
  · rename_i h1; exact absurd h h1
theorem gE_no {L : List Int} {V : List (List Int)} {o k : Int} (h : ¬ oE L V o = 0) : gE L V o k = oE L V o := by unfold gE; rw [if_neg h]
theorem gE_1 {L : List Int} {V : List (List Int)} {o k : Int} (h : oE L V o = 0) (h2 : ¬ ((1 ≤ k ∧ k ≤ 20) ∧ mxL (rowOf V o) * k ≤ 20)) : gE L V o k = 1 := by unfold gE; rw [if_pos h, if_neg h2]
theorem gE_ok {L : List Int} {V : List (List Int)} {o k : Int} (h : oE L V o = 0) (h2 : (1 ≤ k ∧ k ≤ 20) ∧ mxL (rowOf V o) * k ≤ 20) : gE L V o k = 0 := by unfold gE; rw [if_pos h, if_pos h2]
theorem rowOf_get {V : List (List Int)} {o : Int} (h : 0 ≤ o ∧ o ≤ (V.length : Int) - 1) : V[o.toNat]? = some (rowOf V o) := by
  unfold rowOf; rw [List.getElem?_eq_getElem (by omega), Option.getD_some]
theorem ws_ex {ws : List (AV × List Int)} {i : Nat} {r : List Int} (h : (lists ws)[i]? = some r) : ∃ w, ws[i]? = some w ∧ w.2 = r := by
  rw [List.getElem?_map] at h
  cases hw : ws[i]? with
  | none => rw [hw] at h; cases h
  | some w => rw [hw] at h; exact ⟨w, rfl, Option.some.inj h⟩
theorem lists_set {ws : List (AV × List Int)} {i : Nat} {z : AV} {r : List Int} : lists (ws.set i (z, r)) = (lists ws).set i r := List.map_set
section
variable {L : List Int} {ws : List (AV × List Int)} {x y : AV} {A : AHeap}
set_option maxRecDepth 20000 in
set_option maxHeartbeats 2000000 in
theorem s48 (hL : L1 A x L) (hV : LL A y ws) (hs : Sz L ws) (o k : Int) :
    ∃ v H', ACalls Try.prog 48 [.agg [x, y], I o, I k] A v H' ∧ ∃ r, v = .tuple [r, I (gE L (lists ws) o k)] ∧ NF A H' r (gL L (lists ws) o k) (gV L (lists ws) o k) := by
  refine acallsR hmix Try.func48 (by kernel_rfl) t48 _ 3 rfl (by decide) ?_
  have hll : ((lists ws).length : Int) = ws.length := by simp
  dsimp only [m48]
  simp (maxSteps := 4000000) -implicitDefEqProofs -dsimp (disch := omega) only [↓AW_ops, ↓AW_seq, ↓AOps_nil, ↓AOps_pu, ↓AOps_call, on_some, ↓then_normal, pval, rd_S, rd_C, put_S, chkd, bgot, cells_agg, partA, eq_self, List.replicate_succ, List.replicate_zero, List.set_cons_zero, List.set_cons_succ, List.getElem?_cons_zero, List.getElem?_cons_succ, List.drop_zero, List.take_succ_cons, List.take_nil, Option.getD_some, map_c, map_n, List.length_cons, List.length_nil, Nat.reduceAdd, Nat.reduceSub, Nat.reduceLeDiff, Nat.reduceEqDiff, Nat.zero_add, List.cons_append, List.nil_append, if_true, if_false]
  refine CallK.of (s56 hL hV hs o) ?_
  by_cases h0 : oE L (lists ws) o = 0
  case neg =>
    simp (maxSteps := 4000000) -implicitDefEqProofs -dsimp (disch := omega) only [↓AW_ops, ↓AW_seq, ↓AW_cond, ↓AW_ret, ↓AOps_nil, ↓AOps_pu, on_some, extK_same, condB_t, ↓then_normal, ↓then_ret, ↓FinR_ret, pval, rd_S, rd_C, put_S, resV, resL, chkd, bput, bgot, cells_agg, splice, partA, fillA, eq_self, List.replicate_succ, List.replicate_zero, List.set_cons_zero, List.set_cons_succ, List.getElem?_cons_zero, List.getElem?_cons_succ, List.drop_zero, List.drop_succ_cons, List.drop_nil, List.take_zero, List.take_succ_cons, List.take_nil, Option.getD_some, Option.map_some, map_n, List.length_cons, List.length_nil, Nat.reduceAdd, Nat.reduceSub, Nat.reduceLeDiff, Nat.reduceEqDiff, Nat.zero_add, List.cons_append, List.nil_append, List.append_nil, bin_neq, if_true, if_false, decide_true, ne_eq, not_true_eq_false, not_false_eq_true, h0]
    exact ⟨_, _, gc_all, _, by rw [gE_no h0], NF.err (List.prefix_refl _) (by rw [gE_no h0]; exact h0)⟩
  obtain ⟨hg, ho⟩ := oE_0 h0
  have hrow := rowOf_get ho
  obtain ⟨w, hw, hwr⟩ := ws_ex hrow
  have hwm := List.mem_of_getElem? hw
  have hrm := List.mem_of_getElem? hrow
  have hrl := hg.rl _ hrm
  have hl1 := hg.l1
  have hl6 := hg.l6
  have hotl : o.toNat < ws.length := (List.getElem?_eq_some_iff.1 hw).1
  have hr0 : mxL (rowOf (lists ws) o) ∈ rowOf (lists ws) o := mxL_mem (by intro e; rw [e] at hrl; simp only [List.length_nil] at hrl; omega)
  have hr1 := hg.rv _ hrm _ hr0
  simp (maxSteps := 4000000) -implicitDefEqProofs -dsimp (disch := omega) only [↓AW_skip, ↓AW_ops, ↓AW_seq, ↓AW_cond, ↓AOps_nil, ↓AOps_pu, ↓AOps_call, on_some, extK_same, condB_f, ↓then_normal, pval, rd_S, rd_C, put_S, eq_self, List.replicate_succ, List.replicate_zero, List.set_cons_zero, List.set_cons_succ, List.getElem?_cons_zero, List.getElem?_cons_succ, Option.getD_some, map_c, map_n, Nat.reduceSub, List.cons_append, List.nil_append, bin_neq, decide_false, not_true_eq_false, h0]
  refine CallK.of (c_kw _ _ _ _) ?_
  by_cases hk : 1 ≤ k ∧ k ≤ 20
  case neg =>
    have hE := gE_1 (k := k) h0 (fun hh => hk hh.1)
    simp (maxSteps := 4000000) -implicitDefEqProofs -dsimp (disch := omega) only [↓AW_ops, ↓AW_seq, ↓AW_cond, ↓AW_ret, ↓AOps_nil, ↓AOps_pu, ↓AOps_guard, on_some, extK_same, guardB_tf, skipS_some, condB_t, ↓then_normal, ↓then_ret, ↓FinR_ret, pval, rd_S, rd_C, put_S, resV, resL, chkd, bput, bgot, cells_agg, splice, partA, fillA, eq_self, List.replicate_succ, List.replicate_zero, List.set_cons_zero, List.set_cons_succ, List.getElem?_cons_zero, List.getElem?_cons_succ, List.drop_zero, List.drop_succ_cons, List.drop_nil, List.take_zero, List.take_succ_cons, List.take_nil, Option.getD_some, Option.map_some, map_n, List.length_cons, List.length_nil, Nat.reduceAdd, Nat.reduceSub, Nat.reduceLeDiff, Nat.reduceEqDiff, Nat.zero_add, List.cons_append, List.nil_append, List.append_nil, if_true, if_false, Bool.not_false, decide_false, ne_eq, not_true_eq_false, hk]
    exact ⟨_, _, gc_all, _, by rw [hE], NF.err (List.prefix_refl _) (by rw [hE]; decide)⟩
  have hidx := hV.ls.idxI (k := .i64) (i := o) (by omega) (by omega)
  simp (maxSteps := 4000000) -implicitDefEqProofs -dsimp (disch := omega) only [↓AOps_pu, ↓AOps_ld, ↓AOps_call, ↓AOps_guard, on_some, extK_same, guardB_ff, pval, lval, rd_S, put_S, chkd, isAdr, bgot, cells_agg, partA, eq_self, List.replicate_succ, List.replicate_zero, List.set_cons_zero, List.set_cons_succ, List.getElem?_cons_zero, List.getElem?_cons_succ, List.drop_zero, List.drop_succ_cons, List.take_succ_cons, List.take_nil, Option.getD_some, map_c, map_n, List.length_cons, List.length_nil, Nat.reduceAdd, Nat.reduceSub, Nat.reduceLeDiff, Nat.zero_add, List.cons_append, List.nil_append, if_true, if_false, Bool.false_eq_true, Bool.not_true, decide_true, and_true, hk, hidx, hV.ls.ld0 hw 1 false (by decide), e0]
  have hwi := hV.inn w hwm
  rw [hwr] at hwi
  refine CallK.of (c_Max hwi (by omega) (by omega)) ?_
  have hmk := Int.mul_le_mul hr1.2 hk.2 (by omega) (by omega : (0 : Int) ≤ 20)
  have hmk0 := Int.mul_nonneg hr1.1 (by omega : (0 : Int) ≤ k)
  by_cases hm : mxL (rowOf (lists ws) o) * k ≤ 20
  case neg =>
    have hE := gE_1 (k := k) h0 (fun hh => hm hh.2)
    have hm' : (20 : Int) < mxL (rowOf (lists ws) o) * k := by omega
    simp (maxSteps := 4000000) -implicitDefEqProofs -dsimp (disch := omega) only [↓AW_ops, ↓AW_seq, ↓AW_cond, ↓AW_ret, ↓AOps_nil, ↓AOps_pu, ↓AOps_guard, on_some, extK_same, guardB_ff, condB_t, ↓then_normal, ↓then_ret, ↓FinR_ret, pval, rd_S, rd_C, put_S, resV, resL, chkd, bput, bgot, cells_agg, splice, partA, fillA, eq_self, List.replicate_succ, List.replicate_zero, List.set_cons_zero, List.set_cons_succ, List.getElem?_cons_zero, List.getElem?_cons_succ, List.drop_zero, List.drop_succ_cons, List.drop_nil, List.take_zero, List.take_succ_cons, List.take_nil, Option.getD_some, Option.map_some, map_n, List.length_cons, List.length_nil, Nat.reduceAdd, Nat.reduceSub, Nat.reduceLeDiff, Nat.reduceEqDiff, Nat.zero_add, List.cons_append, List.nil_append, List.append_nil, bin_mul, bin_gtr, w64, if_true, if_false, Bool.false_eq_true, decide_true, ne_eq, not_true_eq_false, hm']
    exact ⟨_, _, gc_all, _, by rw [hE], NF.err (List.prefix_refl _) (by rw [hE]; decide)⟩
  have hE := gE_ok (k := k) h0 ⟨hk, hm⟩
  have hm' : ¬ (20 : Int) < mxL (rowOf (lists ws) o) * k := by omega
  have hw1 : ∀ u ∈ ws, 1 ≤ u.2.length := fun u hu => by have := hg.rl u.2 (mem_lists hu); omega
  obtain ⟨r, H0, hc, A1, x1, y1, ws1, p1, p2, hx1, hnl0, hli0, rfl⟩ := s92 hL hV hs.l hs.v hs.w hg.l1 hw1
  simp (maxSteps := 4000000) -implicitDefEqProofs -dsimp (disch := omega) only [↓AW_skip, ↓AW_ops, ↓AW_seq, ↓AW_cond, ↓AOps_nil, ↓AOps_pu, ↓AOps_call, ↓AOps_guard, on_some, extK_same, guardB_ff, condB_f, ↓then_normal, pval, rd_S, rd_C, put_S, chkd, bgot, partA, eq_self, List.replicate_succ, List.replicate_zero, List.set_cons_zero, List.set_cons_succ, List.getElem?_cons_zero, List.getElem?_cons_succ, List.drop_zero, List.take_succ_cons, List.take_nil, Option.getD_some, map_c, map_n, List.length_cons, List.length_nil, Nat.reduceAdd, Nat.reduceSub, Nat.reduceLeDiff, Nat.reduceEqDiff, Nat.zero_add, List.cons_append, List.nil_append, bin_mul, bin_gtr, w64, if_true, if_false, Bool.false_eq_true, decide_false, hm']
  refine CallK.of hc ?_
  rw [← hli0] at hrow
  obtain ⟨u, hu, hur⟩ := ws_ex hrow
  have hlen : ws1.length = ws.length := by have := congrArg List.length hli0; simpa using this
  have hui := hnl0.ll.inn u (List.mem_of_getElem? hu)
  rw [hur] at hui
  rw [hli0] at hrow hur hui
  have hutl : o.toNat < ws1.length := by omega
  simp (maxSteps := 4000000) -implicitDefEqProofs -dsimp (disch := omega) only [↓AW_ops, ↓AW_seq, ↓AW_block, ↓AOps_nil, ↓AOps_pu, ↓AOps_ld, on_some, extK_false, ↓then_normal, pval, lval, rd_S, rd_C, put_S, ↓AW_toLoop, chkd, isAdr, bput, bgot, cells_agg, splice, partA, eq_self, List.replicate_succ, List.replicate_zero, List.set_cons_zero, List.set_cons_succ, List.getElem?_cons_zero, List.getElem?_cons_succ, List.drop_zero, List.drop_succ_cons, List.drop_nil, List.take_zero, List.take_succ_cons, List.take_nil, Option.getD_some, List.length_cons, List.length_nil, Nat.reduceAdd, Nat.reduceSub, Nat.reduceLeDiff, Nat.zero_add, List.cons_append, List.nil_append, List.append_nil, if_true, if_false, Bool.false_eq_true, ne_eq, not_true_eq_false, hnl0.ll.ls.idxI (k := .i64) (i := o) (by omega) (by omega), hnl0.ll.ls.ld0 hu 1 false (by decide), e0, hui.len]
  generalize hrr : rowOf (lists ws) o = row at *
  refine LoopK.by 57 (fun z : Nat × AHeap => z.1 ≤ row.length ∧ NL A1 z.2 y1 (ws1.set o.toNat (u.1, low (fm k) row z.1)))
    (fun z => [(1, I o), (2, I k), (6, .agg [.nilS, .nilS]), (9, .agg [x1, y1]), (40, I row.length), (41, I z.1)]) (fun z => z.2) (fun z => row.length - z.1) (0, H0) ⟨by simp only; omega, by simp only [low_0]; rw [← hur, set_fst hu]; exact hnl0⟩ rfl (by simp [Has, rd_s]) rfl ?_
  rintro ⟨i, H1⟩ ⟨hi, hnl⟩
  simp only at hi hnl
  have hget : (ws1.set o.toNat (u.1, low (fm k) row i))[o.toNat]? = some (u.1, low (fm k) row i) := by rw [List.getElem?_set_self hutl]
  have hxk : L1 H1 u.1 (low (fm k) row i) := hnl.ll.inn _ (List.mem_of_getElem? hget)
  have hlk := low_len (f := fm k) hi
  by_cases hlt : i < row.length
  · have hlt' : (i : Int) < row.length := by omega
    have hltl : i < (low (fm k) row i).length := by omega
    obtain ⟨z, hz⟩ : ∃ z, row[i]? = some z := ⟨_, List.getElem?_eq_getElem hlt⟩
    have hzl := low_get (f := fm k) hz
    have hz1 := hg.rv _ hrm z (List.mem_of_getElem? hz)
    have hzk := Int.mul_le_mul hz1.2 hk.2 (by omega) (by omega : (0 : Int) ≤ 20)
    have hzk0 := Int.mul_nonneg hz1.1 (by omega : (0 : Int) ≤ k)
    obtain ⟨H2, hst, h3⟩ := hnl.st hget hltl (fm k z)
    rw [List.set_set] at h3
    simp only at h3 hst
    rw [low_set hz] at h3
    unfold fm at hst
    have hls := hnl.ll.ls
    simp (maxSteps := 4000000) -implicitDefEqProofs -dsimp (disch := omega) only [↓AW_skip, ↓AW_ops, ↓AW_seq, ↓AW_cond, ↓AW_block, ↓AOps_nil, ↓AOps_pu, ↓AOps_ld, ↓AOps_ha, on_some, extK_false, condB_t, ↓then_normal, ↓inBlock_normal, pval, lval, hval_st, rd_S, rd_C, put_S, putS_none, chkd, isAdr, bgot, cells_agg, partA, eq_self, mk, List.foldl_cons, List.foldl_nil, List.replicate_succ, List.replicate_zero, List.set_cons_zero, List.set_cons_succ, List.getElem?_cons_zero, List.getElem?_cons_succ, List.drop_zero, List.drop_succ_cons, List.take_succ_cons, List.take_nil, Option.getD_some, Option.map_some, List.length_cons, List.length_nil, Nat.reduceAdd, Nat.reduceLeDiff, Nat.zero_add, bin_add, bin_mul, bin_lss, w64, if_true, if_false, Bool.false_eq_true, decide_true, Go.Eng.e1, true_and, hlt', hls.idxI (k := .i64) (i := o) (by omega) (by rw [List.length_set]; omega), hls.ld0 hget 1 false (by decide), e0, hxk.idx hltl, hxk.ld0 hzl 1 false (by decide), hst]
    exact ⟨(i + 1, H2), ⟨hlt, h3⟩, by simp [Has, rd_s], rfl, by simp only; omega⟩
  · have hlt' : ¬ ((i : Int) < row.length) := by omega
    have hie : i = row.length := by omega
    rw [hie, low_all] at hnl
    simp (maxSteps := 4000000) -implicitDefEqProofs -dsimp (disch := omega) only [↓AW_ops, ↓AW_seq, ↓AW_cond, ↓AW_exit, ↓AW_ret, ↓AOps_nil, ↓AOps_pu, on_some, condB_f, ↓then_normal, ↓then_exit, ↓inBlock_exit, ↓FinR_ret, pval, rd_S, rd_C, put_S, resV, resL, chkd, bput, bgot, cells_agg, splice, partA, eq_self, mk, List.foldl_cons, List.foldl_nil, List.replicate_succ, List.replicate_zero, List.set_cons_zero, List.set_cons_succ, List.getElem?_cons_zero, List.getElem?_cons_succ, List.drop_zero, List.drop_succ_cons, List.drop_nil, List.take_zero, List.take_succ_cons, List.take_nil, Option.getD_some, List.length_cons, List.length_nil, Nat.reduceAdd, Nat.reduceLeDiff, Nat.reduceEqDiff, Nat.zero_add, List.nil_append, List.append_nil, bin_lss, if_true, if_false, decide_false, ne_eq, not_true_eq_false, hlt']
    refine ⟨_, _, gc_all, _, by rw [hE], A1, x1, y1, ws1.set o.toNat (u.1, row.map (fm k)), p1, hnl.acc.1, by rw [gL_0 hE]; exact hx1, ?_⟩
    rw [gV_0 hE]
    refine ⟨hnl, ?_, rfl⟩
    rw [lists_set, hli0]
    unfold mulV
    rw [hrow]
    rfl
set_option maxRecDepth 20000 in
set_option maxHeartbeats 2000000 in
theorem s49 (hL : L1 A x L) (hV : LL A y ws) (hs : Sz L ws) (o k : Int) :
    ∃ v H', ACalls Try.prog 49 [.agg [x, y], I o, I k] A v H' ∧ ∃ r, v = .tuple [r, I (gE L (lists ws) o k)] ∧ NF A H' r (gL L (lists ws) o k) (gV L (lists ws) o k) := by
  refine acallsR hmix Try.func49 (by kernel_rfl) t49 _ 3 rfl (by decide) ?_
  have hll : ((lists ws).length : Int) = ws.length := by simp
  dsimp only [m49]
  simp (maxSteps := 4000000) -implicitDefEqProofs -dsimp (disch := omega) only [↓AW_ops, ↓AW_seq, ↓AOps_nil, ↓AOps_pu, ↓AOps_ha, ↓AOps_call, on_some, extK_app, ↓then_normal, pval, hval_blds, rd_S, rd_C, put_S, chkd, bgot, cells_agg, cells_int, splice, partA, fillA, repl, eq_self, List.replicate_succ, List.replicate_zero, List.set_cons_zero, List.set_cons_succ, List.getElem?_cons_zero, List.getElem?_cons_succ, List.drop_zero, List.drop_succ_cons, List.drop_nil, List.take_zero, List.take_succ_cons, List.take_nil, Option.getD_some, map_c, map_n, List.length_cons, List.length_nil, Nat.reduceAdd, Nat.reduceSub, Nat.reduceLeDiff, Nat.reduceEqDiff, Nat.zero_add, List.cons_append, List.nil_append, List.append_nil, if_true, if_false, and_true]
  have pA := pre_app A [AObj.cells true [I o]]
  have hLA := hL.mono pA
  have hVA := hV.mono pA
  have huA : L1 (A ++ [AObj.cells true [I o]]) (.sl 1 A.length 0 1 true) [o] := by
    refine ⟨e1_len, ?_⟩
    simp [slCells, cellsAt, e1]
  refine CallK.of (s61 hLA hVA hs huA) ?_
  generalize A ++ [AObj.cells true [I o]] = B at *
  by_cases h0 : oE L (lists ws) o = 0
  case neg =>
    simp (maxSteps := 4000000) -implicitDefEqProofs -dsimp (disch := omega) only [↓AW_ops, ↓AW_seq, ↓AW_cond, ↓AW_ret, ↓AOps_nil, ↓AOps_pu, on_some, extK_same, condB_t, ↓then_normal, ↓then_ret, ↓FinR_ret, pval, rd_S, rd_C, put_S, resV, resL, chkd, bput, bgot, cells_agg, splice, partA, fillA, eq_self, List.replicate_succ, List.replicate_zero, List.set_cons_zero, List.set_cons_succ, List.getElem?_cons_zero, List.getElem?_cons_succ, List.drop_zero, List.drop_succ_cons, List.drop_nil, List.take_zero, List.take_succ_cons, List.take_nil, Option.getD_some, Option.map_some, map_n, List.length_cons, List.length_nil, Nat.reduceAdd, Nat.reduceSub, Nat.reduceLeDiff, Nat.reduceEqDiff, Nat.zero_add, List.cons_append, List.nil_append, List.append_nil, bin_neq, if_true, if_false, decide_true, ne_eq, not_true_eq_false, not_false_eq_true, h0]
    exact ⟨_, _, gc_all, _, by rw [gE_no h0], NF.err pA (by rw [gE_no h0]; exact h0)⟩
  obtain ⟨hg, ho⟩ := oE_0 h0
  have hrow := rowOf_get ho
  have hrm := List.mem_of_getElem? hrow
  have hrl := hg.rl _ hrm
  have hl1 := hg.l1
  have hl6 := hg.l6
  simp (maxSteps := 4000000) -implicitDefEqProofs -dsimp (disch := omega) only [↓AW_skip, ↓AW_ops, ↓AW_seq, ↓AW_cond, ↓AOps_nil, ↓AOps_pu, ↓AOps_call, on_some, extK_same, condB_f, ↓then_normal, pval, rd_S, rd_C, put_S, eq_self, List.replicate_succ, List.replicate_zero, List.set_cons_zero, List.set_cons_succ, List.getElem?_cons_zero, List.getElem?_cons_succ, Option.getD_some, map_c, map_n, Nat.reduceSub, List.cons_append, List.nil_append, bin_neq, decide_false, not_true_eq_false, h0]
  refine CallK.of (c_rw _ _ _ _) ?_
  by_cases hk : 1 ≤ k ∧ k ≤ 20
  case neg =>
    have hE := gE_1 (k := k) h0 (fun hh => hk hh.1)
    simp (maxSteps := 4000000) -implicitDefEqProofs -dsimp (disch := omega) only [↓AW_ops, ↓AW_seq, ↓AW_cond, ↓AW_ret, ↓AOps_nil, ↓AOps_pu, on_some, extK_same, condB_t, ↓then_normal, ↓then_ret, ↓FinR_ret, pval, rd_S, rd_C, put_S, resV, resL, chkd, bput, bgot, cells_agg, splice, partA, fillA, eq_self, List.replicate_succ, List.replicate_zero, List.set_cons_zero, List.set_cons_succ, List.getElem?_cons_zero, List.getElem?_cons_succ, List.drop_zero, List.drop_succ_cons, List.drop_nil, List.take_zero, List.take_succ_cons, List.take_nil, Option.getD_some, Option.map_some, map_n, List.length_cons, List.length_nil, Nat.reduceAdd, Nat.reduceSub, Nat.reduceLeDiff, Nat.reduceEqDiff, Nat.zero_add, List.cons_append, List.nil_append, List.append_nil, if_true, if_false, Bool.not_false, decide_false, ne_eq, not_true_eq_false, hk]
    exact ⟨_, _, gc_all, _, by rw [hE], NF.err pA (by rw [hE]; decide)⟩
  obtain ⟨r, H0, hc, A1, x1, y1, ws1, p1, p2, hx1, hnl0, hli0, rfl⟩ := s40 hLA hVA hs.l hs.v hs.w
  simp (maxSteps := 4000000) -implicitDefEqProofs -dsimp (disch := omega) only [↓AW_skip, ↓AW_ops, ↓AW_seq, ↓AW_cond, ↓AOps_nil, ↓AOps_pu, ↓AOps_call, on_some, extK_same, condB_f, ↓then_normal, pval, rd_S, put_S, chkd, bgot, partA, eq_self, List.replicate_succ, List.replicate_zero, List.set_cons_zero, List.set_cons_succ, List.getElem?_cons_zero, List.getElem?_cons_succ, List.drop_zero, List.take_succ_cons, List.take_nil, Option.getD_some, map_c, map_n, List.length_cons, List.length_nil, Nat.reduceAdd, Nat.reduceSub, Nat.reduceLeDiff, Nat.reduceEqDiff, Nat.zero_add, List.cons_append, List.nil_append, if_true, if_false, Bool.not_true, decide_true, and_true, hk]
  refine CallK.of hc ?_
  rw [← hli0] at hrow
  obtain ⟨u, hu, hur⟩ := ws_ex hrow
  have hlen : ws1.length = ws.length := by have := congrArg List.length hli0; simpa using this
  rw [hli0] at hrow hur
  have hutl : o.toNat < ws1.length := by omega
  have hkE := kE_mul hg ho.1 ho.2 hk
  simp (maxSteps := 4000000) -implicitDefEqProofs -dsimp (disch := omega) only [↓AW_ops, ↓AW_seq, ↓AW_block, ↓AOps_nil, ↓AOps_pu, on_some, extK_false, ↓then_normal, pval, rd_S, rd_C, put_S, ↓AW_toLoop, chkd, bput, cells_agg, splice, eq_self, List.replicate_succ, List.replicate_zero, List.set_cons_zero, List.set_cons_succ, List.getElem?_cons_zero, List.getElem?_cons_succ, List.drop_succ_cons, List.drop_nil, List.take_zero, Option.getD_some, List.length_cons, List.length_nil, Nat.reduceAdd, Nat.reduceSub, Nat.reduceLeDiff, Nat.zero_add, List.cons_append, List.nil_append, List.append_nil, if_true, if_false, ne_eq, not_true_eq_false]
  generalize hrr : rowOf (lists ws) o = row at *
  refine LoopK.by 48 (fun z : Nat × AHeap => z.1 ≤ row.length ∧ NL A1 z.2 y1 (ws1.set o.toNat (u.1, low (fm k) row z.1)))
    (fun z => [(1, I o), (2, I k), (6, .agg [.nilS, .nilS]), (9, .agg [x1, y1]), (10, I z.1)]) (fun z => z.2) (fun z => row.length - z.1) (0, H0) ⟨by simp only; omega, by simp only [low_0]; rw [← hur, set_fst hu]; exact hnl0⟩ rfl (by simp [Has, rd_s]) rfl ?_
  rintro ⟨i, H1⟩ ⟨hi, hnl⟩
  simp only at hi hnl
  have hget : (ws1.set o.toNat (u.1, low (fm k) row i))[o.toNat]? = some (u.1, low (fm k) row i) := by rw [List.getElem?_set_self hutl]
  have hxk : L1 H1 u.1 (low (fm k) row i) := hnl.ll.inn _ (List.mem_of_getElem? hget)
  have hlk := low_len (f := fm k) hi
  have hx1' := hx1.mono hnl.acc.1
  rw [hrl] at hi
  by_cases hlt : i < L.length
  · have hlt' : (i : Int) < L.length := by omega
    have hltl : i < (low (fm k) row i).length := by omega
    obtain ⟨z, hz⟩ : ∃ z, row[i]? = some z := ⟨_, List.getElem?_eq_getElem (by omega)⟩
    have hzl := low_get (f := fm k) hz
    have hz1 := hg.rv _ hrm z (List.mem_of_getElem? hz)
    have hzk := Int.mul_le_mul hz1.2 hk.2 (by omega) (by omega : (0 : Int) ≤ 20)
    have hzk0 := Int.mul_nonneg hz1.1 (by omega : (0 : Int) ≤ k)
    obtain ⟨H2, hst, h3⟩ := hnl.st hget hltl (fm k z)
    rw [List.set_set] at h3
    simp only at h3 hst
    rw [low_set hz] at h3
    unfold fm at hst
    have hls := hnl.ll.ls
    simp (maxSteps := 4000000) -implicitDefEqProofs -dsimp (disch := omega) only [↓AW_skip, ↓AW_ops, ↓AW_seq, ↓AW_cond, ↓AW_block, ↓AOps_nil, ↓AOps_pu, ↓AOps_ld, ↓AOps_ha, on_some, extK_false, condB_t, ↓then_normal, ↓inBlock_normal, pval, lval, hval_st, rd_S, rd_C, put_S, putS_none, chkd, isAdr, bgot, cells_agg, partA, eq_self, mk, List.foldl_cons, List.foldl_nil, List.replicate_succ, List.replicate_zero, List.set_cons_zero, List.set_cons_succ, List.getElem?_cons_zero, List.getElem?_cons_succ, List.drop_zero, List.drop_succ_cons, List.take_zero, List.take_succ_cons, List.take_nil, Option.getD_some, Option.map_some, List.length_cons, List.length_nil, Nat.reduceAdd, Nat.reduceLeDiff, Nat.zero_add, bin_add, bin_mul, bin_lss, w64, if_true, if_false, Bool.false_eq_true, decide_true, Go.Eng.e1, true_and, hlt', hx1'.len, hls.idxI (k := .i64) (i := o) (by omega) (by rw [List.length_set]; omega), hls.ld0 hget 1 false (by decide), e0, hxk.idx hltl, hxk.ld0 hzl 1 false (by decide), hst]
    exact ⟨(i + 1, H2), ⟨by omega, h3⟩, by simp [Has, rd_s], rfl, by simp only; omega⟩
  · have hlt' : ¬ ((i : Int) < L.length) := by omega
    have hie : i = row.length := by omega
    rw [hie, low_all] at hnl
    have hlm : lists (ws1.set o.toNat (u.1, row.map (fm k))) = mulV (lists ws) o.toNat k := by
      rw [lists_set, hli0]
      unfold mulV
      rw [hrow]
      rfl
    have hsz : ∀ w ∈ ws1.set o.toNat (u.1, row.map (fm k)), w.2.length ≤ 1000000 := by
      intro w hw
      have hw2 := mem_lists hw
      rw [lists_set, hli0] at hw2
      rcases List.mem_or_eq_of_mem_set hw2 with h5 | h5
      · have := hg.rl _ h5; omega
      · rw [h5, List.length_map]; omega
    have hv := hs.v
    simp (maxSteps := 4000000) -implicitDefEqProofs -dsimp (disch := omega) only [↓AW_ops, ↓AW_seq, ↓AW_cond, ↓AW_exit, ↓AOps_nil, ↓AOps_pu, ↓AOps_call, on_some, condB_f, ↓then_normal, ↓then_exit, ↓inBlock_exit, pval, rd_S, put_S, chkd, isAdr, bgot, cells_agg, partA, eq_self, mk, List.foldl_cons, List.foldl_nil, List.replicate_succ, List.replicate_zero, List.set_cons_zero, List.set_cons_succ, List.getElem?_cons_zero, List.getElem?_cons_succ, List.drop_zero, List.take_zero, List.take_succ_cons, List.take_nil, Option.getD_some, map_c, map_n, List.length_cons, List.length_nil, Nat.reduceAdd, Nat.reduceLeDiff, Nat.reduceEqDiff, Nat.zero_add, bin_lss, if_true, if_false, Bool.false_eq_true, decide_false, hlt', hx1'.len]
    refine CallK.of (s27 hx1' hnl.ll (by omega) (by rw [List.length_set]; omega) hsz) ?_
    rw [hlm, hkE]
    by_cases hm : mxL row * k ≤ 20
    · have hE := gE_ok (k := k) h0 ⟨hk, by rw [hrr]; exact hm⟩
      simp (maxSteps := 4000000) -implicitDefEqProofs -dsimp (disch := omega) only [↓AW_skip, ↓AW_ops, ↓AW_seq, ↓AW_cond, ↓AW_ret, ↓AOps_nil, ↓AOps_pu, on_some, extK_same, condB_f, ↓then_normal, ↓FinR_ret, pval, rd_S, rd_C, put_S, resV, resL, chkd, bput, bgot, cells_agg, splice, partA, eq_self, mk, List.foldl_cons, List.foldl_nil, List.replicate_succ, List.replicate_zero, List.set_cons_zero, List.set_cons_succ, List.getElem?_cons_zero, List.getElem?_cons_succ, List.drop_zero, List.drop_succ_cons, List.drop_nil, List.take_zero, List.take_succ_cons, List.take_nil, Option.getD_some, List.length_cons, List.length_nil, Nat.reduceAdd, Nat.reduceLeDiff, Nat.reduceEqDiff, Nat.zero_add, List.nil_append, List.append_nil, bin_neq, if_true, if_false, decide_false, ne_eq, not_true_eq_false, hm]
      refine ⟨_, _, gc_all, _, by rw [hE], A1, x1, y1, ws1.set o.toNat (u.1, row.map (fm k)), pA.trans p1, hnl.acc.1, by rw [gL_0 hE]; exact hx1, ?_⟩
      rw [gV_0 hE]
      exact ⟨hnl, hlm, rfl⟩
    · have hE := gE_1 (k := k) h0 (fun hh => hm (by rw [← hrr]; exact hh.2))
      simp (maxSteps := 4000000) -implicitDefEqProofs -dsimp (disch := omega) only [↓AW_ops, ↓AW_seq, ↓AW_cond, ↓AW_ret, ↓AOps_nil, ↓AOps_pu, on_some, extK_same, condB_t, ↓then_normal, ↓then_ret, ↓FinR_ret, pval, rd_S, rd_C, put_S, resV, resL, chkd, bput, bgot, cells_agg, splice, partA, fillA, eq_self, mk, List.foldl_cons, List.foldl_nil, List.replicate_succ, List.replicate_zero, List.set_cons_zero, List.set_cons_succ, List.getElem?_cons_zero, List.getElem?_cons_succ, List.drop_zero, List.drop_succ_cons, List.drop_nil, List.take_zero, List.take_succ_cons, List.take_nil, Option.getD_some, Option.map_some, map_n, List.length_cons, List.length_nil, Nat.reduceAdd, Nat.reduceLeDiff, Nat.reduceEqDiff, Nat.zero_add, List.nil_append, List.append_nil, bin_neq, if_true, if_false, decide_true, ne_eq, not_true_eq_false, not_false_eq_true, Int.reduceEq, hm]
      exact ⟨_, _, gc_all, _, by rw [hE], NF.err ((pA.trans p1).trans hnl.acc.1) (by rw [hE]; decide)⟩
set_option maxRecDepth 20000 in
set_option maxHeartbeats 4000000 in
theorem s12 (hL : L1 A x L) (hV : LL A y ws) (hl : ws.length ≤ 9223372036854775807) (o k : Int) : ACalls Try.prog 12 [.agg [x, y], I o, I k] A (B true) A := by
  refine acalls hmix Try.func12 (by kernel_rfl) t12 3 rfl (by decide) ?_
  dsimp only [m12]
  simp (maxSteps := 4000000) -implicitDefEqProofs -dsimp (disch := omega) only [↓AW_ops, ↓AW_seq, ↓AOps_nil, ↓AOps_pu, ↓AOps_call, on_some, ↓then_normal, pval, rd_S, rd_C, put_S, chkd, bgot, AV.cells?, partA, eq_self, List.replicate_succ, List.replicate_zero, List.set_cons_zero, List.set_cons_succ, List.getElem?_cons_zero, List.getElem?_cons_succ, List.drop_zero, List.take_succ_cons, List.take_nil, Option.getD_some, map_c, map_n, List.length_cons, List.length_nil, Nat.reduceAdd, Nat.reduceSub, Nat.reduceLeDiff, Nat.reduceEqDiff, Nat.zero_add, List.cons_append, List.nil_append, if_true, if_false]
  refine CallK.of (c_Long hL hV hl) ?_
  by_cases h : longK L ws
  · simp (maxSteps := 4000000) -implicitDefEqProofs -dsimp (disch := omega) only [↓AW_ops, ↓AW_seq, ↓AW_cond, ↓AOps_nil, ↓AOps_call, extK_same, condB_t, ↓then_normal, rd_S, put_S, List.replicate_succ, List.replicate_zero, List.set_cons_zero, List.set_cons_succ, List.getElem?_cons_zero, List.getElem?_cons_succ, Option.getD_some, map_n, Nat.reduceSub, List.cons_append, List.nil_append, decide_true, h]
    refine CallK.of (known A) ?_
    simp (maxSteps := 4000000) -implicitDefEqProofs -dsimp (disch := omega) only [↓AW_ret, ↓AOps_nil, ↓AOps_pu, on_some, extK_same, ↓then_normal, ↓then_ret, ↓Fin_ret, pval, rd_S, put_S, resV, resL, List.replicate_succ, List.replicate_zero, List.set_cons_zero, List.set_cons_succ, List.getElem?_cons_zero, List.getElem?_cons_succ, Option.getD_some, Nat.reduceSub, List.cons_append, List.nil_append]
    exact gc_same rfl
  have hs := Sz_of h
  have hll : (lists ws).length = ws.length := by simp
  obtain ⟨r1, A1, hc1, B1, x1, y1, ws1, p1, q1, hx1, hnl1, hli1, rfl⟩ := s40 hL hV hs.l hs.v hs.w
  have hp1 := p1.trans q1
  have hX1 := hx1.mono q1
  have hY1 := hnl1.ll
  have hlen1 : ws1.length = ws.length := by have := congrArg List.length hli1; simpa using this
  have hs1 : Sz L ws1 := ⟨hs.l, by have := hs.v; omega, fun w hw => by
    have h5 := mem_lists hw
    rw [hli1] at h5
    obtain ⟨w', hw', e⟩ := List.mem_map.1 h5
    rw [← e]; exact hs.w w' hw'⟩
  simp (maxSteps := 4000000) -implicitDefEqProofs -dsimp (disch := omega) only [↓AW_skip, ↓AW_ops, ↓AW_seq, ↓AW_cond, ↓AOps_nil, ↓AOps_pu, ↓AOps_call, on_some, extK_same, condB_f, ↓then_normal, pval, rd_S, put_S, chkd, bgot, partA, eq_self, List.replicate_succ, List.replicate_zero, List.set_cons_zero, List.set_cons_succ, List.getElem?_cons_zero, List.getElem?_cons_succ, List.drop_zero, List.take_succ_cons, List.take_nil, Option.getD_some, map_c, map_n, List.length_cons, List.length_nil, Nat.reduceAdd, Nat.reduceSub, Nat.reduceLeDiff, Nat.reduceEqDiff, Nat.zero_add, List.cons_append, List.nil_append, if_true, if_false, decide_false, h]
  refine CallK.of hc1 ?_
  simp (maxSteps := 4000000) -implicitDefEqProofs -dsimp (disch := omega) only [↓AW_ops, ↓AW_seq, ↓AOps_nil, ↓AOps_pu, ↓AOps_call, on_some, extK_false, ↓then_normal, pval, rd_S, rd_C, put_S, chkd, bput, bgot, AV.cells?, splice, partA, eq_self, List.replicate_succ, List.replicate_zero, List.set_cons_zero, List.set_cons_succ, List.getElem?_cons_zero, List.getElem?_cons_succ, List.drop_zero, List.drop_succ_cons, List.drop_nil, List.take_zero, List.take_succ_cons, List.take_nil, Option.getD_some, map_c, map_n, List.length_cons, List.length_nil, Nat.reduceAdd, Nat.reduceSub, Nat.reduceLeDiff, Nat.reduceEqDiff, Nat.zero_add, List.cons_append, List.nil_append, List.append_nil, if_true, if_false, ne_eq, not_true_eq_false]
  obtain ⟨r2, A2, hc2, a2, rfl, hN2⟩ := s48 hX1 hY1 hs1 o k
  rw [hli1] at hN2 hc2
  refine CallK.of hc2 ?_
  obtain ⟨B2, x2, y2, ws2, p2, q2, hx2, hnl2, hli2, rfl⟩ := hN2
  have hp2 := p2.trans q2
  simp (maxSteps := 4000000) -implicitDefEqProofs -dsimp (disch := omega) only [↓AW_ops, ↓AW_seq, ↓AOps_nil, ↓AOps_pu, ↓AOps_call, on_some, extK_false, ↓then_normal, pval, rd_S, rd_C, put_S, chkd, bput, bgot, AV.cells?, splice, partA, eq_self, List.replicate_succ, List.replicate_zero, List.set_cons_zero, List.set_cons_succ, List.getElem?_cons_zero, List.getElem?_cons_succ, List.drop_zero, List.drop_succ_cons, List.drop_nil, List.take_zero, List.take_succ_cons, List.take_nil, Option.getD_some, map_c, map_n, List.length_cons, List.length_nil, Nat.reduceAdd, Nat.reduceSub, Nat.reduceLeDiff, Nat.reduceEqDiff, Nat.zero_add, List.cons_append, List.nil_append, List.append_nil, if_true, if_false, ne_eq, not_true_eq_false]
  have hp12 := hp1.trans hp2
  obtain ⟨r3, A3, hc3, a3, rfl, hN3⟩ := s49 (hL.mono hp12) (hV.mono hp12) hs o k
  refine CallK.of hc3 ?_
  obtain ⟨B3, x3, y3, ws3, p3, q3, hx3, hnl3, hli3, rfl⟩ := hN3
  have hp3 := p3.trans q3
  have hp := hp12.trans hp3
  have hnl2' := hnl2.mono hp3
  have hx2' := (hx2.mono q2).mono hp3
  have hx3' := hx3.mono q3
  have hgl : (gL L (lists ws) o k).length ≤ 1000000 := by
    have := hs.l
    unfold gL
    split
    · exact this
    · simp
  have hgv : ∀ r ∈ gV L (lists ws) o k, r.length ≤ 1000000 ∧ 1 ≤ r.length := by
    intro r hr
    unfold gV at hr
    split at hr
    · rename_i h0
      obtain ⟨hg, ho, _⟩ := gE_0 h0
      have h1 := hg.l1
      have h6 := hg.l6
      rcases List.mem_or_eq_of_mem_set hr with hr | rfl
      · have := hg.rl _ hr; omega
      · have := hg.rl _ (List.mem_of_getElem? (rowOf_get ho))
        have e : ((lists ws)[o.toNat]?).getD [] = rowOf (lists ws) o := rfl
        rw [e]
        simp only [scr, List.length_map]
        omega
    · cases hr
  have hgn : (gV L (lists ws) o k).length ≤ 1000000 := by
    have := hs.v
    unfold gV
    split
    · rw [mulV_len, hll]; exact this
    · simp
  have hn2 : ws2.length ≤ 1000000 := by have := congrArg List.length hli2; simp only [List.length_map] at this; omega
  have hw2 : ∀ w ∈ ws2, w.2.length ≤ 1000000 ∧ 1 ≤ w.2.length := by
    intro w hw
    have h5 := mem_lists hw
    rw [hli2] at h5
    exact hgv _ h5
  simp (maxSteps := 4000000) -implicitDefEqProofs -dsimp (disch := omega) only [↓AW_ops, ↓AW_seq, ↓AOps_nil, ↓AOps_pu, ↓AOps_call, ↓AOps_guard, on_some, extK_false, guardB_ff, ↓then_normal, pval, rd_S, rd_C, put_S, chkd, bput, bgot, AV.cells?, splice, partA, eq_self, List.replicate_succ, List.replicate_zero, List.set_cons_zero, List.set_cons_succ, List.getElem?_cons_zero, List.getElem?_cons_succ, List.drop_zero, List.drop_succ_cons, List.drop_nil, List.take_zero, List.take_succ_cons, List.take_nil, Option.getD_some, map_c, map_n, List.length_cons, List.length_nil, Nat.reduceAdd, Nat.reduceSub, Nat.reduceLeDiff, Nat.reduceEqDiff, Nat.zero_add, List.cons_append, List.nil_append, List.append_nil, bin_neq, if_true, if_false, decide_false, ne_eq, not_true_eq_false]
  refine CallK.of (s45 hx2' hnl2'.ll hx3' hnl3.ll hgl hn2 (fun w hw => (hw2 w hw).1)) ?_
  have hwl2 : ws2.length = (gV L (lists ws) o k).length := by have := congrArg List.length hli2; simpa using this
  by_cases h0 : gE L (lists ws) o k = 0
  · obtain ⟨hg, ho, hk, hm⟩ := gE_0 h0
    rw [gL_0 h0] at hx2' hx3'
    rw [gV_0 h0] at hli2 hli3 hwl2
    rw [mulV_len, hll] at hwl2
    have hon : o.toNat < (lists ws).length := by omega
    have hk0 : 0 < k := by omega
    have hg2 : KG L (lists ws2) := by rw [hli2]; exact KG.of (by rw [kE_mul hg ho.1 ho.2 hk, if_pos hm])
    have hs2 : Sz L ws2 := ⟨hs.l, hn2, fun w hw => (hw2 w hw).1⟩
    have hkn : knE L (lists ws2) = knE L (lists ws) := by rw [hli2, knE_mulV hon hk0]
    obtain ⟨hCP, hW, hlen, P, hP⟩ := knE_ok hg
    have hCP2 := (knE_ok hg2).1
    rw [hkn] at hCP2
    have hv5 := hg.v5
    rw [hll] at hP
    simp (maxSteps := 4000000) -implicitDefEqProofs -dsimp (disch := omega) only [↓AW_skip, ↓AW_ops, ↓AW_seq, ↓AW_cond, ↓AOps_nil, ↓AOps_pu, ↓AOps_call, ↓AOps_guard, on_some, extK_same, guardB_ff, condB_t, condB_f, ↓then_normal, pval, rd_S, rd_C, put_S, chkd, bgot, partA, eq_self, List.replicate_succ, List.replicate_zero, List.set_cons_zero, List.set_cons_succ, List.getElem?_cons_zero, List.getElem?_cons_succ, List.drop_zero, List.take_succ_cons, List.take_nil, Option.getD_some, map_c, map_n, List.length_cons, List.length_nil, Nat.reduceAdd, Nat.reduceSub, Nat.reduceLeDiff, Nat.reduceEqDiff, Nat.zero_add, List.cons_append, List.nil_append, bin_eql, if_true, if_false, Bool.false_eq_true, Bool.not_true, decide_true, and_true, h0, gL_0 h0, hli2, hli3]
    refine CallK.of (s32 (hL.mono hp) (hV.mono hp) hs hg) ?_
    have hp4 := pre_out A3 ((knE L (lists ws)).flatMap e5) (knE L (lists ws)).length
    have hq1 := Ls_out A3 e5_len (knE L (lists ws))
    generalize outV 5 A3 (knE L (lists ws)).length = v1 at *
    generalize outH A3 ((knE L (lists ws)).flatMap e5) (knE L (lists ws)).length = A4 at *
    simp (maxSteps := 4000000) -implicitDefEqProofs -dsimp (disch := omega) only [↓AW_ops, ↓AW_seq, ↓AOps_nil, ↓AOps_pu, ↓AOps_call, on_some, extK_false, ↓then_normal, pval, rd_S, put_S, chkd, bgot, partA, eq_self, List.replicate_succ, List.replicate_zero, List.set_cons_zero, List.set_cons_succ, List.getElem?_cons_zero, List.getElem?_cons_succ, List.drop_zero, List.take_succ_cons, List.take_nil, Option.getD_some, map_c, map_n, List.length_cons, List.length_nil, Nat.reduceAdd, Nat.reduceSub, Nat.reduceLeDiff, Nat.reduceEqDiff, Nat.zero_add, List.cons_append, List.nil_append, if_true, if_false, true_and]
    refine CallK.of (s32 (hx2'.mono hp4) (hnl2'.ll.mono hp4) hs2 hg2) ?_
    rw [hkn]
    have hp5 := pre_out A4 ((knE L (lists ws)).flatMap e5) (knE L (lists ws)).length
    have hq2 := Ls_out A4 e5_len (knE L (lists ws))
    generalize outV 5 A4 (knE L (lists ws)).length = v2 at *
    generalize outH A4 ((knE L (lists ws)).flatMap e5) (knE L (lists ws)).length = A5 at *
    have hq1 := hq1.mono hp5
    have hp35 := hp4.trans hp5
    simp (maxSteps := 4000000) -implicitDefEqProofs -dsimp (disch := omega) only [↓AW_ops, ↓AW_seq, ↓AOps_nil, ↓AOps_pu, ↓AOps_call, on_some, extK_false, ↓then_normal, pval, rd_S, put_S, chkd, bgot, partA, eq_self, List.replicate_succ, List.replicate_zero, List.set_cons_zero, List.set_cons_succ, List.getElem?_cons_zero, List.getElem?_cons_succ, List.drop_zero, List.take_succ_cons, List.take_nil, Option.getD_some, map_c, map_n, List.length_cons, List.length_nil, Nat.reduceAdd, Nat.reduceSub, Nat.reduceLeDiff, Nat.reduceEqDiff, Nat.zero_add, List.cons_append, List.nil_append, if_true, if_false, true_and]
    refine CallK.of (s31 (hL.mono (hp.trans hp35)) (hV.mono (hp.trans hp35)) hs hg hq1 (by omega) hW hCP P (fun o ho => (hP o ho).1)) ?_
    have hp6 := pre_out A5 (((prts L (lists ws) P).map rp).flatMap e2) ((prts L (lists ws) P).map rp).length
    have hr1 := Ls_out A5 e2_len ((prts L (lists ws) P).map rp)
    generalize outV 2 A5 ((prts L (lists ws) P).map rp).length = v3 at *
    generalize outH A5 (((prts L (lists ws) P).map rp).flatMap e2) ((prts L (lists ws) P).map rp).length = A6 at *
    have hp36 := hp35.trans hp6
    simp (maxSteps := 4000000) -implicitDefEqProofs -dsimp (disch := omega) only [↓AW_ops, ↓AW_seq, ↓AOps_nil, ↓AOps_pu, ↓AOps_call, on_some, extK_false, ↓then_normal, pval, rd_S, put_S, chkd, bgot, partA, eq_self, List.replicate_succ, List.replicate_zero, List.set_cons_zero, List.set_cons_succ, List.getElem?_cons_zero, List.getElem?_cons_succ, List.drop_zero, List.take_succ_cons, List.take_nil, Option.getD_some, map_c, map_n, List.length_cons, List.length_nil, Nat.reduceAdd, Nat.reduceSub, Nat.reduceLeDiff, Nat.reduceEqDiff, Nat.zero_add, List.cons_append, List.nil_append, if_true, if_false, true_and]
    refine CallK.of (s31 (hx2'.mono hp36) (hnl2'.ll.mono hp36) hs2 hg2 (hq1.mono hp6) (by omega) hW hCP2 P (fun o ho => (hP o (by omega)).1)) ?_
    have hpe : prts L (lists ws2) P = prts L (lists ws) P := by rw [hli2, prts_mulV hon hk0]
    rw [hpe]
    have hp7 := pre_out A6 (((prts L (lists ws) P).map rp).flatMap e2) ((prts L (lists ws) P).map rp).length
    have hr2 := Ls_out A6 e2_len ((prts L (lists ws) P).map rp)
    generalize outV 2 A6 ((prts L (lists ws) P).map rp).length = v4 at *
    generalize outH A6 (((prts L (lists ws) P).map rp).flatMap e2) ((prts L (lists ws) P).map rp).length = A7 at *
    have hp37 := hp36.trans hp7
    have hp57 := hp6.trans hp7
    simp (maxSteps := 4000000) -implicitDefEqProofs -dsimp (disch := omega) only [↓AW_ops, ↓AW_seq, ↓AOps_nil, ↓AOps_pu, ↓AOps_call, ↓AOps_guard, on_some, extK_false, guardB_ff, ↓then_normal, pval, rd_S, rd_C, put_S, eq_self, List.replicate_succ, List.replicate_zero, List.set_cons_zero, List.set_cons_succ, List.getElem?_cons_zero, List.getElem?_cons_succ, Option.getD_some, map_c, map_n, Nat.reduceSub, List.cons_append, List.nil_append, bin_neq, if_false, Bool.false_eq_true, decide_false, true_and, not_true_eq_false]
    refine CallK.of (c_same (hq1.mono hp57) (hq2.mono hp57) (by omega)) ?_
    simp (maxSteps := 4000000) -implicitDefEqProofs -dsimp (disch := omega) only [↓AOps_pu, ↓AOps_call, ↓AOps_guard, on_some, extK_same, guardB_ff, pval, rd_S, rd_C, put_S, eq_self, List.replicate_succ, List.replicate_zero, List.set_cons_zero, List.set_cons_succ, List.getElem?_cons_zero, List.getElem?_cons_succ, Option.getD_some, map_c, map_n, Nat.reduceSub, List.cons_append, List.nil_append, bin_neq, if_false, Bool.false_eq_true, Bool.not_true, decide_true, decide_false, true_and, not_true_eq_false]
    refine CallK.of (s17 (hr1.mono hp7) hr2 (by simp [prts]; omega)) ?_
    simp (maxSteps := 4000000) -implicitDefEqProofs -dsimp (disch := omega) only [↓AW_skip, ↓AW_ops, ↓AW_seq, ↓AW_cond, ↓AW_block, ↓AOps_nil, ↓AOps_pu, ↓AOps_guard, on_some, extK_same, guardB_ff, condB_f, ↓then_normal, pval, rd_S, rd_C, put_S, ↓AW_toLoop, eq_self, List.replicate_succ, List.replicate_zero, List.set_cons_zero, List.set_cons_succ, List.getElem?_cons_zero, List.getElem?_cons_succ, Option.getD_some, Nat.reduceSub, List.cons_append, List.nil_append, if_false, Bool.false_eq_true, Bool.not_true, decide_true, true_and]
    refine LoopK.by 118 (fun z : Nat × AHeap × List (AV × List Int) => (z.1 ≤ ws2.length ∧ z.2.2.length = ws2.length) ∧ NL B2 z.2.1 y2 z.2.2 ∧ ∀ w ∈ z.2.2, 1 ≤ w.2.length)
      (fun z => [(3, .agg [x, y]), (7, .agg [x1, y1]), (8, .agg [x2, y2]), (20, I z.1)]) (fun z => z.2.1) (fun z => ws2.length - z.1) (0, A7, ws2) ⟨⟨by simp only; omega, rfl⟩, hnl2'.mono hp37, fun w hw => (hw2 w hw).2⟩ rfl (by simp [Has, rd_s]) rfl ?_
    rintro ⟨i, H, wi⟩ ⟨⟨hi, hwl⟩, hnl, hne⟩
    simp only at hi hwl hnl hne
    have hll2 := hnl.ll
    by_cases hlt : i < wi.length
    · obtain ⟨z, hz⟩ : ∃ z, wi[i]? = some z := ⟨_, List.getElem?_eq_getElem hlt⟩
      have hlt' : (i : Int) < wi.length := by omega
      have hzm := List.mem_of_getElem? hz
      have hxz := hll2.inn z hzm
      have h1 := hne z hzm
      obtain ⟨H2, hst, h3⟩ := hnl.st hz (k := 0) (by omega) (-1)
      have hst' : stA 1 (.ptr (nm z.1) (of z.1)) (I (-1)) H = some H2 := by simpa using hst
      have i0 : idxA 1 z.1 (.int .i64 0) = some (.ptr (nm z.1) (of z.1)) := by
        have := hxz.idx (k := .i64) (i := 0) (by omega)
        simpa using this
      simp (maxSteps := 4000000) -implicitDefEqProofs -dsimp (disch := omega) only [↓AW_skip, ↓AW_ops, ↓AW_seq, ↓AW_cond, ↓AW_block, ↓AOps_nil, ↓AOps_pu, ↓AOps_ld, ↓AOps_ha, on_some, extK_false, condB_t, ↓then_normal, ↓inBlock_normal, pval, lval, hval_st, rd_S, rd_C, put_S, putS_none, chkd, isAdr, bgot, cells_agg, partA, eq_self, mk, List.foldl_cons, List.foldl_nil, List.replicate_succ, List.replicate_zero, List.set_cons_zero, List.set_cons_succ, List.getElem?_cons_zero, List.getElem?_cons_succ, List.drop_zero, List.drop_succ_cons, List.take_succ_cons, List.take_nil, Option.getD_some, Option.map_some, List.length_cons, List.length_nil, Nat.reduceAdd, Nat.reduceLeDiff, Nat.zero_add, bin_add, bin_lss, w64, if_true, if_false, Bool.false_eq_true, decide_true, true_and, Int.reduceNeg, hll2.ls.len, hll2.ls.idx hlt, hll2.ls.ld0 hz 1 false (by decide), hlt', e0, i0, hst']
      refine ⟨(i + 1, H2, wi.set i (z.1, z.2.set 0 (-1))), ⟨⟨by omega, by simp [hwl]⟩, h3, fun w hw => ?_⟩, by simp [Has, rd_s], rfl, by simp only; omega⟩
      rcases List.mem_or_eq_of_mem_set hw with hw | rfl
      · exact hne w hw
      · simp only [List.length_set]; exact h1
    · have hlt' : ¬ ((i : Int) < wi.length) := by omega
      have hAH : A1 <+: H := p2.trans hnl.acc.1
      have hpH := hp1.trans hAH
      simp (maxSteps := 4000000) -implicitDefEqProofs -dsimp (disch := omega) only [↓AW_ops, ↓AW_seq, ↓AW_cond, ↓AW_exit, ↓AOps_nil, ↓AOps_pu, ↓AOps_call, on_some, condB_f, ↓then_normal, ↓then_exit, ↓inBlock_exit, pval, rd_S, put_S, chkd, isAdr, bgot, cells_agg, partA, eq_self, mk, List.foldl_cons, List.foldl_nil, List.replicate_succ, List.replicate_zero, List.set_cons_zero, List.set_cons_succ, List.getElem?_cons_zero, List.getElem?_cons_succ, List.drop_zero, List.drop_succ_cons, List.take_succ_cons, List.take_nil, Option.getD_some, map_c, map_n, List.length_cons, List.length_nil, Nat.reduceAdd, Nat.reduceLeDiff, Nat.reduceEqDiff, Nat.zero_add, bin_lss, if_true, if_false, Bool.false_eq_true, decide_false, hll2.ls.len, hlt']
      refine CallK.of (s45 (hX1.mono hAH) (hY1.mono hAH) (hL.mono hpH) (hV.mono hpH) hs.l hs1.v hs1.w) ?_
      simp (maxSteps := 4000000) -implicitDefEqProofs -dsimp (disch := omega) only [↓AOps_pu, ↓AOps_call, ↓AOps_guard, on_some, extK_same, guardB_tt, pval, rd_S, put_S, eq_self, mk, List.foldl_cons, List.foldl_nil, List.replicate_succ, List.replicate_zero, List.set_cons_zero, List.set_cons_succ, List.getElem?_cons_zero, List.getElem?_cons_succ, Option.getD_some, map_n, decide_true, and_true, hli1]
      refine CallK.of (known H) ?_
      simp (maxSteps := 4000000) -implicitDefEqProofs -dsimp (disch := omega) only [↓AW_ret, ↓AOps_nil, ↓AOps_pu, on_some, extK_same, ↓then_normal, ↓Fin_ret, pval, rd_S, rd_C, put_S, resV, resL, eq_self, mk, List.foldl_cons, List.foldl_nil, List.replicate_succ, List.replicate_zero, List.set_cons_zero, List.set_cons_succ, List.getElem?_cons_zero, List.getElem?_cons_succ, Option.getD_some, if_true, true_and]
      exact gc_val hpH rfl
  · have hgv0 : gV L (lists ws) o k = [] := if_neg h0
    rw [hgv0] at hli2 hli3 hwl2
    simp (maxSteps := 4000000) -implicitDefEqProofs -dsimp (disch := omega) only [↓AW_skip, ↓AW_ops, ↓AW_seq, ↓AW_cond, ↓AW_block, ↓AOps_nil, ↓AOps_pu, ↓AOps_guard, on_some, extK_same, guardB_ff, condB_f, ↓then_normal, pval, rd_S, rd_C, put_S, ↓AW_toLoop, eq_self, List.replicate_succ, List.replicate_zero, List.set_cons_zero, List.set_cons_succ, List.getElem?_cons_zero, List.getElem?_cons_succ, Option.getD_some, Nat.reduceSub, List.cons_append, List.nil_append, bin_eql, if_false, Bool.false_eq_true, Bool.not_true, decide_true, decide_false, and_true, h0, hli2, hli3]
    refine LoopK.by 118 (fun z : Nat × AHeap × List (AV × List Int) => (z.1 ≤ ws2.length ∧ z.2.2.length = ws2.length) ∧ NL B2 z.2.1 y2 z.2.2 ∧ ∀ w ∈ z.2.2, 1 ≤ w.2.length)
      (fun z => [(3, .agg [x, y]), (7, .agg [x1, y1]), (8, .agg [x2, y2]), (20, I z.1)]) (fun z => z.2.1) (fun z => ws2.length - z.1) (0, A3, ws2) ⟨⟨by simp only; omega, rfl⟩, hnl2', fun w hw => (hw2 w hw).2⟩ rfl (by simp [Has, rd_s]) rfl ?_
    rintro ⟨i, H, wi⟩ ⟨⟨hi, hwl⟩, hnl, hne⟩
    simp only at hi hwl hnl hne
    have hll2 := hnl.ll
    by_cases hlt : i < wi.length
    · obtain ⟨z, hz⟩ : ∃ z, wi[i]? = some z := ⟨_, List.getElem?_eq_getElem hlt⟩
      have hlt' : (i : Int) < wi.length := by omega
      have hzm := List.mem_of_getElem? hz
      have hxz := hll2.inn z hzm
      have h1 := hne z hzm
      obtain ⟨H2, hst, h3⟩ := hnl.st hz (k := 0) (by omega) (-1)
      have hst' : stA 1 (.ptr (nm z.1) (of z.1)) (I (-1)) H = some H2 := by simpa using hst
      have i0 : idxA 1 z.1 (.int .i64 0) = some (.ptr (nm z.1) (of z.1)) := by
        have := hxz.idx (k := .i64) (i := 0) (by omega)
        simpa using this
      simp (maxSteps := 4000000) -implicitDefEqProofs -dsimp (disch := omega) only [↓AW_skip, ↓AW_ops, ↓AW_seq, ↓AW_cond, ↓AW_block, ↓AOps_nil, ↓AOps_pu, ↓AOps_ld, ↓AOps_ha, on_some, extK_false, condB_t, ↓then_normal, ↓inBlock_normal, pval, lval, hval_st, rd_S, rd_C, put_S, putS_none, chkd, isAdr, bgot, cells_agg, partA, eq_self, mk, List.foldl_cons, List.foldl_nil, List.replicate_succ, List.replicate_zero, List.set_cons_zero, List.set_cons_succ, List.getElem?_cons_zero, List.getElem?_cons_succ, List.drop_zero, List.drop_succ_cons, List.take_succ_cons, List.take_nil, Option.getD_some, Option.map_some, List.length_cons, List.length_nil, Nat.reduceAdd, Nat.reduceLeDiff, Nat.zero_add, bin_add, bin_lss, w64, if_true, if_false, Bool.false_eq_true, decide_true, true_and, Int.reduceNeg, hll2.ls.len, hll2.ls.idx hlt, hll2.ls.ld0 hz 1 false (by decide), hlt', e0, i0, hst']
      refine ⟨(i + 1, H2, wi.set i (z.1, z.2.set 0 (-1))), ⟨⟨by omega, by simp [hwl]⟩, h3, fun w hw => ?_⟩, by simp [Has, rd_s], rfl, by simp only; omega⟩
      rcases List.mem_or_eq_of_mem_set hw with hw | rfl
      · exact hne w hw
      · simp only [List.length_set]; exact h1
    · have hlt' : ¬ ((i : Int) < wi.length) := by omega
      have hAH : A1 <+: H := p2.trans hnl.acc.1
      have hpH := hp1.trans hAH
      simp (maxSteps := 4000000) -implicitDefEqProofs -dsimp (disch := omega) only [↓AW_ops, ↓AW_seq, ↓AW_cond, ↓AW_exit, ↓AOps_nil, ↓AOps_pu, ↓AOps_call, on_some, condB_f, ↓then_normal, ↓then_exit, ↓inBlock_exit, pval, rd_S, put_S, chkd, isAdr, bgot, cells_agg, partA, eq_self, mk, List.foldl_cons, List.foldl_nil, List.replicate_succ, List.replicate_zero, List.set_cons_zero, List.set_cons_succ, List.getElem?_cons_zero, List.getElem?_cons_succ, List.drop_zero, List.drop_succ_cons, List.take_succ_cons, List.take_nil, Option.getD_some, map_c, map_n, List.length_cons, List.length_nil, Nat.reduceAdd, Nat.reduceLeDiff, Nat.reduceEqDiff, Nat.zero_add, bin_lss, if_true, if_false, Bool.false_eq_true, decide_false, hll2.ls.len, hlt']
      refine CallK.of (s45 (hX1.mono hAH) (hY1.mono hAH) (hL.mono hpH) (hV.mono hpH) hs.l hs1.v hs1.w) ?_
      simp (maxSteps := 4000000) -implicitDefEqProofs -dsimp (disch := omega) only [↓AOps_pu, ↓AOps_call, ↓AOps_guard, on_some, extK_same, guardB_tt, pval, rd_S, put_S, eq_self, mk, List.foldl_cons, List.foldl_nil, List.replicate_succ, List.replicate_zero, List.set_cons_zero, List.set_cons_succ, List.getElem?_cons_zero, List.getElem?_cons_succ, Option.getD_some, map_n, decide_true, and_true, hli1]
      refine CallK.of (known H) ?_
      simp (maxSteps := 4000000) -implicitDefEqProofs -dsimp (disch := omega) only [↓AW_ret, ↓AOps_nil, ↓AOps_pu, on_some, extK_same, ↓then_normal, ↓Fin_ret, pval, rd_S, rd_C, put_S, resV, resL, eq_self, mk, List.foldl_cons, List.foldl_nil, List.replicate_succ, List.replicate_zero, List.set_cons_zero, List.set_cons_succ, List.getElem?_cons_zero, List.getElem?_cons_succ, Option.getD_some, if_true, true_and]
      exact gc_val hpH rfl
end
end Go.Proofs.Ytmblehbjedpjoaa

