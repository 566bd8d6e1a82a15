/- Soil: fields unit by unit, as the program makes them, and which are better. No conditions. -/
import Derived.Test.YtnnbggcckabhdaaW19
import Derived.Test.YtnnbggcckabhdaaW22
namespace Go.Proofs.Ytnnbggcckabhdaa
open Go Go.Eng

theorem repl_zero (n : Nat) : repl [AV.int .i64 0] n = (List.replicate n (0 : Int)).flatMap Go.Eng.e1 := by
  induction n with
  | zero => rfl
  | succ n ih => rw [repl, ih, List.replicate_succ, List.flatMap_cons]; rfl

theorem s114 {r : Int} {y : AV} {A : AHeap} (hy : L1 A y [r]) (n : Nat) (hn : n ≤ 64) : ACalls Try.prog 114 [y, I n] A (.sl 1 A.length 0 n false) (A ++ [.cells true ((List.replicate n r).flatMap e1)]) := by
  refine acalls hmix Try.func114 (by kernel_rfl) t114 2 rfl (by decide) ?_
  have h0 : ¬ (n : Int) < 0 := by omega
  have hu1 : IntKind.u64.wrap ((1 : Nat) : Int) = 1 := by decide
  have hun := u64w (n : Int) (by omega) (by omega)
  have hbig : ¬ (9223372036854775807 : Int) < n := by omega
  have hn0 : (0 : Int) ≤ n := by omega
  have hnl : (n : Int) ≤ (lim : Int) := by simp [lim]; omega
  dsimp only [m114]
  simp (maxSteps := 4000000) -implicitDefEqProofs -dsimp (disch := omega) only [↓AW_skip, ↓AW_ops, ↓AW_seq, ↓AW_cond, ↓AOps_nil, ↓AOps_pu, ↓AOps_call, on_some, condB_f, ↓then_normal, pval, rd_S, rd_C, put_S, List.replicate_succ, List.replicate_zero, List.set_cons_zero, List.set_cons_succ, List.getElem?_cons_zero, List.getElem?_cons_succ, Option.getD_some, map_c, map_n, List.length_cons, List.length_nil, Nat.reduceSub, Nat.zero_add, List.cons_append, List.nil_append, bin_lss, decide_false, h0, hy.len, hu1, hun]
  refine CallK.of (s100 n hn A) ?_
  simp (maxSteps := 4000000) -implicitDefEqProofs -dsimp (disch := omega) only [↓AW_skip, ↓AW_ops, ↓AW_seq, ↓AW_cond, ↓AOps_nil, ↓AOps_pu, ↓AOps_ha, ↓AOps_guard, on_some, extK_app, extK_same, guardB_ff, condB_f, ↓then_normal, pval, hval_mks, hval_cpy, rd_S, rd_C, put_S, beq_self_eq_true, List.replicate_succ, List.replicate_zero, List.set_cons_zero, List.set_cons_succ, List.getElem?_cons_zero, List.getElem?_cons_succ, Option.getD_some, Nat.reduceSub, List.cons_append, List.nil_append, bin_gtr, w64, if_true, if_false, Bool.false_eq_true, decide_false, and_true, Int.reduceLT, hbig, hn0, hnl, Int.le_refl, Int.toNat_natCast]
  rw [repl_zero]
  have hmk := OL.new_mk e1_len A (List.replicate n (0 : Int)) true
  rw [List.length_replicate] at hmk
  have hc := OL_cpy hmk (hy.mono (pre_app A [.cells true ((List.replicate n (0 : Int)).flatMap Go.Eng.e1)])) 0 (by omega) true
  rw [Nat.zero_mul, Nat.sub_zero, List.length_replicate] at hc
  have hx0 : (List.replicate n (0 : Int)).take 0 ++ [r].take (min 1 n) ++ (List.replicate n (0 : Int)).drop (0 + min 1 n) = List.replicate (min 1 n) r ++ List.replicate (n - min 1 n) (0 : Int) := by
    cases n with
    | zero => rfl
    | succ n => simp [List.replicate_succ]
  have hOL := OL_setAll hmk (List.replicate (min 1 n) r ++ List.replicate (n - min 1 n) (0 : Int)) (by simp; omega)
  rw [show [r].length = 1 from rfl, hx0] at hc
  generalize hvv : AV.sl 1 A.length 0 n true = vv at *
  simp (maxSteps := 4000000) -implicitDefEqProofs -dsimp (disch := omega) only [↓AW_seq, ↓AW_block, ↓AOps_nil, ↓AOps_pu, on_some, extK_false, ↓then_normal, pval, rd_S, put_S, ↓AW_toLoop, List.replicate_succ, List.replicate_zero, List.set_cons_zero, List.set_cons_succ, List.getElem?_cons_zero, List.getElem?_cons_succ, Option.getD_some, Nat.reduceSub, List.cons_append, List.nil_append, hc]
  refine LoopK.by 48 (fun x : Nat × AHeap => x.1 ≤ n ∧ (1 ≤ x.1 ∨ n = 0) ∧ OL 1 e1 A x.2 A.length vv (List.replicate x.1 r ++ List.replicate (n - x.1) (0 : Int))) (fun x => [(7, vv), (8, I x.1)]) (fun x => x.2) (fun x => n - x.1) (min 1 n, _) ⟨by simp only; omega, by simp only; omega, hOL⟩ rfl (by simp [Has, rd_s]) rfl ?_
  rintro ⟨m, A1⟩ ⟨hm, hm1, ho⟩
  simp only at hm hm1 ho
  have hlen : lenA vv = some (I n) := by rw [← hvv]; rfl
  by_cases hlt : m < n
  · have hlt' : (m : Int) < n := by omega
    have hs1 : slcA 1 vv (some (I m)) none none = some (.sl 1 A.length (m * 1) (n - m) true) := by
      rw [← hvv]
      simp [slcA, bnd] <;> omega
    obtain ⟨v', hv', hL⟩ := Ls_takeS ho.ls m (by simp <;> omega)
    have hc2 := OL_cpy ho hL m (by simp <;> omega) true
    have hll : (List.replicate m r ++ List.replicate (n - m) (0 : Int)).length = n := by simp; omega
    have hlt2 : ((List.replicate m r ++ List.replicate (n - m) (0 : Int)).take m).length = m := by rw [List.length_take, hll]; omega
    rw [hll, hlt2, rep_step r _ hm] at hc2
    have hOL2 := OL_setAll ho (List.replicate (m + min m (n - m)) r ++ List.replicate (n - (m + min m (n - m))) (0 : Int)) (by simp; omega)
    simp (maxSteps := 4000000) -implicitDefEqProofs -dsimp (disch := omega) only [↓AW_skip, ↓AW_ops, ↓AW_seq, ↓AW_cond, ↓AW_block, ↓AOps_nil, ↓AOps_pu, ↓AOps_ha, on_some, extK_false, condB_t, ↓then_normal, ↓inBlock_normal, pval, hval_cpy, rd_S, put_S, eq_self, mk, List.foldl_cons, List.foldl_nil, List.replicate_succ, List.replicate_zero, List.set_cons_zero, List.set_cons_succ, List.getElem?_cons_zero, List.getElem?_cons_succ, Option.getD_some, Option.map_some, Option.map_none, List.length_cons, List.length_nil, Nat.reduceAdd, Nat.zero_add, bin_add, bin_lss, w64, decide_true, true_and, hlt', hlen, hs1, hv', hc2]
    refine ⟨(m + min m (n - m), _), ⟨by simp only; omega, by simp only; omega, hOL2⟩, by simp [Has, rd_s], rfl, by simp only; omega⟩
  · have hmn : m = n := by omega
    subst hmn
    rw [Nat.sub_self, List.replicate_zero, List.append_nil] at ho
    simp (maxSteps := 4000000) -implicitDefEqProofs -dsimp (disch := omega) only [↓AW_ops, ↓AW_seq, ↓AW_cond, ↓AW_exit, ↓AW_ret, ↓AOps_nil, ↓AOps_pu, on_some, condB_f, ↓then_normal, ↓then_exit, ↓inBlock_exit, ↓Fin_ret, pval, rd_S, put_S, resV, resL, eq_self, mk, List.foldl_cons, List.foldl_nil, List.replicate_succ, List.replicate_zero, List.set_cons_zero, List.set_cons_succ, List.getElem?_cons_zero, List.getElem?_cons_succ, Option.getD_some, bin_lss, if_true, decide_false, hlen, Int.lt_irrefl]
    have := OL_gcS ho flat_e1
    rwa [List.length_replicate] at this


theorem L1_one (A : AHeap) (x : Int) : L1 (A ++ [.cells true [I x]]) (.sl 1 A.length 0 1 true) [x] := ⟨e1_len, by simp [slCells, cellsAt, e1]⟩
theorem L1_two (A : AHeap) (x y : Int) : L1 (A ++ [.cells true [I x, I y]]) (.sl 1 A.length 0 2 true) [x, y] := ⟨e1_len, by simp [slCells, cellsAt, e1]⟩

theorem s83 {f : List (Int × Int)} {v : AV} {A : AHeap} (hf : L2 A v f) (h : good f) : ACalls Try.prog 83 [v] A (outV 1 A (units f).length) (outH A ((units f).flatMap e1) (units f).length) := by
  refine acalls hmix Try.func83 (by kernel_rfl) t83 1 rfl (by decide) ?_
  dsimp only [m83]
  simp (maxSteps := 4000000) -implicitDefEqProofs -dsimp (disch := omega) only [↓AW_ops, ↓AW_seq, ↓AW_block, ↓AOps_nil, ↓AOps_pu, on_some, ↓then_normal, pval, rd_S, rd_C, put_S, ↓AW_toLoop, List.replicate_succ, List.replicate_zero, List.set_cons_zero, List.set_cons_succ, List.getElem?_cons_zero, List.getElem?_cons_succ, Option.getD_some, Nat.reduceSub, List.cons_append, List.nil_append, hf.len]
  refine LoopK.by 22 (fun x : Nat × AV × AHeap => x.1 ≤ f.length ∧ AccL 1 e1 A x.2.2 x.2.1 (units (f.take x.1))) (fun x => [(3, x.2.1), (6, v), (7, I f.length), (8, I x.1)]) (fun x => x.2.2) (fun x => f.length - x.1) (0, .nilS, A) ⟨by omega, AccL.nil (List.prefix_refl _)⟩ rfl (by simp [Has, rd_s]) rfl ?_
  rintro ⟨i, u, A1⟩ ⟨hi, hu⟩
  simp only at hi hu
  have hl6 := h.1
  by_cases hlt : i < f.length
  · obtain ⟨z, hz⟩ : ∃ z, f[i]? = some z := ⟨_, List.getElem?_eq_getElem hlt⟩
    have hlt' : (i : Int) < f.length := by omega
    have hvz := (vz_iff z).1 (all_get h.2 hz)
    have hb := len_bound (good_take h i)
    have hb' := len_units (good_take h i).2
    have hf1 := hf.mono hu.pre
    obtain ⟨n, hn⟩ : ∃ n : Nat, z.1 = (n : Int) := ⟨z.1.toNat, by omega⟩
    simp (maxSteps := 4000000) -implicitDefEqProofs -dsimp (disch := omega) only [↓AW_skip, ↓AW_ops, ↓AW_seq, ↓AW_cond, ↓AW_block, ↓AOps_nil, ↓AOps_pu, ↓AOps_ld, ↓AOps_ha, ↓AOps_call, on_some, extK_app, condB_t, ↓then_normal, pval, lval, hval, rd_S, rd_C, put_S, chkd, isAdr, bput, bgot, AV.cells?, splice, partA, fillA, repl, eq_self, mk, List.foldl_cons, List.foldl_nil, List.replicate_succ, List.replicate_zero, List.set_cons_zero, List.set_cons_succ, List.getElem?_cons_zero, List.getElem?_cons_succ, List.drop_zero, List.drop_succ_cons, List.drop_nil, List.take_zero, List.take_succ_cons, List.take_nil, Option.getD_some, map_c, map_n, List.length_cons, List.length_nil, Nat.reduceAdd, Nat.reduceLeDiff, Nat.reduceEqDiff, Nat.zero_add, List.nil_append, List.append_nil, bin_lss, if_true, if_false, Bool.false_eq_true, decide_true, Go.Eng.e2, and_true, ne_eq, not_true_eq_false, hlt', hf1.idx hlt, hf1.ld0 hz 2 true (by decide), hn]
    have h114 := s114 (L1_one A1 z.2) n (by omega)
    refine CallK.of h114 ?_
    generalize hA2 : A1 ++ [AObj.cells true [I z.2]] = A2 at *
    have p12 : A1 <+: A2 := by rw [← hA2]; exact pre_app _ _
    have hO := (OL.new_mk e1_len A2 (List.replicate n z.2) false).ls
    rw [List.length_replicate] at hO
    have hu2 := hu.mono (p12.trans (pre_app A2 [.cells true ((List.replicate n z.2).flatMap Go.Eng.e1)]))
    obtain ⟨v3, A3, happ, h3⟩ := hu2.pushes hO (by simp [lim]; omega)
    simp (maxSteps := 4000000) -implicitDefEqProofs -dsimp (disch := omega) only [↓AW_ops, ↓AOps_nil, ↓AOps_pu, ↓AOps_ha, on_some, extK_false, extK_app, ↓then_normal, ↓inBlock_normal, pval, hval, rd_S, rd_C, put_S, eq_self, mk, List.foldl_cons, List.foldl_nil, List.replicate_succ, List.replicate_zero, List.set_cons_zero, List.set_cons_succ, List.getElem?_cons_zero, List.getElem?_cons_succ, Option.getD_some, List.length_cons, List.length_nil, Nat.reduceAdd, Nat.zero_add, bin_add, w64, true_and, happ]
    refine ⟨(i + 1, v3, A3), ⟨hlt, ?_⟩, by simp [Has, rd_s], rfl, by simp only; omega⟩
    simp only
    rw [units_take hz, hn]
    exact h3
  · have hlt' : ¬ ((i : Int) < f.length) := by omega
    simp (maxSteps := 4000000) -implicitDefEqProofs -dsimp (disch := omega) only [↓AW_ops, ↓AW_seq, ↓AW_cond, ↓AW_exit, ↓AW_ret, ↓AOps_nil, ↓AOps_pu, on_some, condB_f, ↓then_normal, ↓then_exit, ↓inBlock_exit, ↓Fin_ret, pval, rd_S, put_S, resV, resL, eq_self, mk, List.foldl_cons, List.foldl_nil, List.replicate_succ, List.replicate_zero, List.set_cons_zero, List.set_cons_succ, List.getElem?_cons_zero, List.getElem?_cons_succ, Option.getD_some, bin_lss, if_true, decide_false, hlt']
    rw [List.take_of_length_le (by omega)] at hu
    exact hu.gc flat_e1

theorem take_all2 {α : Type} {p : α → Prop} {l : List α} {i : Nat} {z : α} (h : ∀ y ∈ l.take i, p y) (hz : l[i]? = some z) (hp : p z) : ∀ y ∈ l.take (i + 1), p y := by
  intro y hy
  rw [List.take_add_one, hz] at hy
  rcases List.mem_append.1 hy with hy | hy
  · exact h y hy
  · have : y = z := by simpa using hy
    rw [this]; exact hp

def v2E (f g : List (Int × Int)) : Int := if vE f = 0 then vE g else vE f

def orL : List Int → Int
  | [] => 0
  | x :: r => if x = 0 then orL r else x
theorem orL_at : ∀ (xs : List Int) (i : Nat) (z : Int), (∀ y ∈ xs.take i, y = 0) → xs[i]? = some z → z ≠ 0 → orL xs = z
  | [], _, _, _, h, _ => by simp at h
  | x :: r, 0, z, _, h, hz => by
    have : x = z := by simpa using h
    rw [orL, if_neg (by rw [this]; exact hz), this]
  | x :: r, i + 1, z, ha, h, hz => by
    have hx : x = 0 := ha x (by simp)
    rw [orL, if_pos hx]
    exact orL_at r i z (fun y hy => ha y (by simp [hy])) (by simpa using h) hz
theorem orL_none : ∀ (xs : List Int), (∀ y ∈ xs, y = 0) → orL xs = 0
  | [], _ => rfl
  | x :: r, h => by
    rw [orL, if_pos (h x (by simp))]
    exact orL_none r (fun y hy => h y (by simp [hy]))

theorem s113 {xs : List Int} {v : AV} {A : AHeap} (hx : L1 A v xs) (hl : xs.length ≤ 1000) : ACalls Try.prog 113 [v] A (I (orL xs)) A := by
  refine acalls hmix Try.func113 (by kernel_rfl) t113 1 rfl (by decide) ?_
  dsimp only [m113]
  simp (maxSteps := 4000000) -implicitDefEqProofs -dsimp (disch := omega) only [↓AW_ops, ↓AW_seq, ↓AW_block, ↓AOps_nil, ↓AOps_pu, on_some, ↓then_normal, pval, rd_S, rd_C, put_S, ↓AW_toLoop, List.replicate_succ, List.replicate_zero, List.set_cons_zero, List.set_cons_succ, List.getElem?_cons_zero, List.getElem?_cons_succ, Option.getD_some, Nat.reduceSub, List.cons_append, List.nil_append, hx.len]
  refine LoopK.by 18 (fun i : Nat => i ≤ xs.length ∧ ∀ y ∈ xs.take i, y = 0) (fun i => [(3, I 0), (6, v), (7, I xs.length), (8, I i)]) (fun _ => A) (fun i => xs.length - i) 0 ⟨by omega, by simp⟩ rfl (by simp [Has, rd_s]) rfl ?_
  rintro i ⟨hi, h1⟩
  by_cases hlt : i < xs.length
  · obtain ⟨z, hz⟩ : ∃ z, xs[i]? = some z := ⟨_, List.getElem?_eq_getElem hlt⟩
    have hlt' : (i : Int) < xs.length := by omega
    by_cases h : z = 0
    · have h1' := take_all2 h1 hz h
      subst h
      simp (maxSteps := 4000000) -implicitDefEqProofs -dsimp (disch := omega) only [↓AW_skip, ↓AW_ops, ↓AW_seq, ↓AW_cond, ↓AW_block, ↓AOps_nil, ↓AOps_pu, ↓AOps_ld, on_some, condB_t, condB_f, ↓then_normal, ↓inBlock_normal, pval, lval, rd_S, rd_C, put_S, partA, eq_self, mk, List.foldl_cons, List.foldl_nil, List.replicate_succ, List.replicate_zero, List.set_cons_zero, List.set_cons_succ, List.getElem?_cons_zero, List.getElem?_cons_succ, List.drop_zero, List.take_succ_cons, List.take_nil, Option.getD_some, List.length_cons, List.length_nil, Nat.reduceAdd, Nat.reduceLeDiff, Nat.zero_add, bin_add, bin_neq, bin_lss, w64, if_true, if_false, Bool.false_eq_true, decide_true, decide_false, Go.Eng.e1, true_and, not_true_eq_false, hlt', hx.idx hlt, hx.ld0 hz 1 false (by decide)]
      exact ⟨i + 1, ⟨hlt, h1'⟩, by simp [Has, rd_s], by omega⟩
    · simp (maxSteps := 4000000) -implicitDefEqProofs -dsimp (disch := omega) only [↓AW_skip, ↓AW_ops, ↓AW_seq, ↓AW_cond, ↓AW_block, ↓AW_ret, ↓AOps_nil, ↓AOps_pu, ↓AOps_ld, on_some, condB_t, ↓then_normal, ↓then_ret, ↓inBlock_ret, ↓Fin_ret, pval, lval, rd_S, put_S, resV, resL, partA, eq_self, mk, List.foldl_cons, List.foldl_nil, List.replicate_succ, List.replicate_zero, List.set_cons_zero, List.set_cons_succ, List.getElem?_cons_zero, List.getElem?_cons_succ, List.drop_zero, List.take_succ_cons, List.take_nil, Option.getD_some, List.length_cons, List.length_nil, Nat.reduceLeDiff, Nat.zero_add, bin_neq, bin_lss, if_true, if_false, Bool.false_eq_true, decide_true, Go.Eng.e1, not_false_eq_true, hlt', hx.idx hlt, hx.ld0 hz 1 false (by decide), h]
      exact gc_same (by rw [orL_at xs i z h1 hz h])
  · have hlt' : ¬ ((i : Int) < xs.length) := by omega
    simp (maxSteps := 4000000) -implicitDefEqProofs -dsimp (disch := omega) only [↓AW_ops, ↓AW_seq, ↓AW_cond, ↓AW_exit, ↓AW_ret, ↓AOps_nil, ↓AOps_pu, on_some, condB_f, ↓then_normal, ↓then_exit, ↓inBlock_exit, ↓Fin_ret, pval, rd_S, put_S, resV, resL, eq_self, mk, List.foldl_cons, List.foldl_nil, List.replicate_succ, List.replicate_zero, List.set_cons_zero, List.set_cons_succ, List.getElem?_cons_zero, List.getElem?_cons_succ, Option.getD_some, bin_lss, if_true, decide_false, hlt']
    rw [List.take_of_length_le (by omega)] at h1
    exact gc_same (by rw [orL_none xs h1])

theorem s82 {f g : List (Int × Int)} {v u : AV} {A : AHeap} (hf : L2 A v f) (hg : L2 A u g) : ACalls Try.prog 82 [v, u] A (I (v2E f g)) A := by
  refine acalls hmix Try.func82 (by kernel_rfl) t82 2 rfl (by decide) ?_
  dsimp only [m82]
  simp (maxSteps := 4000000) -implicitDefEqProofs -dsimp (disch := omega) only [↓AW_ops, ↓AW_seq, ↓AOps_nil, ↓AOps_pu, ↓AOps_call, on_some, ↓then_normal, pval, rd_S, rd_C, put_S, List.replicate_succ, List.replicate_zero, List.set_cons_zero, List.set_cons_succ, List.getElem?_cons_zero, List.getElem?_cons_succ, Option.getD_some, map_c, map_n, Nat.reduceSub, List.cons_append, List.nil_append]
  refine CallK.of (s37 hf) ?_
  simp (maxSteps := 4000000) -implicitDefEqProofs -dsimp (disch := omega) only [↓AOps_pu, ↓AOps_call, on_some, extK_same, pval, rd_S, put_S, List.replicate_succ, List.replicate_zero, List.set_cons_zero, List.set_cons_succ, List.getElem?_cons_zero, List.getElem?_cons_succ, Option.getD_some, map_c, map_n, Nat.reduceSub, List.cons_append, List.nil_append]
  refine CallK.of (s37 hg) ?_
  simp (maxSteps := 4000000) -implicitDefEqProofs -dsimp (disch := omega) only [↓AOps_ha, ↓AOps_call, on_some, extK_app, extK_same, hval, rd_S, put_S, AV.cells?, splice, fillA, repl, eq_self, List.replicate_succ, List.replicate_zero, List.set_cons_zero, List.set_cons_succ, List.getElem?_cons_zero, List.getElem?_cons_succ, List.drop_zero, List.drop_succ_cons, List.drop_nil, List.take_zero, List.take_succ_cons, Option.getD_some, map_c, map_n, List.length_cons, List.length_nil, Nat.reduceAdd, Nat.reduceSub, Nat.reduceLeDiff, Nat.zero_add, List.cons_append, List.nil_append, List.append_nil, if_true, and_true]
  refine CallK.of (s113 (L1_two A (vE f) (vE g)) (by simp)) ?_
  simp (maxSteps := 4000000) -implicitDefEqProofs -dsimp (disch := omega) only [↓AW_ret, ↓AOps_nil, ↓AOps_pu, on_some, extK_same, ↓then_normal, ↓Fin_ret, pval, rd_S, put_S, resV, resL, List.replicate_succ, List.replicate_zero, List.set_cons_zero, List.set_cons_succ, List.getElem?_cons_zero, List.getElem?_cons_succ, Option.getD_some, Nat.reduceSub, List.cons_append, List.nil_append]
  refine gc_val (pre_app A _) ?_
  by_cases h0 : vE f = 0
  · by_cases h1 : vE g = 0 <;> simp [orL, v2E, h0, h1, ren]
  · simp [orL, v2E, h0, ren]

theorem s84 {f g : List (Int × Int)} {v u : AV} {A : AHeap} (hf : L2 A v f) (hg : L2 A u g) : ACalls Try.prog 84 [v, u] A (I (v2E f g)) A := by
  refine acalls hmix Try.func84 (by kernel_rfl) t84 2 rfl (by decide) ?_
  dsimp only [m84]
  simp (maxSteps := 4000000) -implicitDefEqProofs -dsimp (disch := omega) only [↓AW_ops, ↓AW_seq, ↓AOps_nil, ↓AOps_pu, ↓AOps_call, on_some, ↓then_normal, pval, rd_S, rd_C, put_S, List.replicate_succ, List.replicate_zero, List.set_cons_zero, List.set_cons_succ, List.getElem?_cons_zero, List.getElem?_cons_succ, Option.getD_some, map_c, map_n, Nat.reduceSub, List.cons_append, List.nil_append]
  refine CallK.of (s38 hf) ?_
  by_cases h0 : vE f = 0
  · simp (maxSteps := 4000000) -implicitDefEqProofs -dsimp (disch := omega) only [↓AW_skip, ↓AW_ops, ↓AW_seq, ↓AW_cond, ↓AOps_nil, ↓AOps_pu, ↓AOps_call, on_some, extK_same, condB_f, ↓then_normal, pval, rd_S, rd_C, put_S, eq_self, List.replicate_succ, List.replicate_zero, List.set_cons_zero, List.set_cons_succ, List.getElem?_cons_zero, List.getElem?_cons_succ, Option.getD_some, map_c, map_n, Nat.reduceSub, List.cons_append, List.nil_append, bin_neq, decide_false, not_true_eq_false, h0]
    refine CallK.of (s38 hg) ?_
    simp (maxSteps := 4000000) -implicitDefEqProofs -dsimp (disch := omega) only [↓AW_ret, ↓AOps_nil, ↓AOps_pu, on_some, extK_same, ↓then_normal, ↓Fin_ret, pval, rd_S, put_S, resV, resL, List.replicate_succ, List.replicate_zero, List.set_cons_zero, List.set_cons_succ, List.getElem?_cons_zero, List.getElem?_cons_succ, Option.getD_some, Nat.reduceSub, List.cons_append, List.nil_append]
    exact gc_same (by simp [v2E, h0])
  · simp (maxSteps := 4000000) -implicitDefEqProofs -dsimp (disch := omega) only [↓AW_ops, ↓AW_seq, ↓AW_cond, ↓AW_ret, ↓AOps_nil, ↓AOps_pu, on_some, extK_same, condB_t, ↓then_normal, ↓then_ret, ↓Fin_ret, pval, rd_S, rd_C, put_S, resV, resL, List.replicate_succ, List.replicate_zero, List.set_cons_zero, List.set_cons_succ, List.getElem?_cons_zero, List.getElem?_cons_succ, Option.getD_some, Nat.reduceSub, List.cons_append, List.nil_append, bin_neq, decide_true, not_false_eq_true, h0]
    exact gc_same (by simp [v2E, h0])

theorem v2E_0 {f g : List (Int × Int)} (h : v2E f g = 0) : vE f = 0 ∧ vE g = 0 := by
  unfold v2E at h
  split at h
  · exact ⟨by assumption, h⟩
  · rename_i h1; exact absurd h h1

/-- Which field is better. -/
def bt (f g : List (Int × Int)) : Prop := ∀ p ∈ (units f).zip (units g), p.2 ≤ p.1
instance (f g : List (Int × Int)) : Decidable (bt f g) := by unfold bt; exact inferInstance
def btE (f g : List (Int × Int)) : Int := if v2E f g = 0 then (if len f = len g then 0 else 5) else v2E f g

theorem zip_at {a b : List Int} {i : Nat} {x y : Int} (h : a[i]? = some x) (k : b[i]? = some y) : (a.zip b)[i]? = some (x, y) := by
  rw [List.getElem?_zip_eq_some]
  exact ⟨h, k⟩

theorem s44 {f g : List (Int × Int)} {v u : AV} {A : AHeap} (hf : L2 A v f) (hg : L2 A u g) : ACalls Try.prog 44 [v, u] A (.tuple [B (decide (btE f g = 0 ∧ bt f g)), I (btE f g)]) A := by
  refine acalls hmix Try.func44 (by kernel_rfl) t44 2 rfl (by decide) ?_
  dsimp only [m44]
  simp (maxSteps := 4000000) -implicitDefEqProofs -dsimp (disch := omega) only [↓AW_ops, ↓AW_seq, ↓AOps_nil, ↓AOps_pu, ↓AOps_call, on_some, ↓then_normal, pval, rd_S, rd_C, put_S, List.replicate_succ, List.replicate_zero, List.set_cons_zero, List.set_cons_succ, List.getElem?_cons_zero, List.getElem?_cons_succ, Option.getD_some, map_c, map_n, Nat.reduceSub, List.cons_append, List.nil_append]
  refine CallK.of (s82 hf hg) ?_
  by_cases h0 : v2E f g = 0
  · obtain ⟨hvf, hvg⟩ := v2E_0 h0
    have hgf := (good_of hvf).1
    have hgg := (good_of hvg).1
    have hlf := len_units hgf.2
    have hlg := len_units hgg.2
    have hbf := len_bound hgf
    simp (maxSteps := 4000000) -implicitDefEqProofs -dsimp (disch := omega) only [↓AW_skip, ↓AW_ops, ↓AW_seq, ↓AW_cond, ↓AOps_nil, ↓AOps_pu, ↓AOps_call, on_some, extK_same, condB_f, ↓then_normal, pval, rd_S, rd_C, put_S, eq_self, List.replicate_succ, List.replicate_zero, List.set_cons_zero, List.set_cons_succ, List.getElem?_cons_zero, List.getElem?_cons_succ, Option.getD_some, map_c, map_n, Nat.reduceSub, List.cons_append, List.nil_append, bin_neq, decide_false, not_true_eq_false, h0]
    refine CallK.of (s77 hf hgf) ?_
    simp (maxSteps := 4000000) -implicitDefEqProofs -dsimp (disch := omega) only [↓AOps_pu, ↓AOps_call, on_some, extK_same, pval, rd_S, put_S, List.replicate_succ, List.replicate_zero, List.set_cons_zero, List.set_cons_succ, List.getElem?_cons_zero, List.getElem?_cons_succ, Option.getD_some, map_c, map_n, Nat.reduceSub, List.cons_append, List.nil_append]
    refine CallK.of (s77 hg hgg) ?_
    by_cases h1 : len f = len g
    · have hE : btE f g = 0 := by simp [btE, h0, h1]
      simp (maxSteps := 4000000) -implicitDefEqProofs -dsimp (disch := omega) only [↓AW_skip, ↓AW_ops, ↓AW_seq, ↓AW_cond, ↓AOps_nil, ↓AOps_pu, ↓AOps_call, on_some, extK_same, condB_f, ↓then_normal, pval, rd_S, put_S, eq_self, List.replicate_succ, List.replicate_zero, List.set_cons_zero, List.set_cons_succ, List.getElem?_cons_zero, List.getElem?_cons_succ, Option.getD_some, map_c, map_n, Nat.reduceSub, List.cons_append, List.nil_append, bin_neq, decide_false, not_true_eq_false, h1]
      refine CallK.of (s83 hg hgg) ?_
      have p1 := pre_out A ((units g).flatMap Go.Eng.e1) (units g).length
      have hL1 := Ls_out A e1_len (units g)
      generalize outH A ((units g).flatMap Go.Eng.e1) (units g).length = A1 at *
      generalize outV 1 A (units g).length = y1 at *
      simp (maxSteps := 4000000) -implicitDefEqProofs -dsimp (disch := omega) only [↓AW_ops, ↓AW_seq, ↓AOps_nil, ↓AOps_pu, ↓AOps_call, on_some, extK_false, ↓then_normal, pval, rd_S, put_S, List.replicate_succ, List.replicate_zero, List.set_cons_zero, List.set_cons_succ, List.getElem?_cons_zero, List.getElem?_cons_succ, Option.getD_some, map_c, map_n, Nat.reduceSub, List.cons_append, List.nil_append]
      refine CallK.of (s83 (hf.mono p1) hgf) ?_
      have p2 := pre_out A1 ((units f).flatMap Go.Eng.e1) (units f).length
      have hL2 := Ls_out A1 e1_len (units f)
      generalize outH A1 ((units f).flatMap Go.Eng.e1) (units f).length = A2 at *
      generalize outV 1 A1 (units f).length = y2 at *
      have hL := hL1.mono p2
      simp (maxSteps := 4000000) -implicitDefEqProofs -dsimp (disch := omega) only [↓AW_block, ↓AOps_nil, ↓AOps_pu, on_some, extK_false, ↓then_normal, pval, rd_S, rd_C, put_S, ↓AW_toLoop, List.replicate_succ, List.replicate_zero, List.set_cons_zero, List.set_cons_succ, List.getElem?_cons_zero, List.getElem?_cons_succ, Option.getD_some, Nat.reduceSub, List.cons_append, List.nil_append, hL2.len]
      refine LoopK.by 38 (fun i : Nat => i ≤ (units f).length ∧ ∀ p ∈ ((units f).zip (units g)).take i, p.2 ≤ p.1) (fun i => [(7, y1), (24, y2), (25, I (units f).length), (26, I i)]) (fun _ => A2) (fun i => (units f).length - i) 0 ⟨by omega, by simp⟩ rfl (by simp [Has, rd_s]) rfl ?_
      rintro i ⟨hi, he⟩
      by_cases hlt : i < (units f).length
      · obtain ⟨z, hz⟩ : ∃ z, (units f)[i]? = some z := ⟨_, List.getElem?_eq_getElem hlt⟩
        have hlt' : (i : Int) < (units f).length := by omega
        have hlt2 : i < (units g).length := by omega
        obtain ⟨w, hw⟩ : ∃ w, (units g)[i]? = some w := ⟨_, List.getElem?_eq_getElem hlt2⟩
        have hzw := zip_at hz hw
        by_cases h2 : z < w
        · simp (maxSteps := 4000000) -implicitDefEqProofs -dsimp (disch := omega) only [↓AW_skip, ↓AW_ops, ↓AW_seq, ↓AW_cond, ↓AW_block, ↓AW_ret, ↓AOps_nil, ↓AOps_pu, ↓AOps_ld, on_some, condB_t, ↓then_normal, ↓then_ret, ↓inBlock_ret, ↓Fin_ret, pval, lval, rd_S, rd_C, put_S, resV, resL, partA, eq_self, mk, List.foldl_cons, List.foldl_nil, List.replicate_succ, List.replicate_zero, List.set_cons_zero, List.set_cons_succ, List.getElem?_cons_zero, List.getElem?_cons_succ, List.drop_zero, List.take_succ_cons, List.take_nil, Option.getD_some, List.length_cons, List.length_nil, Nat.reduceLeDiff, Nat.zero_add, bin_lss, if_true, if_false, Bool.false_eq_true, decide_true, Go.Eng.e1, hlt', hL2.idx hlt, hL2.ld0 hz 1 false (by decide), hL.idx hlt2, hL.ld0 hw 1 false (by decide), h2]
          have hb : ¬ bt f g := fun h => by have := h _ (List.mem_of_getElem? hzw); simp only at this; omega
          exact gc_val (p1.trans p2) (by simp [hE, hb, ren])
        · simp (maxSteps := 4000000) -implicitDefEqProofs -dsimp (disch := omega) only [↓AW_skip, ↓AW_ops, ↓AW_seq, ↓AW_cond, ↓AW_block, ↓AOps_nil, ↓AOps_pu, ↓AOps_ld, on_some, condB_t, condB_f, ↓then_normal, ↓inBlock_normal, pval, lval, rd_S, rd_C, put_S, partA, eq_self, mk, List.foldl_cons, List.foldl_nil, List.replicate_succ, List.replicate_zero, List.set_cons_zero, List.set_cons_succ, List.getElem?_cons_zero, List.getElem?_cons_succ, List.drop_zero, List.take_succ_cons, List.take_nil, Option.getD_some, List.length_cons, List.length_nil, Nat.reduceAdd, Nat.reduceLeDiff, Nat.zero_add, bin_add, bin_lss, w64, if_true, if_false, Bool.false_eq_true, decide_true, decide_false, Go.Eng.e1, true_and, hlt', hL2.idx hlt, hL2.ld0 hz 1 false (by decide), hL.idx hlt2, hL.ld0 hw 1 false (by decide), h2]
          exact ⟨i + 1, ⟨hlt, take_all2 he hzw (by simp only; omega)⟩, by simp [Has, rd_s], by omega⟩
      · have hlt' : ¬ ((i : Int) < (units f).length) := by omega
        simp (maxSteps := 4000000) -implicitDefEqProofs -dsimp (disch := omega) only [↓AW_ops, ↓AW_seq, ↓AW_cond, ↓AW_exit, ↓AW_ret, ↓AOps_nil, ↓AOps_pu, on_some, condB_f, ↓then_normal, ↓then_exit, ↓inBlock_exit, ↓Fin_ret, pval, rd_S, rd_C, put_S, resV, resL, eq_self, mk, List.foldl_cons, List.foldl_nil, List.replicate_succ, List.replicate_zero, List.set_cons_zero, List.set_cons_succ, List.getElem?_cons_zero, List.getElem?_cons_succ, Option.getD_some, bin_lss, if_true, decide_false, hlt']
        rw [List.take_of_length_le (by rw [List.length_zip]; omega)] at he
        have hb : bt f g := he
        exact gc_val (p1.trans p2) (by simp [hE, hb, ren])
    · have hE : btE f g = 5 := by simp [btE, h0, h1]
      simp (maxSteps := 4000000) -implicitDefEqProofs -dsimp (disch := omega) only [↓AW_ops, ↓AW_seq, ↓AW_cond, ↓AW_ret, ↓AOps_nil, ↓AOps_pu, on_some, extK_same, condB_t, ↓then_normal, ↓then_ret, ↓Fin_ret, pval, rd_S, rd_C, put_S, resV, resL, List.replicate_succ, List.replicate_zero, List.set_cons_zero, List.set_cons_succ, List.getElem?_cons_zero, List.getElem?_cons_succ, Option.getD_some, Nat.reduceSub, List.cons_append, List.nil_append, bin_neq, decide_true, not_false_eq_true, h1]
      exact gc_same (by simp [hE])
  · have hE : btE f g = v2E f g := by simp [btE, h0]
    simp (maxSteps := 4000000) -implicitDefEqProofs -dsimp (disch := omega) only [↓AW_ops, ↓AW_seq, ↓AW_cond, ↓AW_ret, ↓AOps_nil, ↓AOps_pu, on_some, extK_same, condB_t, ↓then_normal, ↓then_ret, ↓Fin_ret, pval, rd_S, rd_C, put_S, resV, resL, List.replicate_succ, List.replicate_zero, List.set_cons_zero, List.set_cons_succ, List.getElem?_cons_zero, List.getElem?_cons_succ, Option.getD_some, Nat.reduceSub, List.cons_append, List.nil_append, bin_neq, decide_true, not_false_eq_true, h0]
    exact gc_same (by simp [hE, h0])

theorem s45 {f g : List (Int × Int)} {v u : AV} {A : AHeap} (hf : L2 A v f) (hg : L2 A u g) : ACalls Try.prog 45 [v, u] A (.tuple [B (decide (btE f g = 0 ∧ bt f g)), I (btE f g)]) A := by
  refine acalls hmix Try.func45 (by kernel_rfl) t45 2 rfl (by decide) ?_
  dsimp only [m45]
  simp (maxSteps := 4000000) -implicitDefEqProofs -dsimp (disch := omega) only [↓AW_ops, ↓AW_seq, ↓AOps_nil, ↓AOps_pu, ↓AOps_call, on_some, ↓then_normal, pval, rd_S, rd_C, put_S, List.replicate_succ, List.replicate_zero, List.set_cons_zero, List.set_cons_succ, List.getElem?_cons_zero, List.getElem?_cons_succ, Option.getD_some, map_c, map_n, Nat.reduceSub, List.cons_append, List.nil_append]
  refine CallK.of (s84 hf hg) ?_
  by_cases h0 : v2E f g = 0
  · obtain ⟨hvf, hvg⟩ := v2E_0 h0
    have hgf := (good_of hvf).1
    have hgg := (good_of hvg).1
    have hlf := len_units hgf.2
    have hlg := len_units hgg.2
    have hbf := len_bound hgf
    simp (maxSteps := 4000000) -implicitDefEqProofs -dsimp (disch := omega) only [↓AW_skip, ↓AW_ops, ↓AW_seq, ↓AW_cond, ↓AOps_nil, ↓AOps_pu, ↓AOps_call, on_some, extK_same, condB_f, ↓then_normal, pval, rd_S, rd_C, put_S, eq_self, List.replicate_succ, List.replicate_zero, List.set_cons_zero, List.set_cons_succ, List.getElem?_cons_zero, List.getElem?_cons_succ, Option.getD_some, map_c, map_n, Nat.reduceSub, List.cons_append, List.nil_append, bin_neq, decide_false, not_true_eq_false, h0]
    refine CallK.of (s68 hf hgf) ?_
    have p1 := pre_out A ((units f).flatMap Go.Eng.e1) (units f).length
    have hL1 := Ls_out A e1_len (units f)
    generalize outH A ((units f).flatMap Go.Eng.e1) (units f).length = A1 at *
    generalize outV 1 A (units f).length = y1 at *
    simp (maxSteps := 4000000) -implicitDefEqProofs -dsimp (disch := omega) only [↓AOps_pu, ↓AOps_call, on_some, extK_false, pval, rd_S, put_S, List.replicate_succ, List.replicate_zero, List.set_cons_zero, List.set_cons_succ, List.getElem?_cons_zero, List.getElem?_cons_succ, Option.getD_some, map_c, map_n, Nat.reduceSub, List.cons_append, List.nil_append]
    refine CallK.of (s68 (hg.mono p1) hgg) ?_
    have p2 := pre_out A1 ((units g).flatMap Go.Eng.e1) (units g).length
    have hL2 := Ls_out A1 e1_len (units g)
    generalize outH A1 ((units g).flatMap Go.Eng.e1) (units g).length = A2 at *
    generalize outV 1 A1 (units g).length = y2 at *
    have hL := hL1.mono p2
    by_cases h1 : len f = len g
    · have hE : btE f g = 0 := by simp [btE, h0, h1]
      have h1' : ((units f).length : Int) = (units g).length := by omega
      simp (maxSteps := 4000000) -implicitDefEqProofs -dsimp (disch := omega) only [↓AW_skip, ↓AW_ops, ↓AW_seq, ↓AW_cond, ↓AW_block, ↓AOps_nil, ↓AOps_pu, on_some, extK_false, condB_f, ↓then_normal, pval, rd_S, rd_C, put_S, ↓AW_toLoop, eq_self, List.replicate_succ, List.replicate_zero, List.set_cons_zero, List.set_cons_succ, List.getElem?_cons_zero, List.getElem?_cons_succ, Option.getD_some, Nat.reduceSub, List.cons_append, List.nil_append, bin_neq, decide_false, not_true_eq_false, hL.len, hL2.len, h1']
      refine LoopK.by 40 (fun i : Nat => i ≤ (units f).length ∧ ∀ p ∈ ((units f).zip (units g)).take i, p.2 ≤ p.1) (fun i => [(7, y1), (8, y2), (9, I i)]) (fun _ => A2) (fun i => (units f).length - i) 0 ⟨by omega, by simp⟩ rfl (by simp [Has, rd_s]) rfl ?_
      rintro i ⟨hi, he⟩
      by_cases hlt : i < (units f).length
      · obtain ⟨z, hz⟩ : ∃ z, (units f)[i]? = some z := ⟨_, List.getElem?_eq_getElem hlt⟩
        have hlt' : (i : Int) < (units f).length := by omega
        have hlt2 : i < (units g).length := by omega
        obtain ⟨w, hw⟩ : ∃ w, (units g)[i]? = some w := ⟨_, List.getElem?_eq_getElem hlt2⟩
        have hzw := zip_at hz hw
        by_cases h2 : z < w
        · simp (maxSteps := 4000000) -implicitDefEqProofs -dsimp (disch := omega) only [↓AW_skip, ↓AW_ops, ↓AW_seq, ↓AW_cond, ↓AW_block, ↓AW_ret, ↓AOps_nil, ↓AOps_pu, ↓AOps_ld, on_some, condB_t, ↓then_normal, ↓then_ret, ↓inBlock_ret, ↓Fin_ret, pval, lval, rd_S, rd_C, put_S, resV, resL, partA, eq_self, mk, List.foldl_cons, List.foldl_nil, List.replicate_succ, List.replicate_zero, List.set_cons_zero, List.set_cons_succ, List.getElem?_cons_zero, List.getElem?_cons_succ, List.drop_zero, List.take_succ_cons, List.take_nil, Option.getD_some, List.length_cons, List.length_nil, Nat.reduceLeDiff, Nat.zero_add, bin_lss, if_true, if_false, Bool.false_eq_true, decide_true, Go.Eng.e1, hlt', hL.len, hL.idx hlt, hL.ld0 hz 1 false (by decide), hL2.idx hlt2, hL2.ld0 hw 1 false (by decide), h2]
          have hb : ¬ bt f g := fun h => by have := h _ (List.mem_of_getElem? hzw); simp only at this; omega
          exact gc_val (p1.trans p2) (by simp [hE, hb, ren])
        · simp (maxSteps := 4000000) -implicitDefEqProofs -dsimp (disch := omega) only [↓AW_skip, ↓AW_ops, ↓AW_seq, ↓AW_cond, ↓AW_block, ↓AOps_nil, ↓AOps_pu, ↓AOps_ld, on_some, condB_t, condB_f, ↓then_normal, ↓inBlock_normal, pval, lval, rd_S, rd_C, put_S, partA, eq_self, mk, List.foldl_cons, List.foldl_nil, List.replicate_succ, List.replicate_zero, List.set_cons_zero, List.set_cons_succ, List.getElem?_cons_zero, List.getElem?_cons_succ, List.drop_zero, List.take_succ_cons, List.take_nil, Option.getD_some, List.length_cons, List.length_nil, Nat.reduceAdd, Nat.reduceLeDiff, Nat.zero_add, bin_add, bin_lss, w64, if_true, if_false, Bool.false_eq_true, decide_true, decide_false, Go.Eng.e1, true_and, hlt', hL.len, hL.idx hlt, hL.ld0 hz 1 false (by decide), hL2.idx hlt2, hL2.ld0 hw 1 false (by decide), h2]
          exact ⟨i + 1, ⟨hlt, take_all2 he hzw (by simp only; omega)⟩, by simp [Has, rd_s], by omega⟩
      · have hlt' : ¬ ((i : Int) < (units f).length) := by omega
        simp (maxSteps := 4000000) -implicitDefEqProofs -dsimp (disch := omega) only [↓AW_ops, ↓AW_seq, ↓AW_cond, ↓AW_exit, ↓AW_ret, ↓AOps_nil, ↓AOps_pu, on_some, condB_f, ↓then_normal, ↓then_exit, ↓inBlock_exit, ↓Fin_ret, pval, rd_S, rd_C, put_S, resV, resL, eq_self, mk, List.foldl_cons, List.foldl_nil, List.replicate_succ, List.replicate_zero, List.set_cons_zero, List.set_cons_succ, List.getElem?_cons_zero, List.getElem?_cons_succ, Option.getD_some, bin_lss, if_true, decide_false, hlt', hL.len]
        rw [List.take_of_length_le (by rw [List.length_zip]; omega)] at he
        have hb : bt f g := he
        exact gc_val (p1.trans p2) (by simp [hE, hb, ren])
    · have hE : btE f g = 5 := by simp [btE, h0, h1]
      have h1' : ¬ ((units f).length : Int) = (units g).length := by omega
      simp (maxSteps := 4000000) -implicitDefEqProofs -dsimp (disch := omega) only [↓AW_ops, ↓AW_seq, ↓AW_cond, ↓AW_ret, ↓AOps_nil, ↓AOps_pu, on_some, extK_false, condB_t, ↓then_normal, ↓then_ret, ↓Fin_ret, pval, rd_S, rd_C, put_S, resV, resL, List.replicate_succ, List.replicate_zero, List.set_cons_zero, List.set_cons_succ, List.getElem?_cons_zero, List.getElem?_cons_succ, Option.getD_some, Nat.reduceSub, List.cons_append, List.nil_append, bin_neq, decide_true, not_false_eq_true, hL.len, hL2.len, h1']
      exact gc_val (p1.trans p2) (by simp [hE, ren])
  · have hE : btE f g = v2E f g := by simp [btE, h0]
    simp (maxSteps := 4000000) -implicitDefEqProofs -dsimp (disch := omega) only [↓AW_ops, ↓AW_seq, ↓AW_cond, ↓AW_ret, ↓AOps_nil, ↓AOps_pu, on_some, extK_same, condB_t, ↓then_normal, ↓then_ret, ↓Fin_ret, pval, rd_S, rd_C, put_S, resV, resL, List.replicate_succ, List.replicate_zero, List.set_cons_zero, List.set_cons_succ, List.getElem?_cons_zero, List.getElem?_cons_succ, Option.getD_some, Nat.reduceSub, List.cons_append, List.nil_append, bin_neq, decide_true, not_false_eq_true, h0]
    exact gc_same (by simp [hE, h0])

/-- A better field is worth no less. -/
theorem better_le {p q : Rat} (h : p ≤ q) : ∀ (us ws : List Int) (b : Int), us.length = ws.length → (∀ x ∈ us.zip ws, x.2 ≤ x.1) → upToU b ws q - upToU b ws p ≤ upToU b us q - upToU b us p
  | [], [], b, _, _ => Rat.le_refl
  | u :: us, w :: ws, b, hl, hx => by
    have ih := better_le h us ws (b + 1) (by simpa using hl) (fun x hx' => hx x (by simp [hx']))
    have h1 := hx (u, w) (by simp)
    simp only at h1
    have h2 : (w : Rat) ≤ (u : Rat) := Rat.intCast_le_intCast.2 h1
    have hc := clamp_mono h (show (b : Rat) ≤ ((b + 1 : Int) : Rat) from Rat.intCast_le_intCast.2 (by omega))
    have h3 := Rat.mul_le_mul_of_nonneg_left h2 (show 0 ≤ clamp q (b : Rat) ((b + 1 : Int) : Rat) - clamp p (b : Rat) ((b + 1 : Int) : Rat) by grind)
    simp only [upToU]
    grind
  | [], _ :: _, _, hl, _ => by simp at hl
  | _ :: _, [], _, hl, _ => by simp at hl

set_option maxRecDepth 100000 in
set_option maxHeartbeats 4000000 in
theorem s10 {f g : List (Int × Int)} {v u : AV} {A : AHeap} (hf : L2 A v f) (hg : L2 A u g) (a b c d : Int) (ha : W a) (hc : W c) : ACalls Try.prog 10 [v, u, .agg [I a, I b, I c, I d]] A (B true) A := by
  refine acalls hmix Try.func10 (by kernel_rfl) t10 3 rfl (by decide) ?_
  dsimp only [m10]
  simp (maxSteps := 4000000) -implicitDefEqProofs -dsimp (disch := omega) only [↓AW_ops, ↓AW_seq, ↓AOps_nil, ↓AOps_pu, ↓AOps_call, on_some, ↓then_normal, pval, rd_S, rd_C, put_S, AV.cells?, List.replicate_succ, List.replicate_zero, List.set_cons_zero, List.set_cons_succ, List.getElem?_cons_zero, List.getElem?_cons_succ, Option.getD_some, map_c, map_n, Nat.reduceSub, List.cons_append, List.nil_append]
  refine CallK.of (s18 hf hg) ?_
  by_cases h : (100 : Int) < f.length ∨ (100 : Int) < g.length
  · simp (maxSteps := 4000000) -implicitDefEqProofs -dsimp (disch := omega) only [↓AW_ops, ↓AW_seq, ↓AW_cond, ↓AOps_nil, ↓AOps_call, extK_same, condB_t, ↓then_normal, rd_S, put_S, List.replicate_succ, List.replicate_zero, List.set_cons_zero, List.set_cons_succ, List.getElem?_cons_zero, List.getElem?_cons_succ, Option.getD_some, map_n, Nat.reduceSub, List.cons_append, List.nil_append, decide_true, h]
    refine CallK.of (known A) ?_
    simp (maxSteps := 4000000) -implicitDefEqProofs -dsimp (disch := omega) only [↓AW_ret, ↓AOps_nil, ↓AOps_pu, on_some, extK_same, ↓then_normal, ↓then_ret, ↓Fin_ret, pval, rd_S, put_S, resV, resL, List.replicate_succ, List.replicate_zero, List.set_cons_zero, List.set_cons_succ, List.getElem?_cons_zero, List.getElem?_cons_succ, Option.getD_some, Nat.reduceSub, List.cons_append, List.nil_append]
    exact gc_same rfl
  · simp (maxSteps := 4000000) -implicitDefEqProofs -dsimp (disch := omega) only [↓AW_skip, ↓AW_ops, ↓AW_seq, ↓AW_cond, ↓AOps_nil, ↓AOps_pu, ↓AOps_call, on_some, extK_same, condB_f, ↓then_normal, pval, rd_S, put_S, List.replicate_succ, List.replicate_zero, List.set_cons_zero, List.set_cons_succ, List.getElem?_cons_zero, List.getElem?_cons_succ, Option.getD_some, map_c, map_n, Nat.reduceSub, List.cons_append, List.nil_append, decide_false, h]
    refine CallK.of (s44 hf hg) ?_
    simp (maxSteps := 4000000) -implicitDefEqProofs -dsimp (disch := omega) only [↓AW_ops, ↓AW_seq, ↓AOps_nil, ↓AOps_pu, ↓AOps_call, on_some, extK_same, ↓then_normal, pval, rd_S, put_S, List.replicate_succ, List.replicate_zero, List.set_cons_zero, List.set_cons_succ, List.getElem?_cons_zero, List.getElem?_cons_succ, Option.getD_some, map_c, map_n, Nat.reduceSub, List.cons_append, List.nil_append]
    refine CallK.of (s45 hf hg) ?_
    simp (maxSteps := 4000000) -implicitDefEqProofs -dsimp (disch := omega) only [↓AW_skip, ↓AW_ops, ↓AW_seq, ↓AW_cond, ↓AOps_nil, ↓AOps_pu, ↓AOps_call, ↓AOps_guard, on_some, extK_same, guardB_ff, condB_f, ↓then_normal, pval, rd_S, rd_C, put_S, chkd, isAdr, bgot, AV.cells?, partA, beq_self_eq_true, eq_self, List.replicate_succ, List.replicate_zero, List.set_cons_zero, List.set_cons_succ, List.getElem?_cons_zero, List.getElem?_cons_succ, List.drop_zero, List.drop_succ_cons, List.take_zero, List.take_succ_cons, List.take_nil, Option.getD_some, map_c, map_n, List.length_cons, List.length_nil, Nat.reduceAdd, Nat.reduceSub, Nat.reduceLeDiff, Nat.reduceEqDiff, Nat.zero_add, List.cons_append, List.nil_append, bin_neq, if_true, if_false, Bool.false_eq_true, Bool.not_true, decide_false, not_true_eq_false, beq_self_eq_true]
    obtain ⟨x1, x2, hm1⟩ := wV_agg f (a, b) (c, d)
    obtain ⟨x3, x4, hm2⟩ := wV_agg g (a, b) (c, d)
    refine CallK.of (s25 hf (a, b) (c, d) ha hc) ?_
    by_cases hb : btE f g = 0 ∧ bt f g
    · by_cases hw : wE f (a, b) (c, d) = 0
      · obtain ⟨w0, w1, w2, w3⟩ := wE_0 hw
        have hv2 : v2E f g = 0 := by
          have := hb.1
          unfold btE at this
          split at this
          · assumption
          · exact this
        have hll : len f = len g := by
          have := hb.1
          unfold btE at this
          rw [if_pos hv2] at this
          split at this
          · assumption
          · cases this
        obtain ⟨hvf, hvg⟩ := v2E_0 hv2
        have hgf := (good_of hvf).1
        have hgg := (good_of hvg).1
        have hlf := len_units hgf.2
        have hlg := len_units hgg.2
        have hwg : wE g (a, b) (c, d) = 0 := wE_ok hvg ⟨w1.1, by rw [← hll]; exact w1.2⟩ ⟨w2.1, by rw [← hll]; exact w2.2⟩ w3
        obtain ⟨p, e1', e2', e3', e4'⟩ := wV_num hw
        obtain ⟨q, e5', e6', e7', e8'⟩ := wV_num hwg
        have hle : q ≤ p := by
          rw [e2', e6', ← upTo_units _ f 0 hgf.2, ← upTo_units _ f 0 hgf.2, ← upTo_units _ g 0 hgg.2, ← upTo_units _ g 0 hgg.2]
          exact better_le w3 (units f) (units g) 0 (by omega) hb.2
        have hnl := Rat.not_lt.2 hle
        rw [e1']
        simp (maxSteps := 4000000) -implicitDefEqProofs -dsimp (disch := omega) only [↓AW_ops, ↓AW_seq, ↓AOps_nil, ↓AOps_pu, ↓AOps_call, on_some, extK_same, ↓then_normal, pval, rd_S, rd_C, put_S, chkd, isAdr, bput, bgot, AV.cells?, splice, partA, eq_self, List.replicate_succ, List.replicate_zero, List.set_cons_zero, List.set_cons_succ, List.getElem?_cons_zero, List.getElem?_cons_succ, List.drop_zero, List.drop_succ_cons, List.drop_nil, List.take_zero, List.take_succ_cons, List.take_nil, Option.getD_some, map_c, map_n, List.length_cons, List.length_nil, Nat.reduceAdd, Nat.reduceSub, Nat.reduceLeDiff, Nat.reduceEqDiff, Nat.zero_add, List.cons_append, List.nil_append, List.append_nil, if_true, if_false, decide_true, and_true, ne_eq, not_true_eq_false, hb, hw]
        refine CallK.of (s25 hg (a, b) (c, d) ha hc) ?_
        rw [e5']
        simp (maxSteps := 4000000) -implicitDefEqProofs -dsimp (disch := omega) only [↓AW_skip, ↓AW_ops, ↓AW_seq, ↓AW_cond, ↓AOps_nil, ↓AOps_pu, ↓AOps_ha, ↓AOps_call, ↓AOps_guard, on_some, extK_app, extK_same, guardB_tt, guardB_ff, condB_f, ↓then_normal, pval, hval, rd_S, rd_C, put_S, chkd, isAdr, bput, bgot, AV.cells?, splice, partA, fillA, repl, eq_self, List.replicate_succ, List.replicate_zero, List.set_cons_zero, List.set_cons_succ, List.getElem?_cons_zero, List.getElem?_cons_succ, List.drop_zero, List.drop_succ_cons, List.drop_nil, List.take_zero, List.take_succ_cons, List.take_nil, Option.getD_some, map_c, map_n, List.length_cons, List.length_nil, Nat.reduceAdd, Nat.reduceSub, Nat.reduceLeDiff, Nat.reduceEqDiff, Nat.zero_add, List.cons_append, List.nil_append, List.append_nil, bin_eql, bin_neq, bin_gtr, if_true, if_false, Bool.false_eq_true, Bool.not_true, decide_true, decide_false, and_true, ne_eq, not_true_eq_false, hb, hw, hwg, den_pos p, den_pos q]
        refine CallK.of (s23 (L2_two A (p.num, p.den) (q.num, q.den)) (by simp)) ?_
        have hfair : ∀ r' ∈ [(p.num, (p.den : Int)), (q.num, (q.den : Int))], fairR r' := by
          simp only [List.mem_cons, List.not_mem_nil, or_false]
          rintro r' (rfl | rfl)
          · exact fair_num e4'
          · exact fair_num e8'
        rw [decide_eq_true hfair]
        simp (maxSteps := 4000000) -implicitDefEqProofs -dsimp (disch := omega) only [↓AOps_pu, ↓AOps_call, ↓AOps_guard, on_some, extK_same, guardB_tt, pval, rd_S, rd_C, put_S, chkd, bgot, partA, eq_self, List.replicate_succ, List.replicate_zero, List.set_cons_zero, List.set_cons_succ, List.getElem?_cons_zero, List.getElem?_cons_succ, List.drop_zero, List.take_succ_cons, List.take_nil, Option.getD_some, map_c, map_n, List.length_cons, List.length_nil, Nat.reduceAdd, Nat.reduceSub, Nat.reduceLeDiff, Nat.reduceEqDiff, Nat.zero_add, List.cons_append, List.nil_append, if_true, if_false]
        refine CallK.of (s24g p q _ (Fit_of 2400000000 2400000000 1000000 1000000 e4'.1 (by omega) e8'.1 (by omega) (by decide) (by decide))) ?_
        simp (maxSteps := 4000000) -implicitDefEqProofs -dsimp (disch := omega) only [↓AOps_pu, ↓AOps_call, ↓AOps_guard, on_some, extK_same, guardB_tt, pval, rd_S, rd_C, put_S, eq_self, List.replicate_succ, List.replicate_zero, List.set_cons_zero, List.set_cons_succ, List.getElem?_cons_zero, List.getElem?_cons_succ, Option.getD_some, map_n, Nat.reduceSub, List.cons_append, List.nil_append, if_true, Bool.not_false, decide_false, hnl]
        refine CallK.of (known _) ?_
        simp (maxSteps := 4000000) -implicitDefEqProofs -dsimp (disch := omega) only [↓AW_ret, ↓AOps_nil, ↓AOps_pu, on_some, extK_same, ↓then_normal, ↓Fin_ret, pval, rd_S, rd_C, put_S, resV, resL, eq_self, List.replicate_succ, List.replicate_zero, List.set_cons_zero, List.set_cons_succ, List.getElem?_cons_zero, List.getElem?_cons_succ, Option.getD_some, Nat.reduceSub, List.cons_append, List.nil_append, if_true]
        exact gc_val (pre_app A _) rfl
      · simp (maxSteps := 4000000) -implicitDefEqProofs -dsimp (disch := omega) only [↓AW_ops, ↓AW_seq, ↓AOps_nil, ↓AOps_pu, ↓AOps_call, on_some, extK_same, ↓then_normal, pval, rd_S, rd_C, put_S, chkd, isAdr, bput, bgot, AV.cells?, splice, partA, eq_self, List.replicate_succ, List.replicate_zero, List.set_cons_zero, List.set_cons_succ, List.getElem?_cons_zero, List.getElem?_cons_succ, List.drop_zero, List.drop_succ_cons, List.drop_nil, List.take_zero, List.take_succ_cons, List.take_nil, Option.getD_some, map_c, map_n, List.length_cons, List.length_nil, Nat.reduceAdd, Nat.reduceSub, Nat.reduceLeDiff, Nat.reduceEqDiff, Nat.zero_add, List.cons_append, List.nil_append, List.append_nil, if_true, if_false, decide_true, and_true, ne_eq, not_true_eq_false, hm1, hb]
        refine CallK.of (s25 hg (a, b) (c, d) ha hc) ?_
        simp (maxSteps := 4000000) -implicitDefEqProofs -dsimp (disch := omega) only [↓AW_ops, ↓AW_seq, ↓AW_cond, ↓AOps_nil, ↓AOps_pu, ↓AOps_call, ↓AOps_guard, on_some, extK_same, guardB_ff, condB_t, ↓then_normal, pval, rd_S, rd_C, put_S, chkd, bput, AV.cells?, splice, eq_self, List.replicate_succ, List.replicate_zero, List.set_cons_zero, List.set_cons_succ, List.getElem?_cons_zero, List.getElem?_cons_succ, List.drop_succ_cons, List.drop_nil, List.take_zero, Option.getD_some, map_n, List.length_cons, List.length_nil, Nat.reduceAdd, Nat.reduceSub, Nat.reduceLeDiff, Nat.zero_add, List.cons_append, List.nil_append, List.append_nil, bin_neq, if_true, if_false, Bool.false_eq_true, Bool.not_true, decide_true, and_true, ne_eq, not_true_eq_false, not_false_eq_true, hm2, hb, hw]
        refine CallK.of (known A) ?_
        simp (maxSteps := 4000000) -implicitDefEqProofs -dsimp (disch := omega) only [↓AW_ret, ↓AOps_nil, ↓AOps_pu, on_some, extK_same, ↓then_normal, ↓then_ret, ↓Fin_ret, pval, rd_S, put_S, resV, resL, List.replicate_succ, List.replicate_zero, List.set_cons_zero, List.set_cons_succ, List.getElem?_cons_zero, List.getElem?_cons_succ, Option.getD_some, Nat.reduceSub, List.cons_append, List.nil_append]
        exact gc_same rfl
    · simp (maxSteps := 4000000) -implicitDefEqProofs -dsimp (disch := omega) only [↓AW_ops, ↓AW_seq, ↓AOps_nil, ↓AOps_pu, ↓AOps_call, on_some, extK_same, ↓then_normal, pval, rd_S, rd_C, put_S, chkd, isAdr, bput, bgot, AV.cells?, splice, partA, eq_self, List.replicate_succ, List.replicate_zero, List.set_cons_zero, List.set_cons_succ, List.getElem?_cons_zero, List.getElem?_cons_succ, List.drop_zero, List.drop_succ_cons, List.drop_nil, List.take_zero, List.take_succ_cons, List.take_nil, Option.getD_some, map_c, map_n, List.length_cons, List.length_nil, Nat.reduceAdd, Nat.reduceSub, Nat.reduceLeDiff, Nat.reduceEqDiff, Nat.zero_add, List.cons_append, List.nil_append, List.append_nil, if_true, if_false, decide_false, ne_eq, not_true_eq_false, hm1, hb]
      refine CallK.of (s25 hg (a, b) (c, d) ha hc) ?_
      simp (maxSteps := 4000000) -implicitDefEqProofs -dsimp (disch := omega) only [↓AW_ops, ↓AW_seq, ↓AW_cond, ↓AOps_nil, ↓AOps_pu, ↓AOps_call, ↓AOps_guard, on_some, extK_same, guardB_tf, skipS_some, condB_t, ↓then_normal, pval, rd_S, rd_C, put_S, chkd, bput, AV.cells?, splice, eq_self, List.replicate_succ, List.replicate_zero, List.set_cons_zero, List.set_cons_succ, List.getElem?_cons_zero, List.getElem?_cons_succ, List.drop_succ_cons, List.drop_nil, List.take_zero, Option.getD_some, map_n, List.length_cons, List.length_nil, Nat.reduceAdd, Nat.reduceSub, Nat.reduceLeDiff, Nat.zero_add, List.cons_append, List.nil_append, List.append_nil, if_true, if_false, Bool.not_false, decide_false, ne_eq, not_true_eq_false, hm2, hb]
      refine CallK.of (known A) ?_
      simp (maxSteps := 4000000) -implicitDefEqProofs -dsimp (disch := omega) only [↓AW_ret, ↓AOps_nil, ↓AOps_pu, on_some, extK_same, skipS_some, ↓then_normal, ↓then_ret, ↓Fin_ret, pval, rd_S, put_S, resV, resL, List.replicate_succ, List.replicate_zero, List.set_cons_zero, List.set_cons_succ, List.getElem?_cons_zero, List.getElem?_cons_succ, Option.getD_some, Nat.reduceSub, List.cons_append, List.nil_append]
      exact gc_same rfl

end Go.Proofs.Ytnnbggcckabhdaa
