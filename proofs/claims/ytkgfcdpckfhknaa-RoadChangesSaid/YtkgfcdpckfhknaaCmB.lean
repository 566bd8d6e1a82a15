/- What the law's proof rests on, part 4: for all that is said in each line. No conditions. -/
import Derived.Test.YtkgfcdpckfhknaaRows
import Derived.Test.YtkgfcdpckfhknaaCmA
namespace Go.Proofs.Ytkgfcdpckfhknaa
open Go Go.Eng
def e0 (x : AV × List Int) : List AV := [x.1]
/-- A list of lists in memory. -/
structure LL (A : AHeap) (v : AV) (ws : List (AV × List Int)) : Prop where
  ls : Ls 1 e0 A v ws
  inn : ∀ x ∈ ws, L1 A x.1 x.2
theorem LL.mono {A A' : AHeap} {v : AV} {ws : List (AV × List Int)} (h : LL A v ws) (hp : A <+: A') : LL A' v ws := ⟨h.ls.mono hp, fun x hx => (h.inn x hx).mono hp⟩
abbrev lists (ws : List (AV × List Int)) : List (List Int) := ws.map Prod.snd
theorem e0_len (x : AV × List Int) : (e0 x).length = 1 := rfl
/-- Where the rows of a list of lists stand: each in an object of its own that the call has made, with more cells behind. -/
structure NR (A H : AHeap) (u : AV) (x : AV × List Int) : Prop where
  row : (x.1 = .nilS ∧ x.2 = []) ∨ ∃ n full cs, x.1 = .sl 1 n 0 x.2.length full ∧ A.length ≤ n ∧ H[n]? = some (.cells true (x.2.flatMap e1 ++ cs)) ∧ nm u ≠ n
theorem NR.l1 {A H : AHeap} {u : AV} {x : AV × List Int} (h : NR A H u x) : L1 H x.1 x.2 := by
  rcases h.row with ⟨h1, h2⟩ | ⟨n, full, cs, h1, _, h3, _⟩
  · rw [h1, h2]; exact L1_nil _
  · rw [h1]
    refine ⟨e1_len, ?_⟩
    have hl := flatMap_length e1_len x.2
    simp only [slCells, cellsAt, h3, if_true, Nat.zero_add]
    rw [if_pos (by rw [List.length_append]; omega)]
    simp only [List.drop_zero, Option.map_some, Option.some.injEq, Prod.mk.injEq, true_and]
    rw [← hl, List.take_left]
/-- Rows stand in different objects. -/
def Apart (ws : List (AV × List Int)) : Prop := ws.Pairwise (fun x y => x.1 = .nilS ∨ y.1 = .nilS ∨ nm x.1 ≠ nm y.1)
/-- A list of lists that the call has made. -/
structure NL (A H : AHeap) (u : AV) (ws : List (AV × List Int)) : Prop where
  acc : AccL 1 e0 A H u ws
  rows : ∀ x ∈ ws, NR A H u x
  apart : Apart ws
theorem NL.ll {A H : AHeap} {u : AV} {ws : List (AV × List Int)} (h : NL A H u ws) : LL H u ws := ⟨AccL_ls h.acc e0_len, fun x hx => (h.rows x hx).l1⟩
theorem NL.nil {A H : AHeap} (h : A <+: H) : NL A H .nilS [] := ⟨AccL.nil h, by simp, List.Pairwise.nil⟩
/-- One row more. -/
theorem NL.push {A H : AHeap} {u : AV} {ws : List (AV × List Int)} (h : NL A H u ws) (x : AV × List Int) (hx : (x.1 = .nilS ∧ x.2 = [] ∧ True) ∨ ∃ n full cs, x.1 = .sl 1 n 0 x.2.length full ∧ A.length ≤ n ∧ H[n]? = some (.cells true (x.2.flatMap e1 ++ cs)) ∧ nm u ≠ n ∧ ∀ y ∈ ws, y.1 = .nilS ∨ nm y.1 ≠ n) (hl : ws.length + 1 ≤ lim) :
    ∃ v' H2, appA 1 (H ++ [.cells true [x.1]]) u (.sl 1 H.length 0 1 true) = some (v', H2) ∧ NL A H2 v' (ws ++ [x]) := by
  obtain ⟨v', H2, h1, h2, h3, n', len', h4, h5⟩ := AccL_push2 h.acc e0_len (by omega) x hl
  have hold : ∀ (y : AV × List Int), NR A H u y → NR A H2 v' y := by
    intro y hy
    refine ⟨?_⟩
    rcases hy.row with h6 | ⟨n, full, cs, g1, g2, g3, g4⟩
    · exact .inl h6
    · have hn := (List.getElem?_eq_some_iff.1 g3).1
      refine .inr ⟨n, full, cs, g1, g2, h3 n _ g3 (fun k len hk hnk => ?_), ?_⟩
      · rw [hk] at g4; exact g4 hnk.symm
      · rw [h4]; simp only [nm]; omega
  have hxr : NR A H u x := by
    refine ⟨?_⟩
    rcases hx with ⟨a, b, _⟩ | ⟨n, full, cs, g1, g2, g3, g4, _⟩
    · exact .inl ⟨a, b⟩
    · exact .inr ⟨n, full, cs, g1, g2, g3, g4⟩
  refine ⟨v', H2, h1, h2, fun y hy => ?_, ?_⟩
  · rcases List.mem_append.1 hy with hy | hy
    · exact hold y (h.rows y hy)
    · have : y = x := by simpa using hy
      rw [this]; exact hold x hxr
  · unfold Apart
    rw [List.pairwise_append]
    refine ⟨h.apart, by simp, fun a ha b hb => ?_⟩
    have : b = x := by simpa using hb
    subst this
    rcases hx with ⟨g1, _⟩ | ⟨n, full, cs, g1, _, _, _, g5⟩
    · exact .inr (.inl g1)
    · rcases g5 a ha with g | g
      · exact .inl g
      · refine .inr (.inr ?_)
        rw [g1]; exact g
theorem NL.mono {A H H' : AHeap} {u : AV} {ws : List (AV × List Int)} (h : NL A H u ws) (hp : H <+: H') : NL A H' u ws := by
  refine ⟨h.acc.mono hp, fun x hx => ⟨?_⟩, h.apart⟩
  rcases (h.rows x hx).row with h6 | ⟨n, full, cs, g1, g2, g3, g4⟩
  · exact .inl h6
  · exact .inr ⟨n, full, cs, g1, g2, pre_get hp g3, g4⟩
theorem NL.lt {A H : AHeap} {u : AV} {ws : List (AV × List Int)} (h : NL A H u ws) : (∀ y ∈ ws, y.1 = .nilS ∨ nm y.1 < H.length) ∧ (ws = [] ∨ nm u < H.length) := by
  refine ⟨fun y hy => ?_, ?_⟩
  · rcases (h.rows y hy).row with ⟨h6, _⟩ | ⟨n, full, cs, g1, g2, g3, g4⟩
    · exact .inl h6
    · right; rw [g1]; exact (List.getElem?_eq_some_iff.1 g3).1
  · rcases h.acc.2.2 with ⟨h3, _⟩ | ⟨h3, n, h4, h5, h6⟩
    · exact .inl (List.eq_nil_of_length_eq_zero h3)
    · right; rw [h4]; exact (List.getElem?_eq_some_iff.1 h6).1
theorem NL.base {A0 A H : AHeap} {u : AV} {ws : List (AV × List Int)} (hp : A0 <+: A) (h : NL A H u ws) : NL A0 H u ws := by
  refine ⟨AccL_base0 hp h.acc, fun x hx => ⟨?_⟩, h.apart⟩
  rcases (h.rows x hx).row with h6 | ⟨n, full, cs, g1, g2, g3, g4⟩
  · exact .inl h6
  · exact .inr ⟨n, full, cs, g1, Nat.le_trans hp.length_le g2, g3, g4⟩
theorem Ls_cells {α : Type} {es : Nat} {e : α → List AV} {A : AHeap} {u : AV} {xs : List α} (h : Ls es e A u xs) : u.cells? = some [u] := by
  rcases h.inv with ⟨rfl, _⟩ | ⟨n, off, full, rw, l, rfl, _⟩ <;> rfl
theorem nm_ne_nil {A H : AHeap} {u : AV} {ws : List (AV × List Int)} (h : NL A H u ws) {n : Nat} (hn : H.length ≤ n) (hu : 0 < A.length) : nm u ≠ n := by
  rcases h.acc.2.2 with ⟨_, h4⟩ | ⟨_, m, h4, _, h6⟩
  · rw [h4]; simp only [nm]
    have := h.acc.1.length_le
    omega
  · rw [h4]; have := (List.getElem?_eq_some_iff.1 h6).1; simp only [nm]; omega
theorem splice_more {a c cs : List AV} {off : Nat} (h : off + c.length ≤ a.length) : splice (a ++ cs) off c = splice a off c ++ cs := by
  unfold splice
  rw [List.take_append_of_le_length (by omega), List.drop_append_of_le_length h]
  simp only [List.append_assoc]
theorem flat0 (ws : List (AV × List Int)) : ws.flatMap e0 = ws.map Prod.fst := by
  induction ws with
  | nil => rfl
  | cons x r ih => rw [List.flatMap_cons, ih]; rfl
theorem fst_set {ws : List (AV × List Int)} {i : Nat} {x : AV × List Int} (hz : ws[i]? = some x) (l : List Int) : (ws.set i (x.1, l)).map Prod.fst = ws.map Prod.fst := by
  apply List.ext_getElem?
  intro j
  rw [List.getElem?_map, List.getElem?_map, List.getElem?_set]
  by_cases hij : i = j
  · subst hij
    have := (List.getElem?_eq_some_iff.1 hz).1
    rw [if_pos rfl, if_pos this, hz]; rfl
  · rw [if_neg hij]
theorem Apart_fst {ws vs : List (AV × List Int)} (h : ws.map Prod.fst = vs.map Prod.fst) (ha : Apart vs) : Apart ws := by
  unfold Apart at *
  have h1 := (List.pairwise_map (f := Prod.fst) (R := fun a b : AV => a = .nilS ∨ b = .nilS ∨ nm a ≠ nm b) (l := vs)).2 ha
  rw [← h] at h1
  exact List.pairwise_map.1 h1
theorem Apart_ne {ws : List (AV × List Int)} (h : Apart ws) {i j : Nat} {x y : AV × List Int} (hi : ws[i]? = some x) (hj : ws[j]? = some y) (hij : i ≠ j) : x.1 = .nilS ∨ y.1 = .nilS ∨ nm x.1 ≠ nm y.1 := by
  obtain ⟨h1, rfl⟩ := List.getElem?_eq_some_iff.1 hi
  obtain ⟨h2, rfl⟩ := List.getElem?_eq_some_iff.1 hj
  rcases Nat.lt_or_gt_of_ne hij with h3 | h3
  · exact List.pairwise_iff_getElem.1 h i j h1 h2 h3
  · rcases List.pairwise_iff_getElem.1 h j i h2 h1 h3 with h4 | h4 | h4
    · exact .inr (.inl h4)
    · exact .inl h4
    · exact .inr (.inr (Ne.symm h4))
/-- A number of a row is written. -/
theorem NL.st {A H : AHeap} {u : AV} {ws : List (AV × List Int)} (h : NL A H u ws) {i : Nat} {x : AV × List Int} (hz : ws[i]? = some x) {k : Nat} (hk : k < x.2.length) (q : Int) :
    ∃ H2, stA 1 (.ptr (nm x.1) (of x.1 + k * 1)) (I q) H = some H2 ∧ NL A H2 u (ws.set i (x.1, x.2.set k q)) := by
  rcases (h.rows x (List.mem_of_getElem? hz)).row with ⟨_, h2⟩ | ⟨n, full, cs, g1, g2, g3, g4⟩
  · rw [h2] at hk; simp at hk
  · have hil := (List.getElem?_eq_some_iff.1 hz).1
    have hnl := (List.getElem?_eq_some_iff.1 g3).1
    have hfl := flatMap_length e1_len x.2
    have hsp : splice (x.2.flatMap e1 ++ cs) (k * 1) (e1 q) = (x.2.set k q).flatMap e1 ++ cs := by
      rw [splice_more (by rw [e1_len, hfl]; omega), splice_flat e1_len hk q]
    refine ⟨H.set n (.cells true ((x.2.set k q).flatMap e1 ++ cs)), ?_, ?_, ?_, ?_⟩
    · rw [g1]
      have hq : (I q).cells? = some (e1 q) := rfl
      simp only [stA, nm, of, hq, g3, Nat.zero_add]
      rw [if_pos ⟨e1_len q, by rw [List.length_append, hfl]; omega⟩, hsp]
    · have hlen : (ws.set i (x.1, x.2.set k q)).length = ws.length := List.length_set ..
      have hfm : (ws.set i (x.1, x.2.set k q)).flatMap e0 = ws.flatMap e0 := by rw [flat0, flat0, fst_set hz]
      unfold AccL
      rw [hlen, hfm]
      obtain ⟨a1, a2, a3⟩ := h.acc
      refine ⟨pre_set a1 g2 _, a2, ?_⟩
      rcases a3 with a4 | ⟨b0, m, b4, b5, b6⟩
      · exact .inl a4
      · refine .inr ⟨b0, m, b4, b5, ?_⟩
        rw [b4] at g4
        have g5 : m ≠ n := g4
        rw [List.getElem?_set_ne (Ne.symm g5)]
        exact b6
    · intro y hy
      obtain ⟨j, hj⟩ := List.mem_iff_getElem?.1 hy
      rw [List.getElem?_set] at hj
      by_cases hij : i = j
      · rw [if_pos hij, if_pos (by omega)] at hj
        have : (x.1, x.2.set k q) = y := Option.some.inj hj
        subst this
        refine ⟨.inr ⟨n, full, cs, ?_, g2, by rw [List.getElem?_set_self hnl], g4⟩⟩
        simp only [List.length_set]
        exact g1
      · rw [if_neg hij] at hj
        refine ⟨?_⟩
        rcases (h.rows y (List.mem_of_getElem? hj)).row with c1 | ⟨n', full', cs', c1, c2, c3, c4⟩
        · exact .inl c1
        · refine .inr ⟨n', full', cs', c1, c2, ?_, c4⟩
          rcases Apart_ne h.apart hz hj hij with d | d | d
          · rw [g1] at d; cases d
          · rw [c1] at d; cases d
          · rw [g1, c1] at d
            have d2 : n ≠ n' := d
            rw [List.getElem?_set_ne d2]
            exact c3
    · exact Apart_fst (fst_set hz _) h.apart
section
variable {α : Type} {f : α → α} {l : List α} {k : Nat} {z : α}
end
end Go.Proofs.Ytkgfcdpckfhknaa

namespace Go.Proofs.Ytkgfcdpckfhknaa
open Go Go.Eng
theorem lkI' {H : AHeap} {n P : Nat} {g : Int → Int} (h : H[n]? = some (.mp (mI P g))) {k : Int} (h0 : 0 ≤ k) (h1 : k < P) : lkA (I 0) false (.mp n) (I k) H = some (I (g k)) :=
  lk_at h rfl _ _ (mem_plc.2 ⟨h0, h1⟩)
/-- The groups that some roads join. -/
noncomputable def grp (P : Nat) (S : List Rd) : List (List Int) := (roots P S).map (fun p => (plc P).filter (fun q => decide (lab S q = p)))
theorem grp_len (P : Nat) (S : List Rd) : (grp P S).length = comps P S := by simp [grp, comps]
theorem filt_succ (f : Int → Bool) (i : Nat) : (plc (i + 1)).filter f = (plc i).filter f ++ (if f (i : Int) = true then [(i : Int)] else []) := by
  rw [plc_succ, List.filter_append]
  congr 1
  by_cases h : f (i : Int) = true
  · rw [if_pos h, List.filter_cons_of_pos h, List.filter_nil]
  · rw [if_neg h, List.filter_cons_of_neg h, List.filter_nil]
theorem filt_len (f : Int → Bool) (i : Nat) : ((plc i).filter f).length ≤ i := by
  have := List.length_filter_le f (plc i)
  rw [plc_len] at this
  exact this
section
variable {P : Nat} {rs : List Rd} {ks : List Int} {u v : AV} {A : AHeap}
set_option maxHeartbeats 8000000 in
theorem c_groups (hu : L3 A u rs) (hx : L1 A v ks) (hn : Net P rs) (hk : Nos rs ks) (hl : ks.length ≤ 1000000) : ∃ r H, ACalls Try.prog 74 [.agg [I P, u], v] A r H ∧ A <+: H ∧ ∃ ws, NL A H r ws ∧ lists ws = grp P (ks.map (rdx rs)) := by
  refine acallsR hmix Try.func74 (by kernel_rfl) t74 _ 2 rfl (by decide) ?_
  have hP7 := hn.p7
  dsimp only [m74]
  simp (maxSteps := 4000000) -implicitDefEqProofs -dsimp (disch := omega) only [↓AW_ops, ↓AW_seq, ↓AOps_nil, ↓AOps_pu, ↓AOps_call, on_some, ↓then_normal, pval, rd_S, rd_C, put_S, chkd, bgot, cells_agg, partA, eq_self, List.replicate_succ, List.replicate_zero, List.set_cons_zero, List.set_cons_succ, List.getElem?_cons_zero, List.getElem?_cons_succ, List.drop_zero, List.take_succ_cons, List.take_nil, Option.getD_some, map_c, map_n, List.length_cons, List.length_nil, Nat.reduceAdd, Nat.reduceSub, Nat.reduceLeDiff, Nat.reduceEqDiff, Nat.zero_add, List.cons_append, List.nil_append, if_true, if_false]
  refine CallK.of (s99 hu hx hn hk hl) ?_
  generalize hS : ks.map (rdx rs) = S at *
  have hpA := pre_app A [.mp (mI P (lab S))]
  have hmA := mp_new A (.mp (mI P (lab S)))
  generalize hA1 : A ++ [.mp (mI P (lab S))] = A1 at *
  simp (maxSteps := 4000000) -implicitDefEqProofs -dsimp (disch := omega) only [↓AW_ops, ↓AW_seq, ↓AW_block, ↓AOps_nil, ↓AOps_pu, on_some, extK_false, ↓then_normal, pval, rd_S, rd_C, put_S, ↓AW_toLoop, chkd, isAdr, bgot, cells_agg, partA, eq_self, List.replicate_succ, List.replicate_zero, List.set_cons_zero, List.set_cons_succ, List.getElem?_cons_zero, List.getElem?_cons_succ, List.drop_zero, List.take_zero, List.take_succ_cons, Option.getD_some, List.length_cons, List.length_nil, Nat.reduceAdd, Nat.reduceSub, Nat.reduceLeDiff, Nat.zero_add, List.cons_append, List.nil_append, if_true, if_false, Bool.false_eq_true]
  refine LoopK.by 44 (fun x : Nat × AV × AHeap × List (AV × List Int) => x.1 ≤ P ∧ NL A1 x.2.2.1 x.2.1 x.2.2.2 ∧ lists x.2.2.2 = ((plc x.1).filter (fun p => decide (Root S p))).map (fun p => (plc P).filter (fun q => decide (lab S q = p))))
    (fun z => [(2, .agg [I P, u]), (5, .mp A.length), (6, z.2.1), (14, I P), (15, I z.1)]) (fun z => z.2.2.1) (fun z => P - z.1) (0, .nilS, A1, []) ⟨by simp only; omega, NL.nil (List.prefix_refl _), rfl⟩ rfl (by simp [Has, rd_s]) rfl ?_
  rintro ⟨i, y, H, ws⟩ ⟨hi, hnl, hli⟩
  simp only at hi hnl hli
  have hmH := pre_get hnl.acc.1 hmA
  by_cases hlt : i < P
  · have hlt' : (i : Int) < P := by omega
    have hlk := lkI' hmH (k := (i : Int)) (by omega) hlt'
    by_cases hr : Root S (i : Int)
    · have hlab := (lab_self_iff (by omega)).2 hr
      simp (maxSteps := 4000000) -implicitDefEqProofs -dsimp (disch := omega) only [↓AW_skip, ↓AW_ops, ↓AW_seq, ↓AW_cond, ↓AW_block, ↓AOps_nil, ↓AOps_pu, ↓AOps_ld, on_some, condB_t, condB_f, ↓then_normal, pval, lval_look, rd_S, rd_C, put_S, ↓AW_toLoop, chkd, isAdr, bgot, cells_agg, partA, eq_self, mk, List.foldl_cons, List.foldl_nil, List.replicate_succ, List.replicate_zero, List.set_cons_zero, List.set_cons_succ, List.getElem?_cons_zero, List.getElem?_cons_succ, List.drop_zero, List.take_zero, List.take_succ_cons, Option.getD_some, List.length_cons, List.length_nil, Nat.reduceAdd, Nat.reduceLeDiff, Nat.zero_add, bin_neq, bin_lss, if_true, if_false, Bool.false_eq_true, decide_true, decide_false, not_true_eq_false, hlt', hlk, hlab]
      refine LoopK.by 44 (fun x : Nat × AV × AHeap => x.1 ≤ P ∧ AccL 1 e1 H x.2.2 x.2.1 ((plc x.1).filter (fun q => decide (lab S q = (i : Int)))))
        (fun z => [(2, .agg [I P, u]), (5, .mp A.length), (6, y), (7, I i), (8, z.2.1), (14, I P), (15, I i), (24, I P), (25, I z.1)]) (fun z => z.2.2) (fun z => P - z.1) (0, .nilS, H) ⟨by simp only; omega, AccL.nil (List.prefix_refl _)⟩ rfl (by simp [Has, rd_s]) rfl ?_
      rintro ⟨j, z, G⟩ ⟨hj, hac⟩
      simp only at hj hac
      have hmG := pre_get hac.1 hmH
      by_cases hjl : j < P
      · have hjl' : (j : Int) < P := by omega
        have hlkj := lkI' hmG (k := (j : Int)) (by omega) hjl'
        by_cases hq : lab S (j : Int) = (i : Int)
        · have hfl := filt_len (fun q => decide (lab S q = (i : Int))) j
          obtain ⟨v', H2, happ, hacc, _, n, len, rfl, _⟩ := AccL_push2 hac e1_len (by omega) (j : Int) (by simp only [lim]; omega)
          simp only [Go.Eng.e1] at happ
          simp (maxSteps := 4000000) -implicitDefEqProofs -dsimp (disch := omega) only [↓AW_skip, ↓AW_ops, ↓AW_seq, ↓AW_cond, ↓AW_block, ↓AOps_nil, ↓AOps_pu, ↓AOps_ld, ↓AOps_ha, on_some, extK_false, extK_app, condB_t, ↓then_normal, ↓inBlock_normal, pval, lval_look, hval_blds, hval_app, rd_S, rd_C, put_S, cells_int, splice, fillA, repl, eq_self, mk, List.foldl_cons, List.foldl_nil, List.replicate_succ, List.replicate_zero, List.set_cons_zero, List.set_cons_succ, List.getElem?_cons_zero, List.getElem?_cons_succ, List.drop_succ_cons, List.drop_nil, List.take_zero, Option.getD_some, map_c, map_n, List.length_cons, List.length_nil, Nat.reduceAdd, Nat.reduceLeDiff, Nat.zero_add, List.nil_append, List.append_nil, bin_add, bin_eql, bin_lss, w64, if_true, decide_true, true_and, and_true, hjl', hlkj, hq, happ, List.replicate_zero, repl]
          refine ⟨(j + 1, .sl 1 n 0 len false, H2), ⟨hjl, ?_⟩, by simp [Has, rd_s], rfl, by simp only; omega⟩
          rw [filt_succ, if_pos (decide_eq_true hq)]
          exact hacc
        · simp (maxSteps := 4000000) -implicitDefEqProofs -dsimp (disch := omega) only [↓AW_skip, ↓AW_ops, ↓AW_seq, ↓AW_cond, ↓AW_block, ↓AOps_nil, ↓AOps_pu, ↓AOps_ld, on_some, condB_t, condB_f, ↓then_normal, ↓inBlock_normal, pval, lval_look, rd_S, rd_C, put_S, eq_self, mk, List.foldl_cons, List.foldl_nil, List.replicate_succ, List.replicate_zero, List.set_cons_zero, List.set_cons_succ, List.getElem?_cons_zero, List.getElem?_cons_succ, Option.getD_some, List.length_cons, List.length_nil, Nat.reduceAdd, Nat.zero_add, bin_add, bin_eql, bin_lss, w64, decide_true, decide_false, true_and, hjl', hlkj, hq]
          refine ⟨(j + 1, z, G), ⟨hjl, ?_⟩, by simp [Has, rd_s], rfl, by simp only; omega⟩
          rw [filt_succ, if_neg (by simpa using hq), List.append_nil]
          exact hac
      · have hjl' : ¬ (j : Int) < P := by omega
        have hjP : j = P := by omega
        subst hjP
        have hmem : (i : Int) ∈ (plc j).filter (fun q => decide (lab S q = (i : Int))) := by
          rw [List.mem_filter, mem_plc]
          exact ⟨⟨by omega, hlt'⟩, decide_eq_true hlab⟩
        have hpos := List.length_pos_of_mem hmem
        obtain ⟨n, hn1, hn2, hn3⟩ : ∃ n, z = .sl 1 n 0 ((plc j).filter (fun q => decide (lab S q = (i : Int)))).length false ∧ H.length ≤ n ∧ G[n]? = some (.cells true (((plc j).filter (fun q => decide (lab S q = (i : Int)))).flatMap e1)) := by
          rcases hac.2.2 with ⟨h3, _⟩ | ⟨_, n, h4, h5, h6⟩
          · omega
          · exact ⟨n, h4, h5, h6⟩
        have hA1l : 0 < A1.length := by rw [← hA1]; simp
        have hwl : ws.length = ((plc i).filter (fun p => decide (Root S p))).length := by
          have := congrArg List.length hli
          simpa using this
        have hwl2 := filt_len (fun p => decide (Root S p)) i
        obtain ⟨v3, H4, happ, h3⟩ := (hnl.mono hac.1).push (z, (plc j).filter (fun q => decide (lab S q = (i : Int)))) (.inr ⟨n, false, [], hn1, Nat.le_trans hnl.acc.1.length_le hn2, by rw [List.append_nil]; exact hn3, nm_ne_nil hnl hn2 hA1l, fun y hy => (hnl.lt.1 y hy).imp id (fun h => by omega)⟩) (by simp only [lim]; omega)
        simp only at happ
        have hv3c : v3.cells? = some [v3] := Ls_cells (AccL_ls h3.acc e0_len)
        have hzc : z.cells? = some [z] := by rw [hn1]; rfl
        simp (maxSteps := 4000000) -implicitDefEqProofs -dsimp (disch := omega) only [↓AW_ops, ↓AW_seq, ↓AW_cond, ↓AW_exit, ↓AW_ret, ↓AOps_nil, ↓AOps_pu, ↓AOps_ha, on_some, extK_false, extK_app, condB_f, ↓then_normal, ↓then_exit, ↓inBlock_normal, ↓inBlock_exit, ↓FinR_ret, pval, hval_blds, hval_app, rd_S, rd_C, put_S, resV, resL, splice, fillA, repl, eq_self, mk, List.foldl_cons, List.foldl_nil, List.replicate_succ, List.replicate_zero, List.set_cons_zero, List.set_cons_succ, List.getElem?_cons_zero, List.getElem?_cons_succ, List.drop_succ_cons, List.drop_nil, List.take_zero, Option.getD_some, map_c, map_n, List.length_cons, List.length_nil, Nat.reduceAdd, Nat.reduceLeDiff, Nat.reduceEqDiff, Nat.zero_add, List.nil_append, List.append_nil, bin_add, bin_lss, w64, if_true, if_false, decide_false, true_and, and_true, reduceCtorEq, hjl', hzc, happ, List.replicate_zero, repl]
        refine ⟨(i + 1, v3, H4, ws ++ [(z, (plc j).filter (fun q => decide (lab S q = (i : Int))))]), ⟨hlt, h3, ?_⟩, by simp [Has, rd_s], rfl, by simp only; omega⟩
        simp only [lists, List.map_append, List.map_cons, List.map_nil]
        rw [filt_succ, if_pos (decide_eq_true hr), List.map_append, show List.map Prod.snd ws = _ from hli]
        rfl
    · have hlab : ¬ lab S (i : Int) = (i : Int) := fun e => hr ((lab_self_iff (by omega)).1 e)
      simp (maxSteps := 4000000) -implicitDefEqProofs -dsimp (disch := omega) only [↓AW_skip, ↓AW_ops, ↓AW_seq, ↓AW_cond, ↓AW_block, ↓AW_exit, ↓AW_ret, ↓AOps_nil, ↓AOps_pu, ↓AOps_ld, on_some, condB_t, ↓then_normal, ↓then_exit, ↓inBlock_exit, ↓FinR_ret, pval, lval_look, rd_S, rd_C, put_S, resV, resL, eq_self, mk, List.foldl_cons, List.foldl_nil, List.replicate_succ, List.replicate_zero, List.set_cons_zero, List.set_cons_succ, List.getElem?_cons_zero, List.getElem?_cons_succ, Option.getD_some, List.length_cons, List.length_nil, Nat.reduceAdd, Nat.zero_add, bin_add, bin_neq, bin_lss, w64, if_true, if_false, decide_true, true_and, reduceCtorEq, not_false_eq_true, hlt', hlk, hlab]
      refine ⟨(i + 1, y, H, ws), ⟨hlt, hnl, ?_⟩, by simp [Has, rd_s], rfl, by simp only; omega⟩
      rw [filt_succ, if_neg (by simpa using hr), List.append_nil]
      exact hli
  · have hlt' : ¬ (i : Int) < P := by omega
    have hiP : i = P := by omega
    subst hiP
    simp (maxSteps := 4000000) -implicitDefEqProofs -dsimp (disch := omega) only [↓AW_ops, ↓AW_seq, ↓AW_cond, ↓AW_exit, ↓AW_ret, ↓AOps_nil, ↓AOps_pu, on_some, condB_f, ↓then_normal, ↓then_exit, ↓inBlock_exit, ↓FinR_ret, pval, rd_S, put_S, resV, resL, eq_self, mk, List.foldl_cons, List.foldl_nil, List.replicate_succ, List.replicate_zero, List.set_cons_zero, List.set_cons_succ, List.getElem?_cons_zero, List.getElem?_cons_succ, Option.getD_some, bin_lss, if_true, decide_false, hlt']
    exact ⟨_, _, gc_all, hpA.trans hnl.acc.1, ws, hnl.base hpA, hli⟩
noncomputable instance treeDec (P : Nat) (R : Int → Rd) (T : List Int) : Decidable (Tree P R T) := by unfold Tree; infer_instance
theorem s60 (hu : L3 A u rs) (hx : L1 A v ks) (hn : Net P rs) (hk : Nos rs ks) (hl : ks.length ≤ 1000000) : ACalls Try.prog 60 [.agg [I P, u], v] A (B (decide (Tree P (rdx rs) ks))) A := by
  refine acalls hmix Try.func60 (by kernel_rfl) t60 2 rfl (by decide) ?_
  have hP7 := hn.p7
  have hP1 := hn.p1
  by_cases h1 : (ks.length : Int) = P - 1
  · dsimp only [m60]
    simp (maxSteps := 4000000) -implicitDefEqProofs -dsimp (disch := omega) only [↓AW_ops, ↓AW_seq, ↓AOps_nil, ↓AOps_pu, ↓AOps_call, ↓AOps_guard, on_some, guardB_tt, ↓then_normal, pval, rd_S, rd_C, put_S, chkd, isAdr, bgot, AV.cells?, partA, eq_self, List.replicate_succ, List.replicate_zero, List.set_cons_zero, List.set_cons_succ, List.getElem?_cons_zero, List.getElem?_cons_succ, List.drop_zero, List.take_zero, List.take_succ_cons, List.take_nil, Option.getD_some, map_c, map_n, List.length_cons, List.length_nil, Nat.reduceAdd, Nat.reduceSub, Nat.reduceLeDiff, Nat.reduceEqDiff, Nat.zero_add, List.cons_append, List.nil_append, bin_sub, bin_eql, w64, if_true, if_false, Bool.false_eq_true, decide_true, hx.len, h1]
    obtain ⟨r, H, hc, hp, ws, hnl, hli⟩ := c_groups hu hx hn hk hl
    refine CallK.of hc ?_
    have hwl : ws.length = comps P (ks.map (rdx rs)) := by
      have := congrArg List.length hli
      rw [grp_len] at this
      simpa using this
    have hlen := hnl.ll.ls.len
    rw [hwl] at hlen
    simp (maxSteps := 4000000) -implicitDefEqProofs -dsimp (disch := omega) only [↓AW_ret, ↓AOps_nil, ↓AOps_pu, ↓AOps_guard, on_some, extK_false, guardB_tt, ↓then_normal, ↓Fin_ret, pval, rd_S, rd_C, put_S, resV, resL, eq_self, List.replicate_succ, List.replicate_zero, List.set_cons_zero, List.set_cons_succ, List.getElem?_cons_zero, List.getElem?_cons_succ, Option.getD_some, Nat.reduceSub, List.cons_append, List.nil_append, bin_eql, if_true, hlen]
    refine gc_val hp ?_
    show AV.bool _ = _
    congr 1
    rw [decide_eq_decide]
    unfold Tree
    omega
  · dsimp only [m60]
    simp (maxSteps := 4000000) -implicitDefEqProofs -dsimp (disch := omega) only [↓AW_ops, ↓AW_seq, ↓AW_ret, ↓AOps_nil, ↓AOps_pu, ↓AOps_guard, on_some, guardB_ft, skipS_some, ↓then_normal, ↓Fin_ret, pval, rd_S, rd_C, put_S, resV, resL, chkd, isAdr, bgot, AV.cells?, partA, eq_self, List.replicate_succ, List.replicate_zero, List.set_cons_zero, List.set_cons_succ, List.getElem?_cons_zero, List.getElem?_cons_succ, List.drop_zero, List.take_zero, List.take_succ_cons, Option.getD_some, List.length_cons, List.length_nil, Nat.reduceAdd, Nat.reduceSub, Nat.reduceLeDiff, Nat.zero_add, List.cons_append, List.nil_append, bin_sub, bin_eql, w64, if_true, if_false, Bool.false_eq_true, decide_false, hx.len, h1]
    exact gc_same (by rw [decide_eq_false (fun hh => h1 (by have := hh.1; omega))])
end
end Go.Proofs.Ytkgfcdpckfhknaa

namespace Go.Proofs.Ytkgfcdpckfhknaa
open Go Go.Eng
section
variable {P : Nat} {rs : List Rd} {ks : List Int} {u v : AV} {A : AHeap}
end
end Go.Proofs.Ytkgfcdpckfhknaa

namespace Go.Proofs.Ytkgfcdpckfhknaa
open Go Go.Eng
/-- A road's cost. -/
def wct (rs : List Rd) (k : Int) : Int := (rdx rs k).2.2
theorem Net.wb {P : Int} {rs : List Rd} (h : Net P rs) {k : Int} (h0 : 0 ≤ k) (h1 : k ≤ (rs.length : Int) - 1) : 0 ≤ wct rs k ∧ wct rs k ≤ 99 := by
  have := h.r _ (rdx_at h0 h1).2
  exact this.2.2
theorem cst_snoc {w : Int → Int} {ks : List Int} {i : Nat} {z : Int} (h : ks[i]? = some z) : cst w (ks.take (i + 1)) = cst w (ks.take i) + w z := by
  unfold cst
  rw [List.take_add_one, h, List.map_append, List.sum_append]
  simp
theorem cst_bd {w : Int → Int} {M : Int} : ∀ {ks : List Int}, (∀ k ∈ ks, 0 ≤ w k ∧ w k ≤ M) → 0 ≤ cst w ks ∧ cst w ks ≤ M * ks.length
  | [], _ => by simp [cst]
  | k :: ks, h => by
    have ih := cst_bd (fun x hx => h x (List.mem_cons_of_mem k hx))
    have hk := h k (by simp)
    rw [cst_cons]
    simp only [List.length_cons, Int.natCast_add, Int.cast_ofNat_Int, Int.mul_add, Int.mul_one]
    omega
theorem Net.nat {P : Int} {rs : List Rd} (h : Net P rs) : ∃ p : Nat, P = p := ⟨P.toNat, by have := h.p1; omega⟩
section
variable {P : Nat} {rs : List Rd} {ks : List Int} {u v : AV} {A : AHeap}
theorem s79 (hu : L3 A u rs) (hx : L1 A v ks) (hn : Net P rs) (hk : Nos rs ks) (hl : ks.length ≤ 1000000) : ACalls Try.prog 79 [.agg [I P, u], v] A (I (cst (wct rs) ks)) A := by
  refine acalls hmix Try.func79 (by kernel_rfl) t79 2 rfl (by decide) ?_
  dsimp only [m79]
  simp (maxSteps := 4000000) -implicitDefEqProofs -dsimp (disch := omega) only [↓AW_ops, ↓AW_seq, ↓AW_block, ↓AOps_nil, ↓AOps_pu, on_some, ↓then_normal, pval, rd_S, rd_C, put_S, ↓AW_toLoop, AV.cells?, List.replicate_succ, List.replicate_zero, List.set_cons_zero, List.set_cons_succ, List.getElem?_cons_zero, List.getElem?_cons_succ, Option.getD_some, Nat.reduceSub, List.cons_append, List.nil_append, hx.len]
  refine LoopK.by 24 (fun i : Nat => i ≤ ks.length) (fun i => [(2, .agg [I P, u]), (5, I (cst (wct rs) (ks.take i))), (8, v), (9, I ks.length), (10, I i)]) (fun _ => A) (fun i => ks.length - i) 0 (by omega) rfl (by simp [Has, rd_s, cst]) rfl ?_
  intro i hi
  by_cases hlt : i < ks.length
  · obtain ⟨z, hz⟩ : ∃ z, ks[i]? = some z := ⟨_, List.getElem?_eq_getElem hlt⟩
    have hlt' : (i : Int) < ks.length := by omega
    obtain ⟨k0, k1⟩ := hk z (List.mem_of_getElem? hz)
    obtain ⟨hr, _⟩ := rdx_at k0 k1
    have hri := hu.idxI (k := .i64) k0 (show z < (rs.length : Int) by omega)
    have hw := hn.wb k0 k1
    have hwe : (rdx rs z).2.2 = wct rs z := rfl
    have hb := cst_bd (w := wct rs) (M := 99) (ks := ks.take i) (fun k hk2 => hn.wb (hk k (List.mem_of_mem_take hk2)).1 (hk k (List.mem_of_mem_take hk2)).2)
    have hb2 : (ks.take i).length ≤ 1000000 := by rw [List.length_take]; omega
    simp (maxSteps := 4000000) -implicitDefEqProofs -dsimp (disch := omega) only [↓AW_skip, ↓AW_ops, ↓AW_seq, ↓AW_cond, ↓AW_block, ↓AOps_nil, ↓AOps_pu, ↓AOps_ld, on_some, condB_t, ↓then_normal, ↓inBlock_normal, pval, lval, rd_S, rd_C, put_S, chkd, isAdr, bgot, AV.cells?, partA, eq_self, mk, List.foldl_cons, List.foldl_nil, List.replicate_succ, List.replicate_zero, List.set_cons_zero, List.set_cons_succ, List.getElem?_cons_zero, List.getElem?_cons_succ, List.drop_zero, List.drop_succ_cons, List.take_succ_cons, List.take_nil, Option.getD_some, List.length_cons, List.length_nil, Nat.reduceAdd, Nat.reduceLeDiff, Nat.zero_add, bin_add, bin_lss, w64, if_true, if_false, Bool.false_eq_true, decide_true, Go.Eng.e1, true_and, hlt', hx.idx hlt, hx.ld0 hz 1 false (by decide), hri, hu.ld hr 1 2 false (by decide), e3, hwe]
    exact ⟨i + 1, hlt, by simp [Has, rd_s, cst_snoc hz], by omega⟩
  · have hlt' : ¬ ((i : Int) < ks.length) := by omega
    simp (maxSteps := 4000000) -implicitDefEqProofs -dsimp (disch := omega) only [↓AW_ops, ↓AW_seq, ↓AW_cond, ↓AW_exit, ↓AW_ret, ↓AOps_nil, ↓AOps_pu, on_some, condB_f, ↓then_normal, ↓then_exit, ↓inBlock_exit, ↓Fin_ret, pval, rd_S, put_S, resV, resL, eq_self, mk, List.foldl_cons, List.foldl_nil, List.replicate_succ, List.replicate_zero, List.set_cons_zero, List.set_cons_succ, List.getElem?_cons_zero, List.getElem?_cons_succ, Option.getD_some, bin_lss, if_true, decide_false, hlt']
    rw [List.take_of_length_le (by omega)]
    exact gc_same rfl
end
section
variable {Q : Int} {rs : List Rd} {ks : List Int} {u v : AV} {A : AHeap}
theorem s51 (hx : L1 A v ks) (hl : ks.length ≤ 1000000) (p : Int) : ACalls Try.prog 51 [v, I p] A (B (decide (p ∈ ks))) A := by
  refine acalls hmix Try.func51 (by kernel_rfl) t51 2 rfl (by decide) ?_
  dsimp only [m51]
  simp (maxSteps := 4000000) -implicitDefEqProofs -dsimp (disch := omega) only [↓AW_ops, ↓AW_seq, ↓AW_block, ↓AOps_nil, ↓AOps_pu, on_some, ↓then_normal, pval, rd_C, put_S, ↓AW_toLoop, List.replicate_succ, List.replicate_zero, List.set_cons_zero, List.set_cons_succ, Nat.reduceSub, List.cons_append, List.nil_append]
  refine LoopK.by 18 (fun i : Nat => i ≤ ks.length ∧ ∀ x ∈ ks.take i, ¬ x = p) (fun i => [(0, v), (1, I p), (5, I i)]) (fun _ => A) (fun i => ks.length - i) 0 ⟨by omega, by simp⟩ rfl (by simp [Has, rd_s]) rfl ?_
  rintro i ⟨hi, he⟩
  by_cases hlt : i < ks.length
  · obtain ⟨z, hz⟩ : ∃ z, ks[i]? = some z := ⟨_, List.getElem?_eq_getElem hlt⟩
    have hlt' : (i : Int) < ks.length := by omega
    by_cases h : z = p
    · simp (maxSteps := 4000000) -implicitDefEqProofs -dsimp (disch := omega) only [↓AW_skip, ↓AW_ops, ↓AW_seq, ↓AW_cond, ↓AW_block, ↓AW_ret, ↓AOps_nil, ↓AOps_pu, ↓AOps_ld, on_some, condB_t, ↓then_normal, ↓then_ret, ↓inBlock_ret, ↓Fin_ret, pval, lval, rd_S, rd_C, put_S, resV, resL, partA, eq_self, mk, List.foldl_cons, List.foldl_nil, List.replicate_succ, List.replicate_zero, List.set_cons_zero, List.set_cons_succ, List.getElem?_cons_zero, List.getElem?_cons_succ, List.drop_zero, List.take_succ_cons, List.take_nil, Option.getD_some, List.length_cons, List.length_nil, Nat.reduceLeDiff, Nat.zero_add, bin_eql, bin_lss, if_true, if_false, Bool.false_eq_true, decide_true, Go.Eng.e1, hlt', hx.len, hx.idx hlt, hx.ld0 hz 1 false (by decide), h]
      exact gc_same (by rw [decide_eq_true (h ▸ List.mem_of_getElem? hz)])
    · simp (maxSteps := 4000000) -implicitDefEqProofs -dsimp (disch := omega) only [↓AW_skip, ↓AW_ops, ↓AW_seq, ↓AW_cond, ↓AW_block, ↓AOps_nil, ↓AOps_pu, ↓AOps_ld, on_some, condB_t, condB_f, ↓then_normal, ↓inBlock_normal, pval, lval, rd_S, rd_C, put_S, partA, eq_self, mk, List.foldl_cons, List.foldl_nil, List.replicate_succ, List.replicate_zero, List.set_cons_zero, List.set_cons_succ, List.getElem?_cons_zero, List.getElem?_cons_succ, List.drop_zero, List.take_succ_cons, List.take_nil, Option.getD_some, List.length_cons, List.length_nil, Nat.reduceAdd, Nat.reduceLeDiff, Nat.zero_add, bin_add, bin_eql, bin_lss, w64, if_true, if_false, Bool.false_eq_true, decide_true, decide_false, Go.Eng.e1, true_and, hlt', hx.len, hx.idx hlt, hx.ld0 hz 1 false (by decide), h]
      exact ⟨i + 1, ⟨hlt, all_take he hz h⟩, by simp [Has, rd_s], by omega⟩
  · have hlt' : ¬ ((i : Int) < ks.length) := by omega
    simp (maxSteps := 4000000) -implicitDefEqProofs -dsimp (disch := omega) only [↓AW_ops, ↓AW_seq, ↓AW_cond, ↓AW_exit, ↓AW_ret, ↓AOps_nil, ↓AOps_pu, on_some, condB_f, ↓then_normal, ↓then_exit, ↓inBlock_exit, ↓Fin_ret, pval, rd_S, rd_C, put_S, resV, resL, eq_self, mk, List.foldl_cons, List.foldl_nil, List.replicate_succ, List.replicate_zero, List.set_cons_zero, List.set_cons_succ, List.getElem?_cons_zero, List.getElem?_cons_succ, Option.getD_some, bin_lss, if_true, decide_false, hx.len, hlt']
    rw [List.take_of_length_le (by omega)] at he
    exact gc_same (by rw [decide_eq_false (fun hh => he p hh rfl)])
theorem s17 (hu : L3 A u rs) (P : Int) : ACalls Try.prog 17 [.agg [I P, u]] A (B (decide ((100 : Int) < rs.length))) A := by
  refine acalls hmix Try.func17 (by kernel_rfl) t17 1 rfl (by decide) ?_
  dsimp only [m17]
  simp (maxSteps := 4000000) -implicitDefEqProofs -dsimp (disch := omega) only [↓AW_ops, ↓AW_seq, ↓AW_ret, ↓AOps_nil, ↓AOps_pu, on_some, ↓then_normal, ↓Fin_ret, pval, rd_S, rd_C, put_S, resV, resL, chkd, isAdr, bgot, AV.cells?, partA, eq_self, List.replicate_succ, List.replicate_zero, List.set_cons_zero, List.set_cons_succ, List.getElem?_cons_zero, List.getElem?_cons_succ, List.drop_zero, List.drop_succ_cons, List.take_succ_cons, List.take_nil, Option.getD_some, List.length_cons, List.length_nil, Nat.reduceAdd, Nat.reduceSub, Nat.reduceLeDiff, Nat.zero_add, List.cons_append, List.nil_append, bin_gtr, if_true, if_false, Bool.false_eq_true, hu.len]
  exact gc_same rfl
end
end Go.Proofs.Ytkgfcdpckfhknaa

namespace Go.Proofs.Ytkgfcdpckfhknaa
open Go Go.Eng
/-- The first elements are in order. -/
def SU (w : Int → Int) (zs : List Int) (i : Nat) : Prop := ∀ (p q : Nat) (a b : Int), p < q → q < i → zs[p]? = some a → zs[q]? = some b → w a ≤ w b
theorem SU.one (w : Int → Int) (zs : List Int) : SU w zs 1 := fun p q a b h k => by omega
theorem SU.zero (w : Int → Int) (zs : List Int) : SU w zs 0 := fun p q a b h k => by omega
theorem SU.all {w : Int → Int} {zs : List Int} (h : SU w zs zs.length) : zs.Pairwise (fun a b => w a ≤ w b) := by
  rw [List.pairwise_iff_getElem]
  intro i j hi hj hij
  exact h i j _ _ hij hj (List.getElem?_eq_getElem hi) (List.getElem?_eq_getElem hj)
/-- An element that goes down to its place. -/
structure IS (w : Int → Int) (xs zs : List Int) (i j : Nat) : Prop where
  perm : zs.Perm xs
  a : ∀ (p q : Nat) (a b : Int), p < q → q ≤ i → p ≠ j → q ≠ j → zs[p]? = some a → zs[q]? = some b → w a ≤ w b
  b : ∀ (q : Nat) (x y : Int), j < q → q ≤ i → zs[j]? = some x → zs[q]? = some y → w x ≤ w y
theorem IS.start {w : Int → Int} {xs zs : List Int} {i : Nat} (hp : zs.Perm xs) (h : SU w zs i) : IS w xs zs i i :=
  ⟨hp, fun p q a b h1 h2 _ h4 => h p q a b h1 (by omega), fun q x y h1 h2 => by omega⟩
theorem IS.zero {w : Int → Int} {xs zs : List Int} {i : Nat} (h : IS w xs zs i 0) : SU w zs (i + 1) := by
  intro p q a b h1 h2 h3 h4
  by_cases hp : p = 0
  · subst hp
    exact h.b q a b h1 (by omega) h3 h4
  · exact h.a p q a b h1 (by omega) hp (by omega) h3 h4
theorem IS.stop {w : Int → Int} {xs zs : List Int} {i j : Nat} {x y : Int} (h : IS w xs zs i (j + 1)) (hx : zs[j + 1]? = some x) (hy : zs[j]? = some y) (hxy : ¬ w x < w y) : SU w zs (i + 1) := by
  intro p q a b h1 h2 h3 h4
  by_cases hq : q = j + 1
  · subst hq
    have hbx : b = x := by rw [hx] at h4; exact (Option.some.inj h4).symm
    subst hbx
    by_cases hp : p = j
    · subst hp
      have e : a = y := by rw [hy] at h3; exact (Option.some.inj h3).symm
      rw [e]
      omega
    · have := h.a p j a y (by omega) (by omega) (by omega) (by omega) h3 hy
      omega
  · by_cases hp : p = j + 1
    · subst hp
      exact h.b q a b h1 (by omega) h3 h4
    · exact h.a p q a b h1 (by omega) hp hq h3 h4
theorem swap_get {zs : List Int} {j : Nat} {x y : Int} (hj : j + 1 < zs.length) (k : Nat) : ((zs.set (j + 1) y).set j x)[k]? = if k = j then some x else if k = j + 1 then some y else zs[k]? := by
  rw [List.getElem?_set, List.getElem?_set]
  by_cases h1 : k = j
  · subst h1
    rw [if_pos rfl, if_pos rfl, if_pos (by simp; omega)]
  · rw [if_neg (Ne.symm h1), if_neg h1]
    by_cases h2 : k = j + 1
    · subst h2
      rw [if_pos rfl, if_pos rfl, if_pos hj]
    · rw [if_neg (Ne.symm h2), if_neg h2]
theorem IS.swap {w : Int → Int} {xs zs : List Int} {i j : Nat} {x y : Int} (h : IS w xs zs i (j + 1)) (hi : j + 1 ≤ i) (hx : zs[j + 1]? = some x) (hy : zs[j]? = some y) (hxy : w x < w y) : IS w xs ((zs.set (j + 1) y).set j x) i j := by
  obtain ⟨h1, rfl⟩ := List.getElem?_eq_some_iff.1 hx
  obtain ⟨h2, rfl⟩ := List.getElem?_eq_some_iff.1 hy
  refine ⟨(List.set_set_perm h1 h2).trans h.perm, fun p q a b hpq hqi hp hq ha hb => ?_, fun q a b hjq hqi ha hb => ?_⟩
  · rw [swap_get h1] at ha hb
    rw [if_neg hp] at ha
    rw [if_neg hq] at hb
    by_cases hq1 : q = j + 1
    · rw [if_pos hq1] at hb
      rw [if_neg (by omega)] at ha
      have := h.a p j a zs[j] (by omega) (by omega) (by omega) (by omega) ha hy
      have e := Option.some.inj hb
      rw [← e]
      omega
    · rw [if_neg hq1] at hb
      by_cases hp1 : p = j + 1
      · rw [if_pos hp1] at ha
        have := h.a j q zs[j] b (by omega) hqi (by omega) hq1 hy hb
        have e := Option.some.inj ha
        rw [← e]
        omega
      · rw [if_neg hp1] at ha
        exact h.a p q a b hpq hqi hp1 hq1 ha hb
  · rw [swap_get h1] at ha hb
    rw [if_pos rfl] at ha
    rw [if_neg (by omega)] at hb
    have ha := Option.some.inj ha
    by_cases hq1 : q = j + 1
    · rw [if_pos hq1] at hb
      have e := Option.some.inj hb
      rw [← e, ← ha]
      omega
    · rw [if_neg hq1] at hb
      have := h.b q _ b (by omega) hqi hx hb
      rw [← ha]
      omega
section
variable {P : Nat} {rs : List Rd} {ks : List Int} {u v : AV} {A : AHeap}
theorem s98 {H : AHeap} {q : Nat} (hq : ldA 1 false (.ptr q 1) H = some u) (hu : L3 H u rs) (hn : Net P rs) {i k : Int} (i0 : 0 ≤ i) (i1 : i ≤ (rs.length : Int) - 1) (k0 : 0 ≤ k) (k1 : k ≤ (rs.length : Int) - 1) :
    ACalls Try.prog 98 [I i, I k, .ptr q 0] H (I (wct rs i - wct rs k)) H := by
  refine acalls hmix Try.func98 (by kernel_rfl) t98 3 rfl (by decide) ?_
  obtain ⟨hi, _⟩ := rdx_at i0 i1
  obtain ⟨hk, _⟩ := rdx_at k0 k1
  have wi := hn.wb i0 i1
  have wk := hn.wb k0 k1
  have hii := hu.idxI (k := .i64) i0 (show i < (rs.length : Int) by omega)
  have hki := hu.idxI (k := .i64) k0 (show k < (rs.length : Int) by omega)
  have e1 : (rdx rs i).2.2 = wct rs i := rfl
  have e2 : (rdx rs k).2.2 = wct rs k := rfl
  dsimp only [m98]
  simp (maxSteps := 4000000) -implicitDefEqProofs -dsimp (disch := omega) only [↓AW_ops, ↓AW_seq, ↓AW_ret, ↓AOps_nil, ↓AOps_pu, ↓AOps_ld, on_some, ↓then_normal, ↓Fin_ret, pval, lval, rd_S, rd_C, put_S, resV, resL, partA, eq_self, List.replicate_succ, List.replicate_zero, List.set_cons_zero, List.set_cons_succ, List.getElem?_cons_zero, List.getElem?_cons_succ, List.drop_zero, List.drop_succ_cons, List.take_succ_cons, List.take_nil, Option.getD_some, List.length_cons, List.length_nil, Nat.reduceAdd, Nat.reduceSub, Nat.reduceLeDiff, Nat.zero_add, List.cons_append, List.nil_append, bin_sub, w64, if_true, if_false, Bool.false_eq_true, hq, hii, hki, hu.ld hi 1 2 false (by decide), hu.ld hk 1 2 false (by decide), e3, e1, e2]
  exact gc_same rfl
/-- Comparing two of a list's numbers, wherever they stand. -/
def CmpOK (w : Int → Int) (H : AHeap) (n q : Nat) (xs : List Int) : Prop := ∀ zs : List Int, zs.Perm xs → ∀ x ∈ xs, ∀ y ∈ xs, ACalls Try.prog 98 [I x, I y, .ptr q 0] (H.set n (.cells true (zs.flatMap e1))) (I (w x - w y)) (H.set n (.cells true (zs.flatMap e1)))
set_option maxHeartbeats 8000000 in
theorem c_insC {w : Int → Int} {xs : List Int} {H : AHeap} {n q : Nat} (h : OL 1 e1 A H n v xs) (hl : xs.length ≤ 1000) (hc : CmpOK w H n q xs) : ∃ zs : List Int, ACalls Try.prog 112 [v, I 0, I xs.length, .fn 98 [.ptr q 0]] H (.tuple []) (H.set n (.cells true (zs.flatMap e1))) ∧ zs.Perm xs ∧ zs.Pairwise (fun a b => w a ≤ w b) := by
  have key : ∃ r H', ACalls Try.prog 112 [v, I 0, I xs.length, .fn 98 [.ptr q 0]] H r H' ∧ ∃ zs : List Int, r = .tuple [] ∧ H' = H.set n (.cells true (zs.flatMap e1)) ∧ zs.Perm xs ∧ zs.Pairwise (fun a b => w a ≤ w b) := by
    refine acallsR hmix Try.func112 (by kernel_rfl) t112 _ 4 rfl (by decide) ?_
    dsimp only [m112]
    simp (maxSteps := 4000000) -implicitDefEqProofs -dsimp (disch := omega) only [↓AW_ops, ↓AW_seq, ↓AW_block, ↓AOps_nil, ↓AOps_pu, on_some, ↓then_normal, pval, rd_S, rd_C, put_S, ↓AW_toLoop, List.replicate_succ, List.replicate_zero, List.set_cons_zero, List.set_cons_succ, List.getElem?_cons_zero, List.getElem?_cons_succ, Option.getD_some, Nat.reduceSub, List.cons_append, List.nil_append, bin_add, w64, Int.reduceAdd]
    refine LoopK.by 53 (fun x : Nat × List Int => (1 ≤ x.1 ∧ x.1 ≤ xs.length + 1) ∧ x.2.Perm xs ∧ SU w x.2 x.1) (fun x => [(0, v), (1, I 0), (2, I xs.length), (3, .fn 98 [.ptr q 0]), (8, I x.1)]) (fun x => H.set n (.cells true (x.2.flatMap e1))) (fun x => xs.length + 1 - x.1) (1, xs) ⟨by simp only; omega, List.Perm.refl _, SU.one _ _⟩ rfl (by simp [Has, rd_s]) (by simp only; rw [set_same h.ob]) ?_
    rintro ⟨i, zs⟩ ⟨hi, hpz, hz⟩
    simp only at hi hpz hz
    by_cases hlt : i < xs.length
    · have hlt' : (i : Int) < xs.length := by omega
      simp (maxSteps := 4000000) -implicitDefEqProofs -dsimp (disch := omega) only [↓AW_skip, ↓AW_ops, ↓AW_seq, ↓AW_cond, ↓AW_block, ↓AOps_nil, ↓AOps_pu, on_some, condB_t, ↓then_normal, pval, rd_S, put_S, ↓AW_toLoop, mk, List.foldl_cons, List.foldl_nil, List.replicate_succ, List.replicate_zero, List.set_cons_zero, List.set_cons_succ, List.getElem?_cons_zero, List.getElem?_cons_succ, Option.getD_some, bin_lss, decide_true, hlt']
      refine LoopK.by 53 (fun x : Nat × List Int => x.1 ≤ i ∧ IS w xs x.2 i x.1) (fun x => [(0, v), (1, I 0), (2, I xs.length), (3, .fn 98 [.ptr q 0]), (8, I i), (9, I x.1)]) (fun x => H.set n (.cells true (x.2.flatMap e1))) (fun x => x.1) (i, zs) ⟨by simp only; omega, IS.start hpz hz⟩ rfl (by simp [Has, rd_s]) rfl ?_
      rintro ⟨j, ws⟩ ⟨hj, hs⟩
      simp only at hj hs
      have hlen := hs.perm.length_eq
      have ho := OL_setAll h ws hlen
      cases j with
      | zero =>
        simp (maxSteps := 4000000) -implicitDefEqProofs -dsimp (disch := omega) only [↓AW_ops, ↓AW_seq, ↓AW_cond, ↓AW_exit, ↓AOps_nil, ↓AOps_pu, ↓AOps_guard, on_some, guardB_ft, skipS_some, condB_f, ↓then_normal, ↓then_exit, ↓inBlock_normal, ↓inBlock_exit, ↓FinR_normal, pval, rd_S, rd_C, put_S, resV, resL, eq_self, mk, List.foldl_cons, List.foldl_nil, List.replicate_succ, List.replicate_zero, List.set_cons_zero, List.set_cons_succ, List.getElem?_cons_zero, List.getElem?_cons_succ, Option.getD_some, List.length_cons, List.length_nil, Nat.reduceAdd, Nat.reduceEqDiff, Nat.zero_add, bin_add, bin_gtr, w64, if_true, if_false, Bool.false_eq_true, decide_false, true_and, reduceCtorEq, Int.reduceLT, Int.ofNat_zero]
        exact ⟨(i + 1, ws), ⟨by simp only; omega, hs.perm, hs.zero⟩, by simp [Has, rd_s], rfl, by simp only; omega⟩
      | succ k =>
        have hk1 : k + 1 < ws.length := by omega
        have hk0 : k < ws.length := by omega
        have hjp : (0 : Int) < ((k + 1 : Nat) : Int) := by omega
        have hjm : ((k + 1 : Nat) : Int) - 1 = (k : Int) := by omega
        obtain ⟨x, hx⟩ : ∃ x, ws[k + 1]? = some x := ⟨_, List.getElem?_eq_getElem hk1⟩
        obtain ⟨y, hy⟩ : ∃ y, ws[k]? = some y := ⟨_, List.getElem?_eq_getElem hk0⟩
        have h1 := ho.st hk1 (I y) y rfl
        rw [List.set_set] at h1
        have ho2 := OL_setAll h (ws.set (k + 1) y) (by simp [hlen])
        have h2 := ho2.st (i := k) (by simp; omega) (I x) x rfl
        rw [List.set_set] at h2
        have hswap := hs.swap (x := x) (y := y) hj hx hy
        have hstop := hs.stop hx hy
        generalize hJ : ((k + 1 : Nat) : Int) = J at *
        have hidx1 : idxA 1 v (.int .i64 J) = some (.ptr (nm v) (of v + (k + 1) * 1)) := by rw [← hJ]; exact ho.ls.idx hk1
        simp (maxSteps := 4000000) -implicitDefEqProofs -dsimp (disch := omega) only [↓AW_ops, ↓AW_seq, ↓AOps_pu, ↓AOps_ld, ↓AOps_callv, ↓AOps_guard, on_some, CallF_fn, guardB_tt, pval, lval, rd_S, rd_C, put_S, partA, eq_self, mk, List.foldl_cons, List.foldl_nil, List.replicate_succ, List.replicate_zero, List.set_cons_zero, List.set_cons_succ, List.getElem?_cons_zero, List.getElem?_cons_succ, List.drop_zero, List.take_succ_cons, List.take_nil, Option.getD_some, map_c, map_n, List.length_cons, List.length_nil, Nat.reduceLeDiff, Nat.zero_add, List.cons_append, List.nil_append, bin_sub, bin_gtr, w64, if_true, if_false, Bool.false_eq_true, decide_true, Go.Eng.e1, hjp, hjm, hidx1, ho.ls.ld0 hx 1 false (by decide), ho.ls.idx hk0, ho.ls.ld0 hy 1 false (by decide)]
        refine CallK.of (hc ws hs.perm x (hs.perm.mem_iff.1 (List.mem_of_getElem? hx)) y (hs.perm.mem_iff.1 (List.mem_of_getElem? hy))) ?_
        by_cases hxy : w x < w y
        · have hxy' : w x - w y < 0 := by omega
          simp (maxSteps := 4000000) -implicitDefEqProofs -dsimp (disch := omega) only [↓AW_skip, ↓AW_ops, ↓AW_seq, ↓AW_cond, ↓AW_block, ↓AOps_nil, ↓AOps_pu, ↓AOps_ld, ↓AOps_ha, ↓AOps_guard, on_some, extK_false, extK_same, guardB_tt, condB_t, ↓then_normal, ↓inBlock_normal, pval, lval, hval_st, rd_S, rd_C, put_S, putS_none, partA, eq_self, mk, List.foldl_cons, List.foldl_nil, List.replicate_succ, List.replicate_zero, List.set_cons_zero, List.set_cons_succ, List.getElem?_cons_zero, List.getElem?_cons_succ, List.drop_zero, List.take_succ_cons, List.take_nil, Option.getD_some, Option.map_some, List.length_cons, List.length_nil, Nat.reduceAdd, Nat.reduceLeDiff, Nat.zero_add, bin_sub, bin_lss, w64, if_true, if_false, Bool.false_eq_true, decide_true, Go.Eng.e1, true_and, hxy', hjm, hidx1, ho.ls.ld0 hx 1 false (by decide), ho.ls.idx hk0, ho.ls.ld0 hy 1 false (by decide), h1, h2]
          exact ⟨(k, (ws.set (k + 1) y).set k x), ⟨by simp only; omega, hswap hxy⟩, by simp [Has, rd_s], rfl, by simp only; omega⟩
        · have hxy' : ¬ w x - w y < 0 := by omega
          simp (maxSteps := 4000000) -implicitDefEqProofs -dsimp (disch := omega) only [↓AW_ops, ↓AW_cond, ↓AW_exit, ↓AOps_nil, ↓AOps_pu, ↓AOps_guard, on_some, extK_same, guardB_tt, condB_f, ↓then_normal, ↓then_exit, ↓inBlock_normal, ↓inBlock_exit, ↓FinR_normal, pval, rd_S, rd_C, put_S, resV, resL, eq_self, mk, List.foldl_cons, List.foldl_nil, List.replicate_succ, List.replicate_zero, List.set_cons_zero, List.set_cons_succ, List.getElem?_cons_zero, List.getElem?_cons_succ, Option.getD_some, List.length_cons, List.length_nil, Nat.reduceAdd, Nat.reduceEqDiff, Nat.zero_add, bin_add, bin_lss, w64, if_true, if_false, decide_false, true_and, reduceCtorEq, hxy']
          exact ⟨(i + 1, ws), ⟨by simp only; omega, hs.perm, hstop hxy⟩, by simp [Has, rd_s], rfl, by simp only; omega⟩
    · have hlt' : ¬ (i : Int) < xs.length := by omega
      simp (maxSteps := 4000000) -implicitDefEqProofs -dsimp (disch := omega) only [↓AW_ops, ↓AW_seq, ↓AW_cond, ↓AW_exit, ↓AOps_nil, ↓AOps_pu, on_some, condB_f, ↓then_normal, ↓then_exit, ↓inBlock_exit, ↓FinR_normal, pval, rd_S, put_S, resV, resL, eq_self, mk, List.foldl_cons, List.foldl_nil, List.replicate_succ, List.replicate_zero, List.set_cons_zero, List.set_cons_succ, List.getElem?_cons_zero, List.getElem?_cons_succ, Option.getD_some, bin_lss, if_true, decide_false, hlt']
      have hle := hpz.length_eq
      exact ⟨_, _, gc_all, zs, rfl, rfl, hpz, SU.all (fun p q a b h1 h2 => hz p q a b h1 (by omega))⟩
  obtain ⟨r, H', h1, zs, rfl, rfl, h2, h3⟩ := key
  exact ⟨zs, h1, h2, h3⟩
theorem c_stable {w : Int → Int} {xs : List Int} {H : AHeap} {n q : Nat} (h : OL 1 e1 A H n v xs) (hl : xs.length ≤ 19) (hc : CmpOK w H n q xs) : ∃ zs : List Int, ACalls Try.prog 97 [v, .fn 98 [.ptr q 0]] H (.tuple []) (H.set n (.cells true (zs.flatMap e1))) ∧ zs.Perm xs ∧ zs.Pairwise (fun a b => w a ≤ w b) := by
  obtain ⟨zs, h1, h2, h3⟩ := c_insC h (by omega) hc
  refine ⟨zs, ?_, h2, h3⟩
  have hst : ACalls Try.prog 109 [v, I xs.length, .fn 98 [.ptr q 0]] H (.tuple []) (H.set n (.cells true (zs.flatMap e1))) := by
    refine acalls hmix Try.func109 (by kernel_rfl) t109 3 rfl (by decide) ?_
    have hb : ¬ (20 : Int) ≤ xs.length := by omega
    have hb2 : ¬ (20 : Int) < xs.length := by omega
    dsimp only [m109]
    simp (maxSteps := 4000000) -implicitDefEqProofs -dsimp (disch := omega) only [↓AW_ops, ↓AW_seq, ↓AW_block, ↓AOps_nil, ↓AOps_pu, on_some, ↓then_normal, pval, rd_S, rd_C, put_S, ↓AW_toLoop, List.replicate_succ, List.replicate_zero, List.set_cons_zero, List.set_cons_succ, List.getElem?_cons_zero, List.getElem?_cons_succ, Option.getD_some, Nat.reduceSub, List.cons_append, List.nil_append]
    refine LoopK.by 63 (fun _ : Unit => True) (fun _ => [(0, v), (1, I xs.length), (2, .fn 98 [.ptr q 0]), (6, I 20), (7, I 0), (8, I 20)]) (fun _ => H) (fun _ => 0) () trivial rfl (by simp [Has, rd_s]) rfl ?_
    rintro _ _
    simp (maxSteps := 4000000) -implicitDefEqProofs -dsimp (disch := omega) only [↓AW_ops, ↓AW_seq, ↓AW_cond, ↓AW_exit, ↓AOps_nil, ↓AOps_pu, ↓AOps_call, on_some, condB_f, ↓then_normal, ↓then_exit, ↓inBlock_exit, pval, rd_S, put_S, eq_self, mk, List.foldl_cons, List.foldl_nil, List.replicate_succ, List.replicate_zero, List.set_cons_zero, List.set_cons_succ, List.getElem?_cons_zero, List.getElem?_cons_succ, Option.getD_some, map_c, map_n, bin_leq, if_true, decide_false, hb]
    refine CallK.of h1 ?_
    simp (maxSteps := 4000000) -implicitDefEqProofs -dsimp (disch := omega) only [↓AW_block, ↓AOps_nil, extK_false, ↓then_normal, put_S, ↓AW_toLoop, mk, List.foldl_cons, List.foldl_nil, List.replicate_succ, List.replicate_zero, List.set_cons_zero, List.set_cons_succ]
    refine LoopK.by 63 (fun _ : Unit => True) (fun _ => [(0, v), (1, I xs.length), (2, .fn 98 [.ptr q 0]), (6, I 20)]) (fun _ => H.set n (.cells true (zs.flatMap e1))) (fun _ => 0) () trivial rfl (by simp [Has, rd_s]) rfl ?_
    rintro _ _
    simp (maxSteps := 4000000) -implicitDefEqProofs -dsimp (disch := omega) only [↓AW_ops, ↓AW_seq, ↓AW_cond, ↓AW_exit, ↓AOps_nil, ↓AOps_pu, on_some, condB_f, ↓then_normal, ↓then_exit, ↓inBlock_exit, ↓Fin_normal, pval, rd_S, put_S, resV, resL, eq_self, mk, List.foldl_cons, List.foldl_nil, List.replicate_succ, List.replicate_zero, List.set_cons_zero, List.set_cons_succ, List.getElem?_cons_zero, List.getElem?_cons_succ, Option.getD_some, bin_lss, if_true, decide_false, hb2]
    exact gc_same_all rfl rfl
  refine acalls hmix Try.func97 (by kernel_rfl) t97 2 rfl (by decide) ?_
  dsimp only [m97]
  simp (maxSteps := 4000000) -implicitDefEqProofs -dsimp (disch := omega) only [↓AW_ops, ↓AOps_pu, ↓AOps_call, on_some, pval, rd_S, put_S, List.replicate_succ, List.replicate_zero, List.set_cons_zero, List.set_cons_succ, List.getElem?_cons_zero, List.getElem?_cons_succ, Option.getD_some, map_c, map_n, Nat.reduceSub, List.cons_append, List.nil_append, h.ls.len]
  refine CallK.of hst ?_
  simp (maxSteps := 4000000) -implicitDefEqProofs -dsimp (disch := omega) only [↓AOps_nil, on_some, extK_false, ↓Fin_normal, resV, resL]
  exact gc_same_all rfl rfl
/-- The numbers of all roads. -/
abbrev nums (rs : List Rd) : List Int := plc rs.length
/-- The numbers of all roads, the cheapest first. -/
structure Ord (rs : List Rd) (L : List Int) : Prop where
  p : L.Perm (nums rs)
  s : L.Pairwise (fun a b => wct rs a ≤ wct rs b)
theorem Ord.mem {L : List Int} (h : Ord rs L) {k : Int} : k ∈ L ↔ 0 ≤ k ∧ k ≤ (rs.length : Int) - 1 := by
  rw [h.p.mem_iff, mem_plc]
  omega
theorem Ord.nos {L : List Int} (h : Ord rs L) : Nos rs L := fun k hk => h.mem.1 hk
theorem Ord.nodup {L : List Int} (h : Ord rs L) : L.Nodup := h.p.nodup_iff.2 (plc_nodup _)
theorem Ord.len {L : List Int} (h : Ord rs L) : L.length = rs.length := by rw [h.p.length_eq, plc_len]
set_option maxHeartbeats 8000000 in
theorem c_all (hu : L3 A u rs) (hn : Net P rs) : ∃ r H, ACalls Try.prog 59 [.agg [I P, u]] A r H ∧ A <+: H ∧ ∃ L, L1 H r L ∧ Ord rs L := by
  refine acallsR hmix Try.func59 (by kernel_rfl) t59 _ 1 rfl (by decide) ?_
  have hl14 := hn.l
  have hpA := pre_app A [.cells true [I P, u]]
  have hld1 : ldA 1 false (.ptr A.length 1) (A ++ [.cells true [I P, u]]) = some u := by simp [ldA, partA]
  have hu1 := hu.mono hpA
  dsimp only [m59]
  simp (maxSteps := 4000000) -implicitDefEqProofs -dsimp (disch := omega) only [↓AW_ops, ↓AW_seq, ↓AOps_nil, ↓AOps_pu, ↓AOps_ld, ↓AOps_ha, on_some, extK_app, ↓then_normal, pval, lval, hval_newv, rd_S, rd_C, put_S, cells_agg, List.replicate_succ, List.replicate_zero, List.set_cons_zero, List.set_cons_succ, List.getElem?_cons_zero, List.getElem?_cons_succ, Option.getD_some, Nat.reduceSub, Nat.zero_add, List.cons_append, List.nil_append]
  generalize hA1 : A ++ [.cells true [I P, u]] = A1 at *
  simp (maxSteps := 4000000) -implicitDefEqProofs -dsimp (disch := omega) only [↓AW_block, ↓AOps_nil, ↓AOps_pu, on_some, ↓then_normal, pval, rd_S, rd_C, put_S, ↓AW_toLoop, List.replicate_succ, List.replicate_zero, List.set_cons_zero, List.set_cons_succ, List.getElem?_cons_zero, List.getElem?_cons_succ, Option.getD_some, Nat.reduceSub, List.cons_append, List.nil_append, hld1, hu1.len]
  refine LoopK.by 20 (fun x : Nat × AV × AHeap => x.1 ≤ rs.length ∧ AccL 1 e1 A1 x.2.2 x.2.1 (plc x.1)) (fun x => [(1, .ptr A.length 0), (3, x.2.1), (7, I rs.length), (8, I x.1)]) (fun x => x.2.2) (fun x => rs.length - x.1) (0, .nilS, A1) ⟨by simp only; omega, AccL.nil (List.prefix_refl _)⟩ rfl (by simp [Has, rd_s]) rfl ?_
  rintro ⟨i, z, H⟩ ⟨hi, hac⟩
  simp only at hi hac
  by_cases hlt : i < rs.length
  · have hlt' : (i : Int) < rs.length := by omega
    obtain ⟨v', H2, happ, hacc, _, n, len, rfl, _⟩ := AccL_push2 hac e1_len (by omega) (i : Int) (by rw [plc_len]; simp only [lim]; omega)
    simp only [Go.Eng.e1] at happ
    simp (maxSteps := 4000000) -implicitDefEqProofs -dsimp (disch := omega) only [↓AW_skip, ↓AW_ops, ↓AW_seq, ↓AW_cond, ↓AW_block, ↓AOps_nil, ↓AOps_pu, ↓AOps_ha, on_some, extK_false, extK_app, condB_t, ↓then_normal, ↓inBlock_normal, pval, hval_blds, hval_app, rd_S, rd_C, put_S, cells_int, splice, fillA, repl, eq_self, mk, List.foldl_cons, List.foldl_nil, List.replicate_succ, List.replicate_zero, List.set_cons_zero, List.set_cons_succ, List.getElem?_cons_zero, List.getElem?_cons_succ, List.drop_succ_cons, List.drop_nil, List.take_zero, Option.getD_some, map_c, map_n, List.length_cons, List.length_nil, Nat.reduceAdd, Nat.reduceLeDiff, Nat.zero_add, List.nil_append, List.append_nil, bin_add, bin_lss, w64, if_true, decide_true, true_and, and_true, hlt', happ, List.replicate_zero, repl]
    refine ⟨(i + 1, .sl 1 n 0 len false, H2), ⟨hlt, ?_⟩, by simp [Has, rd_s], rfl, by simp only; omega⟩
    simp only
    rw [plc_succ]
    exact hacc
  · have hlt' : ¬ (i : Int) < rs.length := by omega
    have hil : i = rs.length := by omega
    subst hil
    simp (maxSteps := 4000000) -implicitDefEqProofs -dsimp (disch := omega) only [↓AW_ops, ↓AW_seq, ↓AW_cond, ↓AW_exit, ↓AOps_nil, ↓AOps_pu, ↓AOps_call, on_some, condB_f, ↓then_normal, ↓then_exit, ↓inBlock_exit, pval, rd_S, put_S, eq_self, mk, List.foldl_cons, List.foldl_nil, List.replicate_succ, List.replicate_zero, List.set_cons_zero, List.set_cons_succ, List.getElem?_cons_zero, List.getElem?_cons_succ, Option.getD_some, map_c, map_n, bin_lss, if_true, decide_false, hlt']
    by_cases h0 : rs.length = 0
    · -- there is none
      have hz0 : z = .nilS := by
        rcases hac.2.2 with ⟨_, h4⟩ | ⟨h3, _⟩
        · exact h4
        · rw [plc_len] at h3; omega
      have hpl : plc rs.length = [] := by rw [h0]; rfl
      have hnil : ∀ H : AHeap, ACalls Try.prog 97 [.nilS, .fn 98 [.ptr A.length 0]] H (.tuple []) H := by
        intro H
        have h112 : ACalls Try.prog 112 [.nilS, I 0, I 0, .fn 98 [.ptr A.length 0]] H (.tuple []) H := by
          refine acalls hmix Try.func112 (by kernel_rfl) t112 4 rfl (by decide) ?_
          dsimp only [m112]
          simp (maxSteps := 4000000) -implicitDefEqProofs -dsimp (disch := omega) only [↓AW_ops, ↓AW_seq, ↓AW_block, ↓AOps_nil, ↓AOps_pu, on_some, ↓then_normal, pval, rd_S, rd_C, put_S, ↓AW_toLoop, List.replicate_succ, List.replicate_zero, List.set_cons_zero, List.set_cons_succ, List.getElem?_cons_zero, List.getElem?_cons_succ, Option.getD_some, Nat.reduceSub, List.cons_append, List.nil_append, bin_add, w64, Int.reduceAdd]
          refine LoopK.by 53 (fun _ : Unit => True) (fun _ => [(0, .nilS), (1, I 0), (2, I 0), (3, .fn 98 [.ptr A.length 0]), (8, I 1)]) (fun _ => H) (fun _ => 0) () trivial rfl (by simp [Has, rd_s]) rfl ?_
          rintro _ _
          simp (maxSteps := 4000000) -implicitDefEqProofs -dsimp (disch := omega) only [↓AW_ops, ↓AW_seq, ↓AW_cond, ↓AW_exit, ↓AOps_nil, ↓AOps_pu, on_some, condB_f, ↓then_normal, ↓then_exit, ↓inBlock_exit, ↓Fin_normal, pval, rd_S, put_S, resV, resL, eq_self, mk, List.foldl_cons, List.foldl_nil, List.replicate_succ, List.replicate_zero, List.set_cons_zero, List.set_cons_succ, List.getElem?_cons_zero, List.getElem?_cons_succ, Option.getD_some, bin_lss, if_true, decide_false, Int.reduceLT]
          exact gc_same rfl
        have h109 : ACalls Try.prog 109 [.nilS, I 0, .fn 98 [.ptr A.length 0]] H (.tuple []) H := by
          refine acalls hmix Try.func109 (by kernel_rfl) t109 3 rfl (by decide) ?_
          dsimp only [m109]
          simp (maxSteps := 4000000) -implicitDefEqProofs -dsimp (disch := omega) only [↓AW_ops, ↓AW_seq, ↓AW_block, ↓AOps_nil, ↓AOps_pu, on_some, ↓then_normal, pval, rd_S, rd_C, put_S, ↓AW_toLoop, List.replicate_succ, List.replicate_zero, List.set_cons_zero, List.set_cons_succ, List.getElem?_cons_zero, List.getElem?_cons_succ, Option.getD_some, Nat.reduceSub, List.cons_append, List.nil_append]
          refine LoopK.by 63 (fun _ : Unit => True) (fun _ => [(0, .nilS), (1, I 0), (2, .fn 98 [.ptr A.length 0]), (6, I 20), (7, I 0), (8, I 20)]) (fun _ => H) (fun _ => 0) () trivial rfl (by simp [Has, rd_s]) rfl ?_
          rintro _ _
          simp (maxSteps := 4000000) -implicitDefEqProofs -dsimp (disch := omega) only [↓AW_ops, ↓AW_seq, ↓AW_cond, ↓AW_exit, ↓AOps_nil, ↓AOps_pu, ↓AOps_call, on_some, condB_f, ↓then_normal, ↓then_exit, ↓inBlock_exit, pval, rd_S, put_S, eq_self, mk, List.foldl_cons, List.foldl_nil, List.replicate_succ, List.replicate_zero, List.set_cons_zero, List.set_cons_succ, List.getElem?_cons_zero, List.getElem?_cons_succ, Option.getD_some, map_c, map_n, bin_leq, if_true, decide_false, Int.reduceLE]
          refine CallK.of h112 ?_
          simp (maxSteps := 4000000) -implicitDefEqProofs -dsimp (disch := omega) only [↓AW_block, ↓AOps_nil, extK_same, ↓then_normal, put_S, ↓AW_toLoop, mk, List.foldl_cons, List.foldl_nil, List.replicate_succ, List.replicate_zero, List.set_cons_zero, List.set_cons_succ]
          refine LoopK.by 63 (fun _ : Unit => True) (fun _ => [(0, .nilS), (1, I 0), (2, .fn 98 [.ptr A.length 0]), (6, I 20)]) (fun _ => H) (fun _ => 0) () trivial rfl (by simp [Has, rd_s]) rfl ?_
          rintro _ _
          simp (maxSteps := 4000000) -implicitDefEqProofs -dsimp (disch := omega) only [↓AW_ops, ↓AW_seq, ↓AW_cond, ↓AW_exit, ↓AOps_nil, ↓AOps_pu, on_some, condB_f, ↓then_normal, ↓then_exit, ↓inBlock_exit, ↓Fin_normal, pval, rd_S, put_S, resV, resL, eq_self, mk, List.foldl_cons, List.foldl_nil, List.replicate_succ, List.replicate_zero, List.set_cons_zero, List.set_cons_succ, List.getElem?_cons_zero, List.getElem?_cons_succ, Option.getD_some, bin_lss, if_true, decide_false, Int.reduceLT]
          exact gc_same rfl
        refine acalls hmix Try.func97 (by kernel_rfl) t97 2 rfl (by decide) ?_
        dsimp only [m97]
        simp (maxSteps := 4000000) -implicitDefEqProofs -dsimp (disch := omega) only [↓AW_ops, ↓AOps_pu, ↓AOps_call, on_some, pval, rd_S, put_S, List.replicate_succ, List.replicate_zero, List.set_cons_zero, List.set_cons_succ, List.getElem?_cons_zero, List.getElem?_cons_succ, Option.getD_some, map_c, map_n, Nat.reduceSub, List.cons_append, List.nil_append, lenA]
        refine CallK.of h109 ?_
        simp (maxSteps := 4000000) -implicitDefEqProofs -dsimp (disch := omega) only [↓AOps_nil, on_some, extK_same, ↓Fin_normal, resV, resL]
        exact gc_same rfl
      subst hz0
      refine CallK.of (hnil H) ?_
      simp (maxSteps := 4000000) -implicitDefEqProofs -dsimp (disch := omega) only [↓AW_ops, ↓AW_seq, ↓AW_ret, ↓AOps_nil, ↓AOps_pu, on_some, extK_same, ↓then_normal, ↓FinR_ret, pval, rd_S, put_S, resV, resL, mk, List.foldl_cons, List.foldl_nil, List.replicate_succ, List.replicate_zero, List.set_cons_zero, List.set_cons_succ, List.getElem?_cons_zero, List.getElem?_cons_succ, Option.getD_some]
      exact ⟨_, _, gc_all, hpA.trans hac.1, [], L1_nil _, by rw [show nums rs = [] from hpl], .nil⟩
    · obtain ⟨n, ho, hzv⟩ := AccL_ol hac e1_len (by rw [plc_len]; omega)
      have hcmp : CmpOK (wct rs) H n A.length (plc rs.length) := by
        intro zs hzs x hx y hy
        have ho2 := OL_setAll ho zs hzs.length_eq
        have hx' := mem_plc.1 hx
        have hy' := mem_plc.1 hy
        exact s98 (ld_mono ho2.pre hld1) (hu1.mono ho2.pre) hn hx'.1 (by omega) hy'.1 (by omega)
      obtain ⟨zs, hcs, hp, hs⟩ := c_stable ho (by rw [plc_len]; omega) hcmp
      refine CallK.of hcs ?_
      simp (maxSteps := 4000000) -implicitDefEqProofs -dsimp (disch := omega) only [↓AW_ops, ↓AW_seq, ↓AW_ret, ↓AOps_nil, ↓AOps_pu, on_some, extK_false, ↓then_normal, ↓FinR_ret, pval, rd_S, put_S, resV, resL, mk, List.foldl_cons, List.foldl_nil, List.replicate_succ, List.replicate_zero, List.set_cons_zero, List.set_cons_succ, List.getElem?_cons_zero, List.getElem?_cons_succ, Option.getD_some]
      have ho2 := OL_setAll ho zs hp.length_eq
      exact ⟨_, _, gc_all, hpA.trans ho2.pre, zs, ho2.ls, hp, hs⟩
end
end Go.Proofs.Ytkgfcdpckfhknaa

namespace Go.Proofs.Ytkgfcdpckfhknaa
open Go Go.Eng
/-- Numbers in ascending order. -/
def srt (xs : List Int) : List Int := xs.mergeSort (fun a b => decide (a ≤ b))
theorem srt_perm (xs : List Int) : (srt xs).Perm xs := List.mergeSort_perm xs _
theorem srt_pw (xs : List Int) : (srt xs).Pairwise (· ≤ ·) := by
  have := List.pairwise_mergeSort (le := fun a b : Int => decide (a ≤ b)) (fun a b c h k => by simp at *; omega) (fun a b => by simp; omega) xs
  exact this.imp (fun h => by simpa using h)
theorem srt_len (xs : List Int) : (srt xs).length = xs.length := (srt_perm xs).length_eq
theorem srt_uniq {zs xs : List Int} (hp : zs.Perm xs) (h : zs.Pairwise (· ≤ ·)) : zs = srt xs :=
  List.Perm.eq_of_pairwise (le := fun a b : Int => a ≤ b) (fun a b _ _ h1 h2 => by omega) h (srt_pw xs) (hp.trans (srt_perm xs).symm)
theorem SU.srt {zs xs : List Int} (hp : zs.Perm xs) {i : Nat} (h : SU (fun a => a) zs i) (hi : xs.length ≤ i) : zs = srt xs := by
  refine srt_uniq hp (SU.all (w := fun a => a) (fun p q a b h1 h2 => h p q a b h1 ?_))
  have := hp.length_eq
  omega
theorem s131 (a : Int) (A : AHeap) : ACalls Try.prog 131 [I a] A (B false) A := by
  refine acalls hmix Try.func131 (by kernel_rfl) t131 1 rfl (by decide) ?_
  dsimp only [m131]
  simp (maxSteps := 4000000) -implicitDefEqProofs -dsimp (disch := omega) only [↓AW_ops, ↓AW_seq, ↓AW_ret, ↓AOps_nil, ↓AOps_pu, on_some, ↓then_normal, ↓Fin_ret, pval, rd_S, rd_C, put_S, resV, resL, eq_self, List.replicate_succ, List.replicate_zero, List.set_cons_zero, List.set_cons_succ, List.getElem?_cons_zero, List.getElem?_cons_succ, Option.getD_some, Nat.reduceSub, List.cons_append, List.nil_append, bin_neq, decide_false, not_true_eq_false]
  exact gc_same rfl
theorem sLess (a b : Int) (A : AHeap) : ACalls Try.prog 120 [I a, I b] A (B (decide (a < b))) A := by
  refine acalls hmix Try.func120 (by kernel_rfl) t120 2 rfl (by decide) ?_
  dsimp only [m120]
  simp (maxSteps := 4000000) -implicitDefEqProofs -dsimp (disch := omega) only [↓AW_ops, ↓AW_seq, ↓AOps_nil, ↓AOps_pu, ↓AOps_call, on_some, ↓then_normal, pval, rd_S, rd_C, put_S, List.replicate_succ, List.replicate_zero, List.set_cons_zero, List.set_cons_succ, List.getElem?_cons_zero, List.getElem?_cons_succ, Option.getD_some, map_c, map_n, Nat.reduceSub, List.cons_append, List.nil_append]
  refine CallK.of (s131 a A) ?_
  simp (maxSteps := 4000000) -implicitDefEqProofs -dsimp (disch := omega) only [↓AW_ret, ↓AOps_nil, ↓AOps_pu, ↓AOps_guard, on_some, extK_same, guardB_ft, guardB_ff, skipS_some, ↓then_normal, ↓Fin_ret, pval, rd_S, rd_C, put_S, resV, resL, List.replicate_succ, List.replicate_zero, List.set_cons_zero, List.set_cons_succ, List.getElem?_cons_zero, List.getElem?_cons_succ, Option.getD_some, Nat.reduceSub, List.cons_append, List.nil_append, bin_lss, if_false, Bool.false_eq_true]
  exact gc_same rfl
theorem c_ins {xs : List Int} {v : AV} {A H : AHeap} {n : Nat} (h : OL 1 e1 A H n v xs) (hl : xs.length ≤ 1000) : ACalls Try.prog 114 [v, I 0, I xs.length] H (.tuple []) (H.set n (.cells true ((srt xs).flatMap e1))) := by
  refine acalls hmix Try.func114 (by kernel_rfl) t114 3 rfl (by decide) ?_
  dsimp only [m114]
  simp (maxSteps := 4000000) -implicitDefEqProofs -dsimp (disch := omega) only [↓AW_ops, ↓AW_seq, ↓AW_block, ↓AOps_nil, ↓AOps_pu, on_some, ↓then_normal, pval, rd_S, rd_C, put_S, ↓AW_toLoop, List.replicate_succ, List.replicate_zero, List.set_cons_zero, List.set_cons_succ, List.getElem?_cons_zero, List.getElem?_cons_succ, Option.getD_some, Nat.reduceSub, List.cons_append, List.nil_append, bin_add, w64, Int.reduceAdd]
  refine LoopK.by 49 (fun x : Nat × List Int => (1 ≤ x.1 ∧ x.1 ≤ xs.length + 1) ∧ x.2.Perm xs ∧ SU (fun a => a) x.2 x.1) (fun x => [(0, v), (1, I 0), (2, I xs.length), (6, I x.1)]) (fun x => H.set n (.cells true (x.2.flatMap e1))) (fun x => xs.length + 1 - x.1) (1, xs) ⟨by simp only; omega, List.Perm.refl _, SU.one _ _⟩ rfl (by simp [Has, rd_s]) (by simp only; rw [set_same h.ob]) ?_
  rintro ⟨i, zs⟩ ⟨hi, hpz, hz⟩
  simp only at hi hpz hz
  by_cases hlt : i < xs.length
  · have hlt' : (i : Int) < xs.length := by omega
    simp (maxSteps := 4000000) -implicitDefEqProofs -dsimp (disch := omega) only [↓AW_skip, ↓AW_ops, ↓AW_seq, ↓AW_cond, ↓AW_block, ↓AOps_nil, ↓AOps_pu, on_some, condB_t, ↓then_normal, pval, rd_S, put_S, ↓AW_toLoop, mk, List.foldl_cons, List.foldl_nil, List.replicate_succ, List.replicate_zero, List.set_cons_zero, List.set_cons_succ, List.getElem?_cons_zero, List.getElem?_cons_succ, Option.getD_some, bin_lss, decide_true, hlt']
    refine LoopK.by 49 (fun x : Nat × List Int => x.1 ≤ i ∧ IS (fun a => a) xs x.2 i x.1) (fun x => [(0, v), (1, I 0), (2, I xs.length), (6, I i), (7, I x.1)]) (fun x => H.set n (.cells true (x.2.flatMap e1))) (fun x => x.1) (i, zs) ⟨by simp only; omega, IS.start hpz hz⟩ rfl (by simp [Has, rd_s]) rfl ?_
    rintro ⟨j, ws⟩ ⟨hj, hs⟩
    simp only at hj hs
    have hlen := hs.perm.length_eq
    have ho := OL_setAll h ws hlen
    cases j with
    | zero =>
      have hz0 : ¬ ((0 : Nat) : Int) > 0 := by omega
      simp (maxSteps := 4000000) -implicitDefEqProofs -dsimp (disch := omega) only [↓AW_ops, ↓AW_seq, ↓AW_cond, ↓AW_exit, ↓AOps_nil, ↓AOps_pu, ↓AOps_guard, on_some, guardB_ft, skipS_some, condB_f, ↓then_normal, ↓then_exit, ↓inBlock_normal, ↓inBlock_exit, ↓Fin_normal, pval, rd_S, rd_C, put_S, resV, resL, eq_self, mk, List.foldl_cons, List.foldl_nil, List.replicate_succ, List.replicate_zero, List.set_cons_zero, List.set_cons_succ, List.getElem?_cons_zero, List.getElem?_cons_succ, Option.getD_some, List.length_cons, List.length_nil, Nat.reduceAdd, Nat.reduceEqDiff, Nat.zero_add, bin_add, bin_gtr, w64, if_true, if_false, Bool.false_eq_true, decide_false, true_and, reduceCtorEq, Int.reduceLT, Int.ofNat_zero]
      exact ⟨(i + 1, ws), ⟨by simp only; omega, hs.perm, hs.zero⟩, by simp [Has, rd_s], rfl, by simp only; omega⟩
    | succ k =>
      have hk1 : k + 1 < ws.length := by omega
      have hk0 : k < ws.length := by omega
      have hjp : (0 : Int) < ((k + 1 : Nat) : Int) := by omega
      have hjm : ((k + 1 : Nat) : Int) - 1 = (k : Int) := by omega
      obtain ⟨x, hx⟩ : ∃ x, ws[k + 1]? = some x := ⟨_, List.getElem?_eq_getElem hk1⟩
      obtain ⟨y, hy⟩ : ∃ y, ws[k]? = some y := ⟨_, List.getElem?_eq_getElem hk0⟩
      have h1 := ho.st hk1 (I y) y rfl
      rw [List.set_set] at h1
      have ho2 := OL_setAll h (ws.set (k + 1) y) (by simp [hlen])
      have h2 := ho2.st (i := k) (by simp; omega) (I x) x rfl
      rw [List.set_set] at h2
      have hswap := hs.swap (x := x) (y := y) hj hx hy
      have hstop := hs.stop hx hy
      generalize hJ : ((k + 1 : Nat) : Int) = J at *
      have hidx1 : idxA 1 v (.int .i64 J) = some (.ptr (nm v) (of v + (k + 1) * 1)) := by rw [← hJ]; exact ho.ls.idx hk1
      simp (maxSteps := 4000000) -implicitDefEqProofs -dsimp (disch := omega) only [↓AW_ops, ↓AW_seq, ↓AOps_pu, ↓AOps_ld, ↓AOps_call, ↓AOps_guard, on_some, guardB_tt, pval, lval, rd_S, rd_C, put_S, partA, eq_self, mk, List.foldl_cons, List.foldl_nil, List.replicate_succ, List.replicate_zero, List.set_cons_zero, List.set_cons_succ, List.getElem?_cons_zero, List.getElem?_cons_succ, List.drop_zero, List.take_succ_cons, List.take_nil, Option.getD_some, map_c, map_n, List.length_cons, List.length_nil, Nat.reduceLeDiff, Nat.zero_add, bin_sub, bin_gtr, w64, if_true, if_false, Bool.false_eq_true, decide_true, Go.Eng.e1, hjp, hjm, hidx1, ho.ls.ld0 hx 1 false (by decide), ho.ls.idx hk0, ho.ls.ld0 hy 1 false (by decide)]
      refine CallK.of (sLess x y _) ?_
      by_cases hxy : x < y
      · simp (maxSteps := 4000000) -implicitDefEqProofs -dsimp (disch := omega) only [↓AW_skip, ↓AW_ops, ↓AW_seq, ↓AW_cond, ↓AW_block, ↓AOps_nil, ↓AOps_pu, ↓AOps_ld, ↓AOps_ha, on_some, extK_false, extK_same, condB_t, ↓then_normal, ↓inBlock_normal, pval, lval, hval_st, rd_S, rd_C, put_S, putS_none, partA, eq_self, mk, List.foldl_cons, List.foldl_nil, List.replicate_succ, List.replicate_zero, List.set_cons_zero, List.set_cons_succ, List.getElem?_cons_zero, List.getElem?_cons_succ, List.drop_zero, List.take_succ_cons, List.take_nil, Option.getD_some, Option.map_some, List.length_cons, List.length_nil, Nat.reduceAdd, Nat.reduceLeDiff, Nat.zero_add, bin_sub, w64, if_true, if_false, Bool.false_eq_true, decide_true, Go.Eng.e1, true_and, hxy, hjm, hidx1, ho.ls.ld0 hx 1 false (by decide), ho.ls.idx hk0, ho.ls.ld0 hy 1 false (by decide), h1, h2]
        exact ⟨(k, (ws.set (k + 1) y).set k x), ⟨by simp only; omega, hswap hxy⟩, by simp [Has, rd_s], rfl, by simp only; omega⟩
      · simp (maxSteps := 4000000) -implicitDefEqProofs -dsimp (disch := omega) only [↓AW_ops, ↓AW_cond, ↓AW_exit, ↓AOps_nil, ↓AOps_pu, on_some, extK_same, condB_f, ↓then_normal, ↓then_exit, ↓inBlock_normal, ↓inBlock_exit, ↓Fin_normal, pval, rd_S, rd_C, put_S, resV, resL, eq_self, mk, List.foldl_cons, List.foldl_nil, List.replicate_succ, List.replicate_zero, List.set_cons_zero, List.set_cons_succ, List.getElem?_cons_zero, List.getElem?_cons_succ, Option.getD_some, List.length_cons, List.length_nil, Nat.reduceAdd, Nat.reduceEqDiff, Nat.zero_add, bin_add, w64, if_true, if_false, decide_false, true_and, reduceCtorEq, hxy]
        exact ⟨(i + 1, ws), ⟨by simp only; omega, hs.perm, hstop hxy⟩, by simp [Has, rd_s], rfl, by simp only; omega⟩
  · have hlt' : ¬ (i : Int) < xs.length := by omega
    have he := SU.srt hpz hz (by omega)
    simp (maxSteps := 4000000) -implicitDefEqProofs -dsimp (disch := omega) only [↓AW_ops, ↓AW_seq, ↓AW_cond, ↓AW_exit, ↓AOps_nil, ↓AOps_pu, on_some, condB_f, ↓then_normal, ↓then_exit, ↓inBlock_exit, ↓Fin_normal, pval, rd_S, put_S, resV, resL, eq_self, mk, List.foldl_cons, List.foldl_nil, List.replicate_succ, List.replicate_zero, List.set_cons_zero, List.set_cons_succ, List.getElem?_cons_zero, List.getElem?_cons_succ, Option.getD_some, bin_lss, if_true, decide_false, hlt']
    rw [he]
    exact gc_same_all rfl rfl
theorem c_pdq {xs : List Int} {v : AV} {A H : AHeap} {n : Nat} (h : OL 1 e1 A H n v xs) (hl : xs.length ≤ 12) (k : Int) : ACalls Try.prog 110 [v, I 0, I xs.length, I k] H (.tuple []) (H.set n (.cells true ((srt xs).flatMap e1))) := by
  refine acalls hmix Try.func110 (by kernel_rfl) t110 4 rfl (by decide) ?_
  dsimp only [m110]
  simp (maxSteps := 4000000) -implicitDefEqProofs -dsimp (disch := omega) only [↓AW_ops, ↓AW_seq, ↓AW_block, ↓AOps_nil, ↓AOps_pu, on_some, ↓then_normal, pval, rd_C, put_S, ↓AW_toLoop, List.replicate_succ, List.replicate_zero, List.set_cons_zero, List.set_cons_succ, Nat.reduceSub, List.cons_append, List.nil_append]
  refine LoopK.by 134 (fun _ : Unit => True) (fun _ => [(0, v), (1, I 0), (2, I xs.length), (3, I k), (8, B true), (9, B true)]) (fun _ => H) (fun _ => 0) () trivial rfl (by simp [Has, rd_s]) rfl ?_
  rintro _ _
  have h12 : (xs.length : Int) ≤ 12 := by omega
  have h0 : (xs.length : Int) - 0 = xs.length := by omega
  simp (maxSteps := 4000000) -implicitDefEqProofs -dsimp (disch := omega) only [↓AW_ops, ↓AW_seq, ↓AW_cond, ↓AW_block, ↓AOps_nil, ↓AOps_pu, ↓AOps_call, on_some, condB_t, ↓then_normal, pval, rd_S, rd_C, put_S, mk, List.foldl_cons, List.foldl_nil, List.replicate_succ, List.replicate_zero, List.set_cons_zero, List.set_cons_succ, List.getElem?_cons_zero, List.getElem?_cons_succ, Option.getD_some, map_c, map_n, bin_sub, bin_leq, w64, decide_true, h0, h12]
  refine CallK.of (c_ins h (by omega)) ?_
  simp (maxSteps := 4000000) -implicitDefEqProofs -dsimp (disch := omega) only [↓AW_ret, ↓AOps_nil, on_some, extK_false, ↓then_normal, ↓then_ret, ↓inBlock_ret, ↓Fin_ret, resV, resL]
  exact gc_same_all rfl rfl
def isI : Option (AV × AHeap) → Bool
  | some (.int .i64 _, _) => true
  | _ => false
set_option maxRecDepth 100000 in
theorem len_run : (List.range 13).all (fun k => isI (runF tab 300 14 111 [.int .u64 (k : Int)] [])) = true := by kernel_rfl
theorem c_Len {k : Nat} (hk : k ≤ 12) (A : AHeap) : ∃ n : Int, ACalls Try.prog 111 [.int .u64 (k : Int)] A (I n) A := by
  have h := List.all_eq_true.1 len_run k (List.mem_range.2 (by omega))
  cases hr : runF tab 300 14 111 [.int .u64 (k : Int)] [] with
  | none => rw [hr] at h; cases h
  | some p =>
    obtain ⟨v, A'⟩ := p
    rw [hr] at h
    have h2 : ∃ n, v = I n := by
      unfold isI at h
      split at h
      · rename_i m _ e; cases e; exact ⟨m, rfl⟩
      · cases h
    obtain ⟨n, rfl⟩ := h2
    exact ⟨n, (runF_ok hmix tabOK 300 14 111 [.int .u64 (k : Int)] [] _ _ hr).lift (by simp [flat]) rfl A⟩
theorem wu64 {n : Int} (h0 : 0 ≤ n) (h1 : n < 18446744073709551616) : IntKind.u64.wrap n = n := by
  have : (2 : Int) ^ IntKind.u64.bits = 18446744073709551616 := by decide
  unfold IntKind.wrap
  simp only [this, IntKind.signed, Bool.false_and, Bool.false_eq_true, if_false]
  exact Int.emod_eq_of_lt h0 h1
theorem c_Sort {xs : List Int} {v : AV} {A H : AHeap} {n : Nat} (h : OL 1 e1 A H n v xs) (hl : xs.length ≤ 12) : ACalls Try.prog 100 [v] H (.tuple []) (H.set n (.cells true ((srt xs).flatMap e1))) := by
  refine acalls hmix Try.func100 (by kernel_rfl) t100 1 rfl (by decide) ?_
  obtain ⟨k, hk⟩ := c_Len hl H
  have hw := wu64 (n := (xs.length : Int)) (by omega) (by omega)
  dsimp only [m100]
  simp (maxSteps := 4000000) -implicitDefEqProofs -dsimp (disch := omega) only [↓AW_ops, ↓AW_seq, ↓AOps_nil, ↓AOps_pu, ↓AOps_call, on_some, ↓then_normal, pval, rd_S, put_S, List.replicate_succ, List.replicate_zero, List.set_cons_zero, List.set_cons_succ, List.getElem?_cons_zero, List.getElem?_cons_succ, Option.getD_some, map_c, map_n, Nat.reduceSub, List.cons_append, List.nil_append, h.ls.len, hw]
  refine CallK.of hk ?_
  simp (maxSteps := 4000000) -implicitDefEqProofs -dsimp (disch := omega) only [↓AOps_call, extK_same, rd_S, rd_C, put_S, List.replicate_succ, List.replicate_zero, List.set_cons_zero, List.set_cons_succ, List.getElem?_cons_zero, List.getElem?_cons_succ, Option.getD_some, map_c, map_n, Nat.reduceSub, List.cons_append, List.nil_append]
  refine CallK.of (c_pdq h hl k) ?_
  simp (maxSteps := 4000000) -implicitDefEqProofs -dsimp (disch := omega) only [↓AOps_nil, on_some, extK_false, ↓Fin_normal, resV, resL]
  exact gc_same_all rfl rfl
theorem c_SortNil (A : AHeap) : ACalls Try.prog 100 [.nilS] A (.tuple []) A := by
  have h114 : ACalls Try.prog 114 [.nilS, I 0, I 0] A (.tuple []) A := by
    refine acalls hmix Try.func114 (by kernel_rfl) t114 3 rfl (by decide) ?_
    dsimp only [m114]
    simp (maxSteps := 4000000) -implicitDefEqProofs -dsimp (disch := omega) only [↓AW_ops, ↓AW_seq, ↓AW_block, ↓AOps_nil, ↓AOps_pu, on_some, ↓then_normal, pval, rd_S, rd_C, put_S, ↓AW_toLoop, List.replicate_succ, List.replicate_zero, List.set_cons_zero, List.set_cons_succ, List.getElem?_cons_zero, List.getElem?_cons_succ, Option.getD_some, Nat.reduceSub, List.cons_append, List.nil_append, bin_add, w64, Int.reduceAdd]
    refine LoopK.by 49 (fun _ : Unit => True) (fun _ => [(0, .nilS), (1, I 0), (2, I 0), (6, I 1)]) (fun _ => A) (fun _ => 0) () trivial rfl (by simp [Has, rd_s]) rfl ?_
    rintro _ _
    simp (maxSteps := 4000000) -implicitDefEqProofs -dsimp (disch := omega) only [↓AW_ops, ↓AW_seq, ↓AW_cond, ↓AW_exit, ↓AOps_nil, ↓AOps_pu, on_some, condB_f, ↓then_normal, ↓then_exit, ↓inBlock_exit, ↓Fin_normal, pval, rd_S, put_S, resV, resL, eq_self, mk, List.foldl_cons, List.foldl_nil, List.replicate_succ, List.replicate_zero, List.set_cons_zero, List.set_cons_succ, List.getElem?_cons_zero, List.getElem?_cons_succ, Option.getD_some, bin_lss, if_true, decide_false, Int.reduceLT]
    exact gc_same rfl
  have h110 : ∀ k : Int, ACalls Try.prog 110 [.nilS, I 0, I 0, I k] A (.tuple []) A := by
    intro k
    refine acalls hmix Try.func110 (by kernel_rfl) t110 4 rfl (by decide) ?_
    dsimp only [m110]
    simp (maxSteps := 4000000) -implicitDefEqProofs -dsimp (disch := omega) only [↓AW_ops, ↓AW_seq, ↓AW_block, ↓AOps_nil, ↓AOps_pu, on_some, ↓then_normal, pval, rd_C, put_S, ↓AW_toLoop, List.replicate_succ, List.replicate_zero, List.set_cons_zero, List.set_cons_succ, Nat.reduceSub, List.cons_append, List.nil_append]
    refine LoopK.by 134 (fun _ : Unit => True) (fun _ => [(0, .nilS), (1, I 0), (2, I 0), (3, I k), (8, B true), (9, B true)]) (fun _ => A) (fun _ => 0) () trivial rfl (by simp [Has, rd_s]) rfl ?_
    rintro _ _
    simp (maxSteps := 4000000) -implicitDefEqProofs -dsimp (disch := omega) only [↓AW_ops, ↓AW_seq, ↓AW_cond, ↓AW_block, ↓AOps_nil, ↓AOps_pu, ↓AOps_call, on_some, condB_t, ↓then_normal, pval, rd_S, rd_C, put_S, mk, List.foldl_cons, List.foldl_nil, List.replicate_succ, List.replicate_zero, List.set_cons_zero, List.set_cons_succ, List.getElem?_cons_zero, List.getElem?_cons_succ, Option.getD_some, map_c, map_n, bin_sub, bin_leq, w64, decide_true, Int.reduceLE, Int.reduceSub]
    refine CallK.of h114 ?_
    simp (maxSteps := 4000000) -implicitDefEqProofs -dsimp (disch := omega) only [↓AW_ret, ↓AOps_nil, on_some, extK_same, ↓then_normal, ↓then_ret, ↓inBlock_ret, ↓Fin_ret, resV, resL]
    exact gc_same rfl
  refine acalls hmix Try.func100 (by kernel_rfl) t100 1 rfl (by decide) ?_
  obtain ⟨k, hk⟩ := c_Len (k := 0) (by omega) A
  have hw := wu64 (n := 0) (by omega) (by omega)
  dsimp only [m100]
  simp (maxSteps := 4000000) -implicitDefEqProofs -dsimp (disch := omega) only [↓AW_ops, ↓AW_seq, ↓AOps_nil, ↓AOps_pu, ↓AOps_call, on_some, ↓then_normal, pval, rd_S, put_S, List.replicate_succ, List.replicate_zero, List.set_cons_zero, List.set_cons_succ, List.getElem?_cons_zero, List.getElem?_cons_succ, Option.getD_some, map_c, map_n, Nat.reduceSub, List.cons_append, List.nil_append, lenA, hw]
  refine CallK.of hk ?_
  simp (maxSteps := 4000000) -implicitDefEqProofs -dsimp (disch := omega) only [↓AOps_call, extK_same, rd_S, rd_C, put_S, List.replicate_succ, List.replicate_zero, List.set_cons_zero, List.set_cons_succ, List.getElem?_cons_zero, List.getElem?_cons_succ, Option.getD_some, map_c, map_n, Nat.reduceSub, List.cons_append, List.nil_append]
  refine CallK.of (h110 k) ?_
  simp (maxSteps := 4000000) -implicitDefEqProofs -dsimp (disch := omega) only [↓AOps_nil, on_some, extK_same, ↓Fin_normal, resV, resL]
  exact gc_same rfl
/-- A list that the call has made is sorted in place. -/
theorem c_SortAcc {A H : AHeap} {v : AV} {xs : List Int} (h : AccL 1 e1 A H v xs) (hl : xs.length ≤ 12) : ∃ H', ACalls Try.prog 100 [v] H (.tuple []) H' ∧ A <+: H' ∧ L1 H' v (srt xs) ∧ AccL 1 e1 A H' v (srt xs) := by
  by_cases h0 : xs.length = 0
  · have hz : v = .nilS := by
      rcases h.2.2 with ⟨_, h4⟩ | ⟨h3, _⟩
      · exact h4
      · omega
    have hx : xs = [] := List.eq_nil_of_length_eq_zero h0
    subst hz
    subst hx
    have hs : srt [] = [] := by simp [srt]
    rw [hs]
    exact ⟨H, c_SortNil H, h.1, L1_nil _, h⟩
  · obtain ⟨n, ho, hv⟩ := AccL_ol h e1_len (by omega)
    have ho2 := OL_setAll ho (srt xs) (srt_len xs)
    refine ⟨_, c_Sort ho hl, ho2.pre, ho2.ls, ?_⟩
    have := ho2.acc (by rw [srt_len]; omega)
    rw [srt_len] at this
    rw [hv]
    exact this
section
variable {P : Nat} {rs : List Rd} {ks : List Int} {u v : AV} {A : AHeap}
theorem grw_snoc {R : Int → Rd} {L : List Int} {i : Nat} {k : Int} (h : L[i]? = some k) : grw R [] (L.take (i + 1)) = if Cn ((grw R [] (L.take i)).map R) (R k).1 (R k).2.1 then grw R [] (L.take i) else grw R [] (L.take i) ++ [k] := by
  rw [List.take_add_one, h]
  show grw R [] (L.take i ++ [k]) = _
  rw [grw_append]
  rfl
theorem grw_nos {L : List Int} (h : Nos rs L) : Nos rs (grw (rdx rs) [] L) := fun k hk => h k ((grw_sub L).subset hk)
theorem grw_small (hn : Net P rs) {L : List Int} (h : Nos rs L) : (grw (rdx rs) [] L).length + 1 ≤ P := by
  have h1 := grw_len (P := P) (h.inP hn)
  have := hn.p1
  have h2 := comps_pos (P := P) (S := L.map (rdx rs)) (by omega)
  omega
theorem Nos.take {L : List Int} (h : Nos rs L) (i : Nat) : Nos rs (L.take i) := fun k hk => h k (List.mem_of_mem_take hk)
set_option maxHeartbeats 8000000 in
theorem c_grow {L : List Int} (hu : L3 A u rs) (hx : L1 A v L) (hn : Net P rs) (hk : Nos rs L) (hl : L.length ≤ 1000000) : ∃ r H, ACalls Try.prog 61 [.agg [I P, u], v] A r H ∧ A <+: H ∧ L1 H r (srt (grw (rdx rs) [] L)) := by
  refine acallsR hmix Try.func61 (by kernel_rfl) t61 _ 2 rfl (by decide) ?_
  have hP7 := hn.p7
  dsimp only [m61]
  simp (maxSteps := 4000000) -implicitDefEqProofs -dsimp (disch := omega) only [↓AW_ops, ↓AW_seq, ↓AW_block, ↓AOps_nil, ↓AOps_pu, on_some, ↓then_normal, pval, rd_S, rd_C, put_S, ↓AW_toLoop, cells_agg, List.replicate_succ, List.replicate_zero, List.set_cons_zero, List.set_cons_succ, List.getElem?_cons_zero, List.getElem?_cons_succ, Option.getD_some, Nat.reduceSub, List.cons_append, List.nil_append, hx.len]
  refine LoopK.by 43 (fun x : Nat × AV × AHeap => x.1 ≤ L.length ∧ AccL 1 e1 A x.2.2 x.2.1 (grw (rdx rs) [] (L.take x.1))) (fun x => [(2, .agg [I P, u]), (5, x.2.1), (9, v), (10, I L.length), (11, I x.1)]) (fun x => x.2.2) (fun x => L.length - x.1) (0, .nilS, A) ⟨by simp only; omega, by rw [List.take_zero]; exact AccL.nil (List.prefix_refl _)⟩ rfl (by simp [Has, rd_s]) rfl ?_
  rintro ⟨i, y, H⟩ ⟨hi, hac⟩
  simp only at hi hac
  have hxH := hx.mono hac.1
  have huH := hu.mono hac.1
  by_cases hlt : i < L.length
  · obtain ⟨z, hz⟩ : ∃ z, L[i]? = some z := ⟨_, List.getElem?_eq_getElem hlt⟩
    have hlt' : (i : Int) < L.length := by omega
    obtain ⟨k0, k1⟩ := hk z (List.mem_of_getElem? hz)
    obtain ⟨hr, _⟩ := rdx_at k0 k1
    obtain ⟨⟨a0, a1⟩, ⟨b0, b1⟩⟩ := hn.inP k0 k1
    have hsm := grw_small hn (hk.take i)
    have hs := grw_snoc (R := rdx rs) hz
    have hgn := grw_nos (hk.take i)
    generalize hg : grw (rdx rs) [] (L.take i) = xs at *
    simp (maxSteps := 4000000) -implicitDefEqProofs -dsimp (disch := omega) only [↓AW_skip, ↓AW_ops, ↓AW_seq, ↓AW_cond, ↓AW_block, ↓AOps_nil, ↓AOps_pu, ↓AOps_ld, ↓AOps_call, on_some, condB_t, ↓then_normal, pval, lval_ld, rd_S, put_S, chkd, bgot, partA, eq_self, mk, List.foldl_cons, List.foldl_nil, List.replicate_succ, List.replicate_zero, List.set_cons_zero, List.set_cons_succ, List.getElem?_cons_zero, List.getElem?_cons_succ, List.drop_zero, List.take_succ_cons, List.take_nil, Option.getD_some, map_c, map_n, List.length_cons, List.length_nil, Nat.reduceAdd, Nat.reduceLeDiff, Nat.reduceEqDiff, Nat.zero_add, bin_lss, if_true, if_false, Bool.false_eq_true, decide_true, Go.Eng.e1, hlt', hxH.idx hlt, hxH.ld0 hz 1 false (by decide)]
    refine CallK.of (s99 huH (AccL_ls hac e1_len) hn hgn (by omega)) ?_
    have hpm := pre_app H [.mp (mI P (lab (xs.map (rdx rs))))]
    have hm := mp_new H (.mp (mI P (lab (xs.map (rdx rs)))))
    have hacm := hac.mono hpm
    have hum := huH.mono hpm
    generalize H ++ [AObj.mp (mI P (lab (xs.map (rdx rs))))] = H1 at *
    have hri := hum.idxI (k := .i64) k0 (show z < (rs.length : Int) by omega)
    have hla := lkI' hm a0 a1
    have hlb := lkI' hm b0 b1
    by_cases hc : Cn (xs.map (rdx rs)) (rdx rs z).1 (rdx rs z).2.1
    · have hq : lab (xs.map (rdx rs)) (rdx rs z).1 = lab (xs.map (rdx rs)) (rdx rs z).2.1 := (lab_eq_iff a0 b0).2 hc
      rw [if_pos hc] at hs
      simp (maxSteps := 4000000) -implicitDefEqProofs -dsimp (disch := omega) only [↓AW_skip, ↓AW_ops, ↓AW_seq, ↓AW_cond, ↓AOps_nil, ↓AOps_pu, ↓AOps_ld, on_some, extK_false, condB_f, ↓then_normal, ↓inBlock_normal, pval, lval_ld, lval_look, rd_S, rd_C, put_S, chkd, isAdr, bgot, cells_agg, partA, eq_self, mk, List.foldl_cons, List.foldl_nil, List.replicate_succ, List.replicate_zero, List.set_cons_zero, List.set_cons_succ, List.getElem?_cons_zero, List.getElem?_cons_succ, List.drop_zero, List.drop_succ_cons, List.take_zero, List.take_succ_cons, List.take_nil, Option.getD_some, List.length_cons, List.length_nil, Nat.reduceAdd, Nat.reduceLeDiff, Nat.zero_add, Nat.add_zero, bin_add, bin_neq, w64, if_true, if_false, Bool.false_eq_true, decide_false, true_and, not_true_eq_false, hri, hum.ld0 hr 1 false (by decide), hum.ld hr 1 1 false (by decide), e3, hla, hlb, hq]
      exact ⟨(i + 1, y, H1), ⟨hlt, by rw [hs]; exact hacm⟩, by simp [Has, rd_s], rfl, by simp only; omega⟩
    · have hq : ¬ lab (xs.map (rdx rs)) (rdx rs z).1 = lab (xs.map (rdx rs)) (rdx rs z).2.1 := fun e => hc ((lab_eq_iff a0 b0).1 e)
      rw [if_neg hc] at hs
      obtain ⟨v', H2, happ, hacc, _, n, len, rfl, _⟩ := AccL_push2 hacm e1_len (by omega) z (by simp only [lim]; omega)
      simp only [Go.Eng.e1] at happ
      simp (maxSteps := 4000000) -implicitDefEqProofs -dsimp (disch := omega) only [↓AW_ops, ↓AW_seq, ↓AW_cond, ↓AOps_nil, ↓AOps_pu, ↓AOps_ld, ↓AOps_ha, on_some, extK_false, extK_app, condB_t, ↓then_normal, ↓inBlock_normal, pval, lval_ld, lval_look, hval_blds, hval_app, rd_S, rd_C, put_S, chkd, isAdr, bgot, cells_agg, cells_int, splice, partA, fillA, repl, eq_self, mk, List.foldl_cons, List.foldl_nil, List.replicate_succ, List.replicate_zero, List.set_cons_zero, List.set_cons_succ, List.getElem?_cons_zero, List.getElem?_cons_succ, List.drop_zero, List.drop_succ_cons, List.drop_nil, List.take_zero, List.take_succ_cons, List.take_nil, Option.getD_some, map_c, map_n, List.length_cons, List.length_nil, Nat.reduceAdd, Nat.reduceLeDiff, Nat.zero_add, Nat.add_zero, List.nil_append, List.append_nil, bin_add, bin_neq, w64, if_true, if_false, Bool.false_eq_true, decide_true, true_and, and_true, not_false_eq_true, hri, hum.ld0 hr 1 false (by decide), hum.ld hr 1 1 false (by decide), e3, hla, hlb, hq, happ, List.replicate_zero, repl]
      exact ⟨(i + 1, .sl 1 n 0 len false, H2), ⟨hlt, by rw [hs]; exact hacc⟩, by simp [Has, rd_s], rfl, by simp only; omega⟩
  · have hlt' : ¬ ((i : Int) < L.length) := by omega
    rw [List.take_of_length_le (by omega)] at hac
    have hsm := grw_small hn hk
    obtain ⟨H', hcs, hp, hl1, _⟩ := c_SortAcc hac (by omega)
    simp (maxSteps := 4000000) -implicitDefEqProofs -dsimp (disch := omega) only [↓AW_ops, ↓AW_seq, ↓AW_cond, ↓AW_exit, ↓AOps_nil, ↓AOps_pu, ↓AOps_call, on_some, condB_f, ↓then_normal, ↓then_exit, ↓inBlock_exit, pval, rd_S, put_S, eq_self, mk, List.foldl_cons, List.foldl_nil, List.replicate_succ, List.replicate_zero, List.set_cons_zero, List.set_cons_succ, List.getElem?_cons_zero, List.getElem?_cons_succ, Option.getD_some, map_c, map_n, bin_lss, if_true, decide_false, hlt']
    refine CallK.of hcs ?_
    simp (maxSteps := 4000000) -implicitDefEqProofs -dsimp (disch := omega) only [↓AW_ops, ↓AW_seq, ↓AW_ret, ↓AOps_nil, ↓AOps_pu, on_some, extK_false, ↓then_normal, ↓FinR_ret, pval, rd_S, put_S, resV, resL, mk, List.foldl_cons, List.foldl_nil, List.replicate_succ, List.replicate_zero, List.set_cons_zero, List.set_cons_succ, List.getElem?_cons_zero, List.getElem?_cons_succ, Option.getD_some]
    exact ⟨_, _, gc_all, hp, hl1⟩
end
end Go.Proofs.Ytkgfcdpckfhknaa

namespace Go.Proofs.Ytkgfcdpckfhknaa
open Go Go.Eng
def bset (m s : Nat) : List Int := (plc m).filter (fun i => s.testBit i.toNat)
theorem bset_succ (m s : Nat) : bset (m + 1) s = bset m s ++ (if s.testBit m = true then [(m : Int)] else []) := filt_succ _ m
theorem plc_sorted : ∀ m : Nat, (plc m).Pairwise (· < ·)
  | 0 => List.Pairwise.nil
  | m + 1 => by
    rw [plc_succ, List.pairwise_append]
    refine ⟨plc_sorted m, List.pairwise_singleton _ _, fun a ha b hb => ?_⟩
    have h1 := (mem_plc.1 ha).2
    have h2 : b = (m : Int) := by simpa using hb
    omega
theorem bset_okS (m s : Nat) : okS m (bset m s) := by
  refine ⟨fun x hx => ?_, (plc_sorted m).filter _⟩
  have := mem_plc.1 (List.mem_filter.1 hx).1
  omega
theorem okS_split {m : Nat} {l : List Int} (h : okS ((m + 1 : Nat) : Int) l) : okS m l ∨ ∃ l', l = l' ++ [(m : Int)] ∧ okS m l' := by
  by_cases hm : (m : Int) ∈ l
  · right
    obtain ⟨a, b, rfl⟩ := List.append_of_mem hm
    have hp := List.pairwise_append.1 h.2
    have hb : b = [] := by
      cases b with
      | nil => rfl
      | cons y b =>
        have h1 := (List.pairwise_cons.1 hp.2.1).1 y (by simp)
        have h2 := h.1 y (by simp)
        omega
    subst hb
    refine ⟨a, rfl, fun x hx => ?_, hp.1⟩
    have h1 := hp.2.2 x hx m (by simp)
    have h2 := h.1 x (by simp [hx])
    omega
  · left
    refine ⟨fun x hx => ?_, h.2⟩
    have h2 := h.1 x hx
    have h3 : x ≠ (m : Int) := fun e => hm (e ▸ hx)
    omega
theorem bset_congr {m s t : Nat} (h : ∀ i, i < m → s.testBit i = t.testBit i) : bset m s = bset m t := by
  unfold bset
  refine List.filter_congr (fun x hx => ?_)
  have := mem_plc.1 hx
  rw [h x.toNat (by omega)]
theorem bset_ex : ∀ {m : Nat} {l : List Int}, okS m l → ∃ s, s < 2 ^ m ∧ bset m s = l
  | 0, l, h => by
    refine ⟨0, by simp, ?_⟩
    cases l with
    | nil => rfl
    | cons x l => have := h.1 x (by simp); omega
  | m + 1, l, h => by
    have e2 : 2 ^ (m + 1) = 2 ^ m + 2 ^ m := by rw [Nat.pow_succ]; omega
    rcases okS_split h with h1 | ⟨l', rfl, h1⟩
    · obtain ⟨s, hs, rfl⟩ := bset_ex h1
      refine ⟨s, by omega, ?_⟩
      rw [bset_succ, Nat.testBit_lt_two_pow hs]
      simp
    · obtain ⟨s, hs, rfl⟩ := bset_ex h1
      refine ⟨2 ^ m + s, by omega, ?_⟩
      rw [bset_succ, Nat.testBit_two_pow_add_eq, Nat.testBit_lt_two_pow hs, bset_congr (t := s) (fun i hi => Nat.testBit_two_pow_add_gt hi s)]
      simp
def subs (m : Nat) : List (List Int) := (List.range (2 ^ m)).map (bset m)
/-- All trees of a net. -/
noncomputable def trees (P : Nat) (rs : List Rd) : List (List Int) := (subs rs.length).filter (fun l => decide (Tree P (rdx rs) l))
theorem mem_subs {m : Nat} {l : List Int} : l ∈ subs m ↔ okS m l := by
  unfold subs
  rw [List.mem_map]
  constructor
  · rintro ⟨s, _, rfl⟩; exact bset_okS m s
  · intro h
    obtain ⟨s, hs, rfl⟩ := bset_ex h
    exact ⟨s, List.mem_range.2 hs, rfl⟩
theorem mem_trees {P : Nat} {rs : List Rd} {l : List Int} : l ∈ trees P rs ↔ okS rs.length l ∧ Tree P (rdx rs) l := by
  unfold trees
  rw [List.mem_filter, mem_subs, decide_eq_true_eq]
/-- One more: it is kept if none is cheaper; the dearer ones are thrown away. -/
def chst (c : List Int → Int) (out : List (List Int)) (l : List Int) : List (List Int) :=
  match out with
  | [] => [l]
  | x :: r => if c l < c x then [l] else if c l = c x then (x :: r) ++ [l] else x :: r
def chp (c : List Int → Int) (xs : List (List Int)) : List (List Int) := xs.foldl (chst c) []
theorem chp_snoc (c : List Int → Int) (xs : List (List Int)) (l : List Int) : chp c (xs ++ [l]) = chst c (chp c xs) l := by
  unfold chp
  rw [List.foldl_append]
  rfl
theorem chp_spec (c : List Int → Int) : ∀ xs : List (List Int), (∀ l, l ∈ chp c xs ↔ l ∈ xs ∧ ∀ y ∈ xs, c l ≤ c y) ∧ (xs ≠ [] → chp c xs ≠ []) := by
  intro xs
  have key : ∀ n (xs : List (List Int)), xs.length = n → (∀ l, l ∈ chp c xs ↔ l ∈ xs ∧ ∀ y ∈ xs, c l ≤ c y) ∧ (xs ≠ [] → chp c xs ≠ []) := by
    intro n
    induction n with
    | zero =>
      intro xs h
      have := List.eq_nil_of_length_eq_zero h
      subst this
      exact ⟨fun l => by simp [chp], fun h => absurd rfl h⟩
    | succ n ih =>
      intro xs h
      obtain ⟨ys, z, rfl⟩ : ∃ ys z, xs = ys ++ [z] := by
        rcases List.eq_nil_or_concat xs with e | ⟨ys, z, e⟩
        · subst e; simp at h
        · exact ⟨ys, z, by rw [e, List.concat_eq_append]⟩
      obtain ⟨h1, h2⟩ := ih ys (by simpa using h)
      rw [chp_snoc]
      unfold chst
      cases hc : chp c ys with
      | nil =>
        have hy : ys = [] := Classical.byContradiction (fun hn => h2 hn hc)
        subst hy
        simp
      | cons x r =>
        have hx : x ∈ chp c ys := by rw [hc]; simp
        have hx2 := (h1 x).1 hx
        simp only
        by_cases g1 : c z < c x
        · rw [if_pos g1]
          refine ⟨fun l => ?_, fun _ => by simp⟩
          rw [List.mem_singleton]
          constructor
          · rintro rfl
            refine ⟨by simp, fun y hy => ?_⟩
            rcases List.mem_append.1 hy with hy | hy
            · have := hx2.2 y hy; omega
            · have : y = l := by simpa using hy
              rw [this]; exact Int.le_refl _
          · rintro ⟨hl, hm⟩
            rcases List.mem_append.1 hl with hl | hl
            · have := hm z (by simp)
              have := hx2.2 l hl
              omega
            · simpa using hl
        · rw [if_neg g1]
          by_cases g2 : c z = c x
          · rw [if_pos g2]
            refine ⟨fun l => ?_, fun _ => by simp⟩
            rw [← hc, List.mem_append, List.mem_singleton, h1, List.mem_append, List.mem_singleton]
            constructor
            · rintro (⟨hl, hm⟩ | rfl)
              · refine ⟨.inl hl, fun y hy => ?_⟩
                rcases List.mem_append.1 hy with hy | hy
                · exact hm y hy
                · have e : y = z := by simpa using hy
                  rw [e, g2]
                  exact hm x hx2.1
              · refine ⟨.inr rfl, fun y hy => ?_⟩
                rcases List.mem_append.1 hy with hy | hy
                · have := hx2.2 y hy; omega
                · have e : y = l := by simpa using hy
                  rw [e]; exact Int.le_refl _
            · rintro ⟨hl, hm⟩
              rcases hl with hl | rfl
              · exact .inl ⟨hl, fun y hy => hm y (by simp [hy])⟩
              · exact .inr rfl
          · rw [if_neg g2]
            refine ⟨fun l => ?_, fun _ => by simp⟩
            rw [← hc, h1, List.mem_append, List.mem_singleton]
            constructor
            · rintro ⟨hl, hm⟩
              refine ⟨.inl hl, fun y hy => ?_⟩
              rcases List.mem_append.1 hy with hy | hy
              · exact hm y hy
              · have e : y = z := by simpa using hy
                rw [e]
                have := hm x hx2.1
                omega
            · rintro ⟨hl, hm⟩
              rcases hl with hl | rfl
              · exact ⟨hl, fun y hy => hm y (by simp [hy])⟩
              · have := hm x (by simp [hx2.1])
                omega
  exact key xs.length xs rfl
/-- All cheapest trees. -/
noncomputable def chl (P : Nat) (rs : List Rd) : List (List Int) := chp (cst (wct rs)) (trees P rs)
theorem mem_chl {P : Nat} {rs : List Rd} {l : List Int} : l ∈ chl P rs ↔ l ∈ trees P rs ∧ ∀ y ∈ trees P rs, cst (wct rs) l ≤ cst (wct rs) y := (chp_spec _ _).1 l
theorem chl_nil {P : Nat} {rs : List Rd} (h : trees P rs = []) : chl P rs = [] := by unfold chl; rw [h]; rfl
section
variable {P : Nat} {rs : List Rd}
/-- One order of the roads. -/
def ordL (rs : List Rd) : List Int := (nums rs).mergeSort (fun a b => decide (wct rs a ≤ wct rs b))
theorem ordL_ord (rs : List Rd) : Ord rs (ordL rs) := by
  refine ⟨List.mergeSort_perm _ _, ?_⟩
  have := List.pairwise_mergeSort (le := fun a b : Int => decide (wct rs a ≤ wct rs b)) (fun a b c h k => by simp at *; omega) (fun a b => by simp; omega) (nums rs)
  exact this.imp (fun h => by simpa using h)
theorem okS_nos {l : List Int} (h : okS rs.length l) : Nos rs l := fun k hk => by have := h.1 k hk; omega
theorem okS_nodup {b : Int} {l : List Int} (h : okS b l) : l.Nodup := h.2.imp (fun hh e => by omega)
theorem srt_okS {l : List Int} (hn : l.Nodup) (h : Nos rs l) : okS rs.length (srt l) := by
  refine ⟨fun x hx => by have := h x ((srt_perm l).mem_iff.1 hx); omega, ?_⟩
  have h1 := srt_pw l
  have h2 : (srt l).Nodup := (srt_perm l).nodup_iff.2 hn
  rw [List.nodup_iff_pairwise_ne] at h2
  exact (h1.and h2).imp (fun hh => by have := hh.1; have := hh.2; omega)
theorem Ord.wb {L : List Int} (h : Ord rs L) (hn : Net P rs) : ∀ k ∈ L, 0 ≤ wct rs k ∧ wct rs k ≤ (99 : Nat) := fun k hk => hn.wb (h.nos k hk).1 (h.nos k hk).2
theorem comps_ord {L M : List Int} (h : ∀ k, k ∈ L ↔ k ∈ M) : comps P (L.map (rdx rs)) = comps P (M.map (rdx rs)) := comps_mem (fun e => by
  rw [List.mem_map, List.mem_map]
  constructor
  · rintro ⟨k, hk, rfl⟩; exact ⟨k, (h k).1 hk, rfl⟩
  · rintro ⟨k, hk, rfl⟩; exact ⟨k, (h k).2 hk, rfl⟩)
/-- What the cheapest trees cost. -/
noncomputable def best (rs : List Rd) : Int := cst (wct rs) (grw (rdx rs) [] (ordL rs))
theorem best_of {L : List Int} (hn : Net P rs) (h : Ord rs L) : cst (wct rs) (grw (rdx rs) [] L) = best rs := by
  have h0 := ordL_ord rs
  have hL : ∀ k, k ∈ L ↔ k ∈ ordL rs := fun k => by rw [h.mem, h0.mem]
  have l1 := grw_len (P := P) (h.nos.inP hn)
  have l2 := grw_len (P := P) (h0.nos.inP hn)
  rw [comps_ord hL] at l1
  refine Int.le_antisymm ?_ ?_
  · exact grw_opt (M := 99) (h.nos.inP hn) h.s (h.wb hn) (fun k hk => (hL k).2 ((grw_sub _).subset hk)) (grw_cn (h0.nos.inP hn)).2 (by omega)
  · exact grw_opt (M := 99) (h0.nos.inP hn) h0.s (h0.wb hn) (fun k hk => (hL k).1 ((grw_sub _).subset hk)) (grw_cn (h.nos.inP hn)).2 (by omega)
theorem tree_best {T : List Int} (hn : Net P rs) (hT : Nos rs T) (h : Tree P (rdx rs) T) : best rs ≤ cst (wct rs) T := by
  have h0 := ordL_ord rs
  have hsub : ∀ k ∈ T, k ∈ ordL rs := fun k hk => h0.mem.2 (hT k hk)
  refine grw_opt (M := 99) (h0.nos.inP hn) h0.s (h0.wb hn) hsub h.ind ?_
  have hP1 := hn.p1
  have := (grw_tree (h0.nos.inP hn) (by omega)).2 (tree_all hsub h)
  have := this.1
  have := h.1
  omega
/-- All places can be joined. -/
def Jbl (P : Nat) (rs : List Rd) : Prop := comps P ((nums rs).map (rdx rs)) = 1
theorem jbl_of {L : List Int} (h : Ord rs L) : comps P (L.map (rdx rs)) = 1 ↔ Jbl P rs := by
  unfold Jbl
  rw [comps_ord (L := L) (M := nums rs) (fun k => by rw [h.mem, mem_plc]; omega)]
theorem jbl_grw {L : List Int} (hn : Net P rs) (h : Ord rs L) : Tree P (rdx rs) (srt (grw (rdx rs) [] L)) ↔ Jbl P rs := by
  have hP1 := hn.p1
  rw [← jbl_of h, ← grw_tree (h.nos.inP hn) (by omega)]
  exact ⟨fun k => k.perm (srt_perm _).symm, fun k => k.perm (srt_perm _)⟩
theorem jbl_trees (hn : Net P rs) : Jbl P rs ↔ trees P rs ≠ [] := by
  have h0 := ordL_ord rs
  constructor
  · intro h
    have hm : srt (grw (rdx rs) [] (ordL rs)) ∈ trees P rs := by
      rw [mem_trees]
      exact ⟨srt_okS (h0.nodup.sublist (grw_sub _)) (grw_nos h0.nos), (jbl_grw hn h0).2 h⟩
    intro e
    rw [e] at hm
    cases hm
  · intro h
    obtain ⟨T, hT⟩ := List.exists_mem_of_ne_nil _ h
    rw [mem_trees] at hT
    rw [← jbl_of h0]
    exact tree_all (fun k hk => h0.mem.2 (okS_nos hT.1 k hk)) hT.2
/-- A cheapest tree. -/
theorem chl_best (hn : Net P rs) {T : List Int} (hT : T ∈ trees P rs) : T ∈ chl P rs ↔ cst (wct rs) T = best rs := by
  have h0 := ordL_ord rs
  have hT2 := mem_trees.1 hT
  have hj : Jbl P rs := (jbl_trees hn).2 (fun e => by rw [e] at hT; cases hT)
  rw [mem_chl]
  constructor
  · rintro ⟨_, h⟩
    refine Int.le_antisymm ?_ (tree_best hn (okS_nos hT2.1) hT2.2)
    have hm : srt (grw (rdx rs) [] (ordL rs)) ∈ trees P rs := by
      rw [mem_trees]
      exact ⟨srt_okS (h0.nodup.sublist (grw_sub _)) (grw_nos h0.nos), (jbl_grw hn h0).2 hj⟩
    have := h _ hm
    rw [cst_perm (srt_perm _)] at this
    exact this
  · intro h
    refine ⟨hT, fun y hy => ?_⟩
    have hy2 := mem_trees.1 hy
    rw [h]
    exact tree_best hn (okS_nos hy2.1) hy2.2
end
end Go.Proofs.Ytkgfcdpckfhknaa

namespace Go.Proofs.Ytkgfcdpckfhknaa
open Go Go.Eng
section
variable {P : Nat} {rs : List Rd} {a b : Int}
/-- Roads of a list up to a cost join two places. -/
def cnT (rs : List Rd) (M : List Int) (t a b : Int) : Prop := Cn ((upTo (wct rs) M t).map (rdx rs)) a b
theorem cnT_mono {M : List Int} {t s : Int} (h : t ≤ s) (hc : cnT rs M t a b) : cnT rs M s a b :=
  map_sub (fun k hk => by
    rw [mem_upTo] at hk ⊢
    exact ⟨hk.1, by omega⟩) hc
noncomputable instance cnTDec (rs : List Rd) (M : List Int) (t a b : Int) : Decidable (cnT rs M t a b) := Classical.propDecidable _
/-- The smallest cost up to which roads of a list join two places. -/
noncomputable def bt (rs : List Rd) (M : List Int) (a b : Int) : Option Int := if a = b then some 0 else ((List.range 100).find? (fun c : Nat => decide (cnT rs M (c : Int) a b))).map Int.ofNat
theorem find_first {f : Nat → Bool} {n c : Nat} (hc : c < n) (h : f c = true) (hn : ∀ j, j < c → f j = false) : (List.range n).find? f = some c := by
  rw [List.find?_eq_some_iff_getElem]
  refine ⟨h, c, by simpa using hc, by simp, fun j hj => ?_⟩
  rw [List.getElem_range, hn j hj]
  rfl
theorem bt_at {M : List Int} {c : Int} (hab : ¬ a = b) (c0 : 0 ≤ c) (c1 : c ≤ 99) (h : cnT rs M c a b) (hn : ¬ cnT rs M (c - 1) a b) : bt rs M a b = some c := by
  unfold bt
  rw [if_neg hab, find_first (c := c.toNat) (by omega) (by
    refine decide_eq_true ?_
    rw [Int.toNat_of_nonneg c0]
    exact h) (fun j hj => decide_eq_false (fun hh => hn (cnT_mono (by omega) hh)))]
  show some (Int.ofNat c.toNat) = _
  congr 1
  exact Int.toNat_of_nonneg c0
theorem bt_none {M : List Int} (hab : ¬ a = b) (h : ¬ cnT rs M 99 a b) : bt rs M a b = none := by
  unfold bt
  rw [if_neg hab, Option.map_eq_none_iff, List.find?_eq_none]
  intro j hj
  have := List.mem_range.1 hj
  simp only [decide_eq_true_eq]
  exact fun hh => h (cnT_mono (by omega) hh)
theorem bt_spec {M : List Int} {c : Int} (h : bt rs M a b = some c) : (a = b ∧ c = 0) ∨ (¬ a = b ∧ (0 ≤ c ∧ c ≤ 99) ∧ cnT rs M c a b ∧ ∀ t, cnT rs M t a b → 0 ≤ t → c ≤ t) := by
  unfold bt at h
  by_cases hab : a = b
  · rw [if_pos hab] at h
    exact .inl ⟨hab, (Option.some.inj h).symm⟩
  · rw [if_neg hab] at h
    cases hf : (List.range 100).find? (fun c : Nat => decide (cnT rs M (c : Int) a b)) with
    | none => rw [hf] at h; cases h
    | some j =>
      rw [hf] at h
      have hc : c = (j : Int) := (Option.some.inj h).symm
      subst hc
      rw [List.find?_eq_some_iff_getElem] at hf
      obtain ⟨h1, i, hi, hij, hn⟩ := hf
      rw [List.getElem_range] at hij
      subst hij
      have hi100 : i < 100 := by simpa using hi
      refine .inr ⟨hab, by omega, of_decide_eq_true h1, fun t ht t0 => ?_⟩
      refine Classical.byContradiction (fun hlt => ?_)
      have := hn t.toNat (by omega)
      rw [List.getElem_range] at this
      have h2 : cnT rs M ((t.toNat : Nat) : Int) a b := by rw [Int.toNat_of_nonneg t0]; exact ht
      rw [decide_eq_true h2] at this
      cases this
theorem bt_none' {M : List Int} (hb : ∀ k ∈ M, wct rs k ≤ 99) (h : bt rs M a b = none) : ¬ a = b ∧ ∀ t, ¬ cnT rs M t a b := by
  by_cases hab : a = b
  · unfold bt at h
    rw [if_pos hab] at h
    cases h
  · refine ⟨hab, fun t ht => ?_⟩
    unfold bt at h
    rw [if_neg hab, Option.map_eq_none_iff, List.find?_eq_none] at h
    have h1 := h 99 (by simp)
    simp only [decide_eq_true_eq] at h1
    refine h1 (map_sub (fun k hk => ?_) ht)
    rw [mem_upTo] at hk ⊢
    exact ⟨hk.1, hb k hk.1⟩
/-- What is found by taking one road after another. -/
def LS (rs : List Rd) (L : List Int) (a b c : Int) (ok : Bool) : Prop :=
  (a = b ∧ c = 0 ∧ ok = true) ∨ (¬ a = b ∧ ok = true ∧ ∃ (i : Nat) (k : Int), L[i]? = some k ∧ c = wct rs k ∧ Cn ((L.take (i + 1)).map (rdx rs)) a b ∧ ¬ Cn ((L.take i).map (rdx rs)) a b) ∨
  (¬ a = b ∧ ok = false ∧ c = 0 ∧ ¬ Cn (L.map (rdx rs)) a b)
theorem LS_bt {L M : List Int} {c : Int} {ok : Bool} (hs : L.Pairwise (fun x y => wct rs x ≤ wct rs y)) (hM : ∀ k, k ∈ L ↔ k ∈ M) (hb : ∀ k ∈ L, 0 ≤ wct rs k ∧ wct rs k ≤ 99) (h : LS rs L a b c ok) : bt rs M a b = (if ok = true then some c else none) ∧ (ok = false → c = 0) := by
  rcases h with ⟨h1, h2, h3⟩ | ⟨h1, h2, i, k, h3, h4, h5, h6⟩ | ⟨h1, h2, h3, h4⟩
  · subst h3; subst h2
    refine ⟨?_, fun e => by cases e⟩
    unfold bt
    rw [if_pos h1, if_pos rfl]
  · subst h2
    refine ⟨?_, fun e => by cases e⟩
    rw [if_pos rfl]
    have hkL := List.mem_of_getElem? h3
    have hkb := hb k hkL
    have hil := (List.getElem?_eq_some_iff.1 h3).1
    have hke := (List.getElem?_eq_some_iff.1 h3).2
    refine bt_at h1 (by omega) (by omega) (map_sub (fun x hx => ?_) h5) (fun hh => h6 (map_sub (fun x hx => ?_) hh))
    · rw [mem_upTo]
      refine ⟨(hM x).1 (List.mem_of_mem_take hx), ?_⟩
      obtain ⟨j, hj, hje⟩ := List.mem_iff_getElem.1 hx
      rw [List.length_take] at hj
      rw [List.getElem_take] at hje
      by_cases hji : j = i
      · subst hji
        rw [h4, ← hje, hke]
        exact Int.le_refl _
      · have := List.pairwise_iff_getElem.1 hs j i (by omega) hil (by omega)
        rw [hje, hke] at this
        omega
    · rw [mem_upTo] at hx
      obtain ⟨j, hj, hje⟩ := List.mem_iff_getElem.1 ((hM x).2 hx.1)
      have hji : j < i := by
        refine Classical.byContradiction (fun hn => ?_)
        by_cases he : i = j
        · subst he
          rw [hke] at hje
          rw [← hje] at hx
          omega
        · have := List.pairwise_iff_getElem.1 hs i j hil hj (by omega)
          rw [hje, hke] at this
          omega
      rw [List.mem_take_iff_getElem]
      exact ⟨j, by omega, hje⟩
  · subst h2; subst h3
    refine ⟨?_, fun _ => rfl⟩
    simp only [Bool.false_eq_true, if_false]
    refine bt_none h1 (fun hh => h4 (map_sub (fun x hx => ?_) hh))
    rw [mem_upTo] at hx
    exact (hM x).2 hx.1
end
end Go.Proofs.Ytkgfcdpckfhknaa

namespace Go.Proofs.Ytkgfcdpckfhknaa
open Go Go.Eng
section
variable {P : Nat} {rs : List Rd} {ks : List Int} {u v : AV} {A : AHeap}
end
section
variable {Q : Int} {rs : List Rd} {u : AV} {A : AHeap}
end
end Go.Proofs.Ytkgfcdpckfhknaa

namespace Go.Proofs.Ytkgfcdpckfhknaa
open Go Go.Eng
/-- Rows of another list, put together anew. -/
structure Sel (A H : AHeap) (v : AV) (ws : List (AV × List Int)) : Prop where
  acc : AccL 1 e0 A H v ws
  inn : ∀ x ∈ ws, L1 A x.1 x.2
theorem Sel.ll {A H : AHeap} {v : AV} {ws : List (AV × List Int)} (h : Sel A H v ws) : LL H v ws := ⟨AccL_ls h.acc e0_len, fun x hx => (h.inn x hx).mono h.acc.1⟩
theorem Sel.nil {A H : AHeap} (h : A <+: H) : Sel A H .nilS [] := ⟨AccL.nil h, by simp⟩
theorem Sel.push {A H : AHeap} {v : AV} {ws : List (AV × List Int)} (h : Sel A H v ws) {x : AV × List Int} (hx : L1 A x.1 x.2) (hl : ws.length + 1 ≤ lim) :
    ∃ v' H2, appA 1 (H ++ [.cells true [x.1]]) v (.sl 1 H.length 0 1 true) = some (v', H2) ∧ Sel A H2 v' (ws ++ [x]) ∧ v'.cells? = some [v'] := by
  obtain ⟨v', H2, happ, hacc⟩ := h.acc.push e0_len x hl
  refine ⟨v', H2, happ, ⟨hacc, fun y hy => ?_⟩, Ls_cells (AccL_ls hacc e0_len)⟩
  rcases List.mem_append.1 hy with hy | hy
  · exact h.inn y hy
  · have : y = x := by simpa using hy
    rw [this]; exact hx
section
variable {P : Nat} {rs : List Rd} {ks : List Int} {u v : AV} {A : AHeap}
noncomputable instance jblDec (P : Nat) (rs : List Rd) : Decidable (Jbl P rs) := by unfold Jbl; infer_instance
end
section
variable {Q : Int} {rs : List Rd} {ks : List Int} {u v : AV} {A : AHeap}
end
section
variable {P : Nat} {rs : List Rd} {ks : List Int} {u v : AV} {A : AHeap}
end
end Go.Proofs.Ytkgfcdpckfhknaa

namespace Go.Proofs.Ytkgfcdpckfhknaa
open Go Go.Eng
section
variable {P : Nat} {rs : List Rd} {ks : List Int} {u v : AV} {A : AHeap}
set_option maxHeartbeats 8000000 in
theorem c_least {L : List Int} (hu : L3 A u rs) (hx : L1 A v L) (hn : Net P rs) (hk : Nos rs L) (hl : L.length ≤ 1000000) {a b : Int} (ha : 0 ≤ a ∧ a < P) (hb : 0 ≤ b ∧ b < P) : ∃ c ok, ACalls Try.prog 62 [.agg [I P, u], v, I a, I b] A (.tuple [I c, B ok]) A ∧ LS rs L a b c ok := by
  have key : ∃ r H', ACalls Try.prog 62 [.agg [I P, u], v, I a, I b] A r H' ∧ ∃ c ok, r = .tuple [I c, B ok] ∧ H' = A ∧ LS rs L a b c ok := by
    refine acallsR hmix Try.func62 (by kernel_rfl) t62 _ 4 rfl (by decide) ?_
    have hP7 := hn.p7
    by_cases hab : a = b
    · subst hab
      dsimp only [m62]
      simp (maxSteps := 4000000) -implicitDefEqProofs -dsimp (disch := omega) only [↓AW_ops, ↓AW_seq, ↓AW_cond, ↓AW_ret, ↓AOps_nil, ↓AOps_pu, on_some, condB_t, ↓then_normal, ↓then_ret, ↓FinR_ret, pval, rd_S, rd_C, put_S, resV, resL, cells_agg, eq_self, List.replicate_succ, List.replicate_zero, List.set_cons_zero, List.set_cons_succ, List.getElem?_cons_zero, List.getElem?_cons_succ, Option.getD_some, Nat.reduceSub, List.cons_append, List.nil_append, bin_eql, decide_true]
      exact ⟨_, _, gc_all, 0, true, rfl, rfl, .inl ⟨rfl, rfl, rfl⟩⟩
    dsimp only [m62]
    simp (maxSteps := 4000000) -implicitDefEqProofs -dsimp (disch := omega) only [↓AW_skip, ↓AW_ops, ↓AW_seq, ↓AW_cond, ↓AW_block, ↓AOps_nil, ↓AOps_pu, on_some, condB_f, ↓then_normal, pval, rd_S, rd_C, put_S, ↓AW_toLoop, cells_agg, List.replicate_succ, List.replicate_zero, List.set_cons_zero, List.set_cons_succ, List.getElem?_cons_zero, List.getElem?_cons_succ, Option.getD_some, Nat.reduceSub, List.cons_append, List.nil_append, bin_eql, decide_false, hab, hx.len]
    refine LoopK.by 44 (fun x : Nat × AV × AHeap => x.1 ≤ L.length ∧ AccL 1 e1 A x.2.2 x.2.1 (L.take x.1) ∧ ¬ Cn ((L.take x.1).map (rdx rs)) a b) (fun x => [(2, I a), (3, I b), (4, .agg [I P, u]), (10, x.2.1), (17, v), (18, I L.length), (19, I x.1)]) (fun x => x.2.2) (fun x => L.length - x.1) (0, .nilS, A) ⟨by simp only; omega, by rw [List.take_zero]; exact AccL.nil (List.prefix_refl _), by rw [List.take_zero]; exact fun h => hab h.nil⟩ rfl (by simp [Has, rd_s]) rfl ?_
    rintro ⟨i, y, H⟩ ⟨hi, hac, hnc⟩
    simp only at hi hac hnc
    have hxH := hx.mono hac.1
    by_cases hlt : i < L.length
    · obtain ⟨z, hz⟩ : ∃ z, L[i]? = some z := ⟨_, List.getElem?_eq_getElem hlt⟩
      have hlt' : (i : Int) < L.length := by omega
      obtain ⟨k0, k1⟩ := hk z (List.mem_of_getElem? hz)
      obtain ⟨hr, _⟩ := rdx_at k0 k1
      have htk : L.take (i + 1) = L.take i ++ [z] := by rw [List.take_add_one, hz]; rfl
      obtain ⟨v', H2, happ, hacc, _, n, len, rfl, _⟩ := AccL_push2 hac e1_len (by omega) z (by rw [List.length_take]; simp only [lim]; omega)
      rw [← htk] at hacc
      simp only [Go.Eng.e1] at happ
      simp (maxSteps := 4000000) -implicitDefEqProofs -dsimp (disch := omega) only [↓AW_skip, ↓AW_ops, ↓AW_seq, ↓AW_cond, ↓AW_block, ↓AOps_nil, ↓AOps_pu, ↓AOps_ld, ↓AOps_ha, ↓AOps_call, on_some, extK_false, extK_app, condB_t, ↓then_normal, pval, lval_ld, hval_blds, hval_app, rd_S, put_S, chkd, bgot, cells_int, splice, partA, fillA, repl, eq_self, mk, List.foldl_cons, List.foldl_nil, List.replicate_succ, List.replicate_zero, List.set_cons_zero, List.set_cons_succ, List.getElem?_cons_zero, List.getElem?_cons_succ, List.drop_zero, List.drop_succ_cons, List.drop_nil, List.take_zero, List.take_succ_cons, List.take_nil, Option.getD_some, map_c, map_n, List.length_cons, List.length_nil, Nat.reduceAdd, Nat.reduceLeDiff, Nat.reduceEqDiff, Nat.zero_add, List.nil_append, List.append_nil, bin_lss, if_true, if_false, Bool.false_eq_true, decide_true, Go.Eng.e1, and_true, hlt', hxH.idx hlt, hxH.ld0 hz 1 false (by decide), happ, List.replicate_zero, repl]
      refine CallK.of (s99 (hu.mono hacc.1) (AccL_ls hacc e1_len) hn (fun k hk2 => hk k (List.mem_of_mem_take hk2)) (by rw [List.length_take]; omega)) ?_
      have hpm := pre_app H2 [.mp (mI P (lab ((L.take (i + 1)).map (rdx rs))))]
      have hm := mp_new H2 (.mp (mI P (lab ((L.take (i + 1)).map (rdx rs)))))
      have hacm := hacc.mono hpm
      have hum := hu.mono hacm.1
      have hpA := hacm.1
      generalize H2 ++ [AObj.mp (mI P (lab ((L.take (i + 1)).map (rdx rs))))] = H3 at *
      have hri := hum.idxI (k := .i64) k0 (show z < (rs.length : Int) by omega)
      have hla := lkI' hm ha.1 ha.2
      have hlb := lkI' hm hb.1 hb.2
      by_cases hc : Cn ((L.take (i + 1)).map (rdx rs)) a b
      · have hq : lab ((L.take (i + 1)).map (rdx rs)) a = lab ((L.take (i + 1)).map (rdx rs)) b := (lab_eq_iff ha.1 hb.1).2 hc
        have hwe : (rdx rs z).2.2 = wct rs z := rfl
        simp (maxSteps := 4000000) -implicitDefEqProofs -dsimp (disch := omega) only [↓AW_ops, ↓AW_seq, ↓AW_cond, ↓AW_ret, ↓AOps_nil, ↓AOps_pu, ↓AOps_ld, on_some, extK_false, condB_t, ↓then_normal, ↓then_ret, ↓inBlock_ret, ↓FinR_ret, pval, lval_ld, lval_look, rd_S, rd_C, put_S, resV, resL, chkd, isAdr, bgot, cells_agg, partA, eq_self, mk, List.foldl_cons, List.foldl_nil, List.replicate_succ, List.replicate_zero, List.set_cons_zero, List.set_cons_succ, List.getElem?_cons_zero, List.getElem?_cons_succ, List.drop_zero, List.drop_succ_cons, List.take_succ_cons, List.take_nil, Option.getD_some, List.length_cons, List.length_nil, Nat.reduceAdd, Nat.reduceLeDiff, Nat.zero_add, bin_eql, if_true, if_false, Bool.false_eq_true, decide_true, hla, hlb, hq, hri, hum.ld hr 1 2 false (by decide), e3, hwe]
        exact ⟨_, _, gc_val hpA rfl, wct rs z, true, rfl, rfl, .inr (.inl ⟨hab, rfl, i, z, hz, rfl, hc, hnc⟩)⟩
      · have hq : ¬ lab ((L.take (i + 1)).map (rdx rs)) a = lab ((L.take (i + 1)).map (rdx rs)) b := fun e => hc ((lab_eq_iff ha.1 hb.1).1 e)
        simp (maxSteps := 4000000) -implicitDefEqProofs -dsimp (disch := omega) only [↓AW_skip, ↓AW_ops, ↓AW_seq, ↓AW_cond, ↓AOps_nil, ↓AOps_pu, ↓AOps_ld, on_some, extK_false, condB_f, ↓then_normal, ↓inBlock_normal, pval, lval_look, rd_S, rd_C, put_S, eq_self, mk, List.foldl_cons, List.foldl_nil, List.replicate_succ, List.replicate_zero, List.set_cons_zero, List.set_cons_succ, List.getElem?_cons_zero, List.getElem?_cons_succ, Option.getD_some, List.length_cons, List.length_nil, Nat.reduceAdd, Nat.zero_add, bin_add, bin_eql, w64, decide_false, true_and, hla, hlb, hq]
        exact ⟨(i + 1, .sl 1 n 0 len false, H3), ⟨hlt, hacm, hc⟩, by simp [Has, rd_s], rfl, by simp only; omega⟩
    · have hlt' : ¬ ((i : Int) < L.length) := by omega
      rw [List.take_of_length_le (by omega)] at hnc
      simp (maxSteps := 4000000) -implicitDefEqProofs -dsimp (disch := omega) only [↓AW_ops, ↓AW_seq, ↓AW_cond, ↓AW_exit, ↓AW_ret, ↓AOps_nil, ↓AOps_pu, on_some, condB_f, ↓then_normal, ↓then_exit, ↓inBlock_exit, ↓FinR_ret, pval, rd_S, rd_C, put_S, resV, resL, eq_self, mk, List.foldl_cons, List.foldl_nil, List.replicate_succ, List.replicate_zero, List.set_cons_zero, List.set_cons_succ, List.getElem?_cons_zero, List.getElem?_cons_succ, Option.getD_some, bin_lss, if_true, decide_false, hlt']
      exact ⟨_, _, gc_val hac.1 rfl, 0, false, rfl, rfl, .inr (.inr ⟨hab, rfl, rfl, hnc⟩)⟩
  obtain ⟨r, H', h1, c, ok, rfl, rfl, h2⟩ := key
  exact ⟨c, ok, h1, h2⟩
end
section
variable {Q : Int} {rs : List Rd} {ks : List Int} {u v : AV} {A : AHeap} {a b : Int}
/-- The error of a net and two places. -/
def pE (Q : Int) (rs : List Rd) (a b : Int) : Int := if vE Q rs = 0 then (if (0 ≤ a ∧ a ≤ Q - 1) ∧ (0 ≤ b ∧ b ≤ Q - 1) then 0 else 4) else vE Q rs
theorem L1_two (A : AHeap) (x y : Int) : L1 (A ++ [.cells true [I x, I y]]) (.sl 1 A.length 0 2 true) [x, y] := ⟨e1_len, by simp [slCells, cellsAt, e1]⟩
end
end Go.Proofs.Ytkgfcdpckfhknaa

namespace Go.Proofs.Ytkgfcdpckfhknaa
open Go Go.Eng
/-- selion/selionlaw04.RoadRanges [] -/
def m3 : MFun := ⟨44, [2], [.mov (.s 4)],
 .seq (.ops [⟨(some 2), some (.junk), none, false, .pu (.bnew (.s 0))⟩,
   ⟨(some 4), some undefA, none, false, .pu (.mov (.c (.bool false)))⟩])
 (.seq (.seq (.ops [⟨(some 11), some undefA, none, false, .pu (.bget none 2 0 2 true)⟩,
   ⟨(some 12), some undefA, none, false, .call 17 [(.s 11)]⟩])
 (.cond (.s 12) (.seq (.ops [⟨(some 13), some undefA, none, false, .call 18 []⟩,
    ⟨(some 4), some undefA, none, false, .pu (.mov (.s 13))⟩])
  (.ret))
 (.skip)))
 (.seq (.ops [⟨(some 15), some undefA, none, false, .pu (.bget none 2 0 2 true)⟩,
   ⟨(some 16), some undefA, none, false, .pu (.mov (.s 1))⟩,
   ⟨(some 17), some undefA, none, false, .call 19 [(.s 15), (.s 16)]⟩,
   ⟨(some 14), some undefA, none, false, .pu (.mov (.s 17))⟩,
   ⟨(some 18), some undefA, none, false, .pu (.extr 0 (.s 14))⟩,
   ⟨(some 19), some undefA, none, false, .pu (.extr 1 (.s 14))⟩,
   ⟨(some 20), some undefA, none, false, .pu (.extr 2 (.s 14))⟩,
   ⟨(some 5), some undefA, none, false, .pu (.mov (.s 18))⟩,
   ⟨(some 6), some undefA, none, false, .pu (.mov (.s 19))⟩,
   ⟨(some 7), some undefA, none, false, .pu (.mov (.s 20))⟩])
 (.seq (.ops [⟨(some 22), some undefA, none, false, .pu (.bget none 2 0 2 true)⟩,
   ⟨(some 23), some undefA, none, false, .pu (.mov (.s 1))⟩,
   ⟨(some 24), some undefA, none, false, .call 20 [(.s 22), (.s 23)]⟩,
   ⟨(some 21), some undefA, none, false, .pu (.mov (.s 24))⟩,
   ⟨(some 25), some undefA, none, false, .pu (.extr 0 (.s 21))⟩,
   ⟨(some 26), some undefA, none, false, .pu (.extr 1 (.s 21))⟩,
   ⟨(some 27), some undefA, none, false, .pu (.extr 2 (.s 21))⟩,
   ⟨(some 8), some undefA, none, false, .pu (.mov (.s 25))⟩,
   ⟨(some 9), some undefA, none, false, .pu (.mov (.s 26))⟩,
   ⟨(some 10), some undefA, none, false, .pu (.mov (.s 27))⟩])
 (.seq (.ops [⟨(some 28), some undefA, none, false, .pu (.mov (.s 5))⟩,
   ⟨(some 29), some undefA, none, false, .pu (.mov (.s 8))⟩,
   ⟨(some 30), some undefA, none, false, .pu (.bin .eql (.s 28) (.s 29))⟩,
   ⟨(some 31), some undefA, none, false, .pu (.mov (.s 30))⟩,
   ⟨(some 32), some undefA, (some (31, true)), false, .pu (.mov (.s 6))⟩,
   ⟨(some 33), some undefA, (some (31, true)), false, .pu (.mov (.s 9))⟩,
   ⟨(some 34), some undefA, (some (31, true)), false, .pu (.eqb false (.s 32) (.s 33))⟩,
   ⟨(some 35), some undefA, none, false, .pu (.pick (.s 31) (.s 34) (.c (.bool false)))⟩,
   ⟨(some 36), some undefA, none, false, .pu (.mov (.s 35))⟩,
   ⟨(some 37), some undefA, (some (36, true)), false, .pu (.mov (.s 7))⟩,
   ⟨(some 38), some undefA, (some (36, true)), false, .pu (.mov (.s 10))⟩,
   ⟨(some 39), some undefA, (some (36, true)), false, .pu (.bin .eql (.s 37) (.s 38))⟩,
   ⟨(some 40), some undefA, none, false, .pu (.pick (.s 36) (.s 39) (.c (.bool false)))⟩,
   ⟨(some 41), some undefA, none, false, .pu (.mov (.s 40))⟩,
   ⟨(some 42), some undefA, (some (41, true)), false, .call 18 []⟩,
   ⟨(some 43), some undefA, none, false, .pu (.pick (.s 41) (.s 42) (.c (.bool false)))⟩,
   ⟨(some 4), some undefA, none, false, .pu (.mov (.s 43))⟩])
 (.ret)))))⟩
/-- selion/selionlaw04.RoadChanges [loop [2, 5, 6, 18]] -/
def m15 : MFun := ⟨126, [2, 3, 5, 6, 8], [.mov (.s 4)],
 .seq (.ops [⟨(some 2), some (.junk), none, false, .pu (.bnew (.s 0))⟩,
   ⟨(some 3), some (.junk), none, false, .pu (.bnew (.s 1))⟩,
   ⟨(some 4), some undefA, none, false, .pu (.mov (.c (.bool false)))⟩])
 (.seq (.seq (.ops [⟨(some 19), some undefA, none, false, .pu (.bget none 2 0 2 true)⟩,
   ⟨(some 20), some undefA, none, false, .call 17 [(.s 19)]⟩])
 (.cond (.s 20) (.seq (.ops [⟨(some 21), some undefA, none, false, .call 18 []⟩,
    ⟨(some 4), some undefA, none, false, .pu (.mov (.s 21))⟩])
  (.ret))
 (.skip)))
 (.seq (.ops [⟨(some 22), some undefA, none, false, .pu (.bget none 2 0 2 true)⟩,
   ⟨(some 23), some undefA, none, false, .call 52 [(.s 22)]⟩,
   ⟨(some 5), some (.junk), none, false, .pu (.bnew (.c (.agg [.int .i64 0, .nilS])))⟩,
   ⟨(some 5), none, none, false, .pu (.bset none 5 0 2 (.s 23))⟩])
 (.seq (.ops [⟨(some 25), some undefA, none, false, .pu (.bget none 5 0 2 true)⟩,
   ⟨(some 26), some undefA, none, false, .pu (.badr none 3)⟩,
   ⟨(some 27), some undefA, none, false, .pu (.bget (some 26) 3 0 1 false)⟩,
   ⟨(some 28), some undefA, none, false, .pu (.badr none 3)⟩,
   ⟨(some 29), some undefA, none, false, .pu (.bget (some 28) 3 1 1 false)⟩,
   ⟨(some 30), some undefA, none, false, .call 53 [(.s 25), (.s 27), (.s 29)]⟩,
   ⟨(some 24), some undefA, none, false, .pu (.mov (.s 30))⟩,
   ⟨(some 31), some undefA, none, false, .pu (.extr 0 (.s 24))⟩,
   ⟨(some 32), some undefA, none, false, .pu (.extr 1 (.s 24))⟩,
   ⟨(some 6), some (.junk), none, false, .pu (.bnew (.c (.agg [.int .i64 0, .nilS])))⟩,
   ⟨(some 6), none, none, false, .pu (.bset none 6 0 2 (.s 31))⟩,
   ⟨(some 7), some undefA, none, false, .pu (.mov (.s 32))⟩])
 (.seq (.ops [⟨(some 34), some undefA, none, false, .pu (.bget none 2 0 2 true)⟩,
   ⟨(some 35), some undefA, none, false, .pu (.badr none 3)⟩,
   ⟨(some 36), some undefA, none, false, .pu (.bget (some 35) 3 0 1 false)⟩,
   ⟨(some 37), some undefA, none, false, .pu (.badr none 3)⟩,
   ⟨(some 38), some undefA, none, false, .pu (.bget (some 37) 3 1 1 false)⟩,
   ⟨(some 39), some undefA, none, false, .call 54 [(.s 34), (.s 36), (.s 38)]⟩,
   ⟨(some 33), some undefA, none, false, .pu (.mov (.s 39))⟩,
   ⟨(some 40), some undefA, none, false, .pu (.extr 0 (.s 33))⟩,
   ⟨(some 41), some undefA, none, false, .pu (.extr 1 (.s 33))⟩,
   ⟨(some 8), some (.junk), none, false, .pu (.bnew (.c (.agg [.int .i64 0, .nilS])))⟩,
   ⟨(some 8), none, none, false, .pu (.bset none 8 0 2 (.s 40))⟩,
   ⟨(some 9), some undefA, none, false, .pu (.mov (.s 41))⟩])
 (.seq (.seq (.ops [⟨(some 42), some undefA, none, false, .pu (.mov (.s 7))⟩,
   ⟨(some 43), some undefA, none, false, .pu (.mov (.s 9))⟩,
   ⟨(some 44), some undefA, none, false, .pu (.bin .neq (.s 42) (.s 43))⟩,
   ⟨(some 45), some undefA, none, false, .pu (.mov (.s 44))⟩,
   ⟨(some 46), some undefA, (some (45, false)), false, .pu (.bget none 6 0 2 true)⟩,
   ⟨(some 47), some undefA, (some (45, false)), false, .pu (.bget none 8 0 2 true)⟩,
   ⟨(some 48), some undefA, (some (45, false)), false, .call 55 [(.s 46), (.s 47)]⟩,
   ⟨(some 49), some undefA, (some (45, false)), false, .pu (.not (.s 48))⟩,
   ⟨(some 50), some undefA, none, false, .pu (.pick (.s 45) (.c (.bool true)) (.s 49))⟩])
 (.cond (.s 50) (.seq (.ops [⟨(some 4), some undefA, none, false, .pu (.mov (.c (.bool false)))⟩])
  (.ret))
 (.skip)))
 (.seq (.seq (.ops [⟨(some 51), some undefA, none, false, .pu (.mov (.s 7))⟩,
   ⟨(some 52), some undefA, none, false, .pu (.bin .eql (.s 51) (.c (.int .i64 0)))⟩])
 (.cond (.s 52) (.seq (.ops [⟨(some 54), some undefA, none, false, .pu (.bget none 2 0 2 true)⟩,
    ⟨(some 55), some undefA, none, false, .pu (.badr none 3)⟩,
    ⟨(some 56), some undefA, none, false, .pu (.bget (some 55) 3 0 1 false)⟩,
    ⟨(some 57), some undefA, none, false, .call 19 [(.s 54), (.s 56)]⟩,
    ⟨(some 53), some undefA, none, false, .pu (.mov (.s 57))⟩,
    ⟨(some 58), some undefA, none, false, .pu (.extr 0 (.s 53))⟩,
    ⟨(some 59), some undefA, none, false, .pu (.extr 1 (.s 53))⟩,
    ⟨(some 60), some undefA, none, false, .pu (.extr 2 (.s 53))⟩,
    ⟨(some 10), some undefA, none, false, .pu (.mov (.s 58))⟩,
    ⟨(some 11), some undefA, none, false, .pu (.mov (.s 59))⟩,
    ⟨(some 12), some undefA, none, false, .pu (.mov (.s 60))⟩])
  (.seq (.ops [⟨(some 62), some undefA, none, false, .pu (.bget none 6 0 2 true)⟩,
    ⟨(some 63), some undefA, none, false, .pu (.badr none 3)⟩,
    ⟨(some 64), some undefA, none, false, .pu (.bget (some 63) 3 0 1 false)⟩,
    ⟨(some 65), some undefA, none, false, .call 19 [(.s 62), (.s 64)]⟩,
    ⟨(some 61), some undefA, none, false, .pu (.mov (.s 65))⟩,
    ⟨(some 66), some undefA, none, false, .pu (.extr 0 (.s 61))⟩,
    ⟨(some 67), some undefA, none, false, .pu (.extr 1 (.s 61))⟩,
    ⟨(some 68), some undefA, none, false, .pu (.extr 2 (.s 61))⟩,
    ⟨(some 13), some undefA, none, false, .pu (.mov (.s 66))⟩,
    ⟨(some 14), some undefA, none, false, .pu (.mov (.s 67))⟩,
    ⟨(some 15), some undefA, none, false, .pu (.mov (.s 68))⟩])
  (.seq (.ops [⟨(some 70), some undefA, none, false, .pu (.bget none 6 0 2 true)⟩,
    ⟨(some 71), some undefA, none, false, .call 47 [(.s 70)]⟩,
    ⟨(some 69), some undefA, none, false, .pu (.mov (.s 71))⟩,
    ⟨(some 72), some undefA, none, false, .pu (.extr 0 (.s 69))⟩,
    ⟨(some 73), some undefA, none, false, .pu (.extr 1 (.s 69))⟩,
    ⟨(some 16), some undefA, none, false, .pu (.mov (.s 72))⟩,
    ⟨(some 17), some undefA, none, false, .pu (.mov (.s 73))⟩])
  (.seq (.ops [⟨(some 74), some undefA, none, false, .pu (.mov (.s 12))⟩,
    ⟨(some 75), some undefA, none, false, .pu (.bin .neq (.s 74) (.c (.int .i64 0)))⟩,
    ⟨(some 76), some undefA, none, false, .pu (.mov (.s 75))⟩,
    ⟨(some 77), some undefA, (some (76, false)), false, .pu (.mov (.s 15))⟩,
    ⟨(some 78), some undefA, (some (76, false)), false, .pu (.bin .neq (.s 77) (.c (.int .i64 0)))⟩,
    ⟨(some 79), some undefA, none, false, .pu (.pick (.s 76) (.c (.bool true)) (.s 78))⟩,
    ⟨(some 80), some undefA, none, false, .pu (.mov (.s 79))⟩,
    ⟨(some 81), some undefA, (some (80, false)), false, .pu (.mov (.s 17))⟩,
    ⟨(some 82), some undefA, (some (80, false)), false, .pu (.bin .neq (.s 81) (.c (.int .i64 0)))⟩,
    ⟨(some 83), some undefA, none, false, .pu (.pick (.s 80) (.c (.bool true)) (.s 82))⟩,
    ⟨(some 84), some undefA, none, false, .pu (.mov (.s 83))⟩,
    ⟨(some 85), some undefA, (some (84, false)), false, .pu (.mov (.s 10))⟩,
    ⟨(some 86), some undefA, (some (84, false)), false, .pu (.mov (.s 13))⟩,
    ⟨(some 87), some undefA, (some (84, false)), false, .pu (.bin .neq (.s 85) (.s 86))⟩,
    ⟨(some 88), some undefA, none, false, .pu (.pick (.s 84) (.c (.bool true)) (.s 87))⟩,
    ⟨(some 89), some undefA, none, false, .pu (.mov (.s 88))⟩,
    ⟨(some 90), some undefA, (some (89, false)), false, .pu (.mov (.s 11))⟩,
    ⟨(some 91), some undefA, (some (89, false)), false, .pu (.mov (.s 14))⟩,
    ⟨(some 92), some undefA, (some (89, false)), false, .pu (.eqb true (.s 90) (.s 91))⟩,
    ⟨(some 93), some undefA, none, false, .pu (.pick (.s 89) (.c (.bool true)) (.s 92))⟩,
    ⟨(some 94), some undefA, none, false, .pu (.mov (.s 93))⟩,
    ⟨(some 95), some undefA, (some (94, false)), false, .pu (.mov (.s 11))⟩,
    ⟨(some 96), some undefA, (some (94, false)), false, .pu (.mov (.s 95))⟩,
    ⟨(some 97), some undefA, (some (96, true)), false, .pu (.mov (.s 16))⟩,
    ⟨(some 98), some undefA, (some (96, true)), false, .pu (.badr none 3)⟩,
    ⟨(some 99), some undefA, (some (96, true)), false, .pu (.bget (some 98) 3 0 1 false)⟩,
    ⟨(some 100), some undefA, (some (96, true)), false, .call 51 [(.s 97), (.s 99)]⟩,
    ⟨(some 101), some undefA, (some (96, true)), false, .pu (.badr none 3)⟩,
    ⟨(some 102), some undefA, (some (96, true)), false, .pu (.bget (some 101) 3 1 1 false)⟩,
    ⟨(some 103), some undefA, (some (96, true)), false, .pu (.mov (.s 10))⟩,
    ⟨(some 104), some undefA, (some (96, true)), false, .pu (.bin .gtr (.s 102) (.s 103))⟩,
    ⟨(some 105), some undefA, (some (96, true)), false, .pu (.eqb true (.s 100) (.s 104))⟩,
    ⟨(some 106), some undefA, (some (94, false)), false, .pu (.pick (.s 96) (.s 105) (.c (.bool false)))⟩,
    ⟨(some 107), some undefA, none, false, .pu (.pick (.s 94) (.c (.bool true)) (.s 106))⟩])
  (.cond (.s 107) (.seq (.ops [⟨(some 4), some undefA, none, false, .pu (.mov (.c (.bool false)))⟩])
   (.ret))
  (.skip))))))
 (.skip)))
 (.seq (.seq (.ops [⟨(some 18), some undefA, none, false, .pu (.mov (.c (.int .i64 0)))⟩])
 (.block 0 (.loop (.seq (.seq (.ops [⟨(some 108), some undefA, none, false, .pu (.mov (.s 18))⟩,
     ⟨(some 109), some undefA, none, false, .pu (.badr none 6)⟩,
     ⟨(some 110), some undefA, none, false, .pu (.bget (some 109) 6 1 1 false)⟩,
     ⟨(some 111), some undefA, none, false, .pu (.len (.s 110))⟩,
     ⟨(some 112), some undefA, none, false, .pu (.bin .lss (.s 108) (.s 111))⟩])
   (.cond (.s 112) (.skip)
   (.exit 0)))
   (.seq (.block 1 (.ops [⟨(some 115), some undefA, none, false, .pu (.badr none 6)⟩,
      ⟨(some 116), some undefA, none, false, .pu (.bget (some 115) 6 1 1 false)⟩,
      ⟨(some 117), some undefA, none, false, .pu (.mov (.s 18))⟩,
      ⟨(some 118), some undefA, none, false, .pu (.idx 3 (.s 116) (.s 117))⟩,
      ⟨(some 119), some undefA, none, false, .pu (.fad 2 (.s 118))⟩,
      ⟨none, some undefA, none, false, .ha (.st 1 (.s 119) (.c (.int .i64 (-1))))⟩]))
   (.ops [⟨(some 113), some undefA, none, false, .pu (.mov (.s 18))⟩,
     ⟨(some 114), some undefA, none, false, .pu (.bin .add (.s 113) (.c (.int .i64 1)))⟩,
     ⟨(some 18), some undefA, none, false, .pu (.mov (.s 114))⟩]))))))
 (.seq (.ops [⟨(some 120), some undefA, none, false, .pu (.bget none 5 0 2 true)⟩,
   ⟨(some 121), some undefA, none, false, .pu (.bget none 2 0 2 true)⟩,
   ⟨(some 122), some undefA, none, false, .call 55 [(.s 120), (.s 121)]⟩,
   ⟨(some 123), some undefA, none, false, .pu (.mov (.s 122))⟩,
   ⟨(some 124), some undefA, (some (123, true)), false, .call 18 []⟩,
   ⟨(some 125), some undefA, none, false, .pu (.pick (.s 123) (.s 124) (.c (.bool false)))⟩,
   ⟨(some 4), some undefA, none, false, .pu (.mov (.s 125))⟩])
 (.ret)))))))))⟩
theorem t15 : trF Try.prog [2, 3, 5, 6, 8] [] Try.f15 = some m15 := by kernel_rfl
end Go.Proofs.Ytkgfcdpckfhknaa

namespace Go.Proofs.Ytkgfcdpckfhknaa
open Go Go.Eng
/-- One road on a way. -/
def stp (rs : List Rd) (p : Int × Int) (k : Int) : Option (Int × Int) :=
  if p.1 = (rdx rs k).1 then some ((rdx rs k).2.1, max p.2 (wct rs k)) else if p.1 = (rdx rs k).2.1 then some ((rdx rs k).1, max p.2 (wct rs k)) else none
/-- A way from a place: where it ends, and its worst. -/
def wk (rs : List Rd) (p : Int × Int) : List Int → Option (Int × Int)
  | [] => some p
  | k :: ks => match stp rs p k with
    | some q => wk rs q ks
    | none => none
section
variable {Q : Int} {rs : List Rd} {ks : List Int} {u v : AV} {A : AHeap} {a b : Int}
theorem notOf_nos (h : ¬ notOf rs.length ks = true) : Nos rs ks := by
  intro k hk
  refine Classical.byContradiction (fun hn => h ?_)
  unfold notOf
  rw [List.any_eq_true]
  refine ⟨k, hk, ?_⟩
  rw [decide_eq_false (by omega)]
  rfl
/-- The error of a net and numbers of roads. -/
def nE (Q : Int) (rs : List Rd) (ks : List Int) : Int := if vE Q rs = 0 then (if notOf rs.length ks = true then 4 else 0) else vE Q rs
theorem s64 (hu : L3 A u rs) (hP : W Q) (hx : L1 A v ks) (hl : ks.length ≤ 1000000) : ACalls Try.prog 64 [.agg [I Q, u], v] A (I (nE Q rs ks)) A := by
  refine acalls hmix Try.func64 (by kernel_rfl) t64 2 rfl (by decide) ?_
  dsimp only [m64]
  simp (maxSteps := 4000000) -implicitDefEqProofs -dsimp (disch := omega) only [↓AW_ops, ↓AW_seq, ↓AOps_nil, ↓AOps_pu, ↓AOps_call, on_some, ↓then_normal, pval, rd_S, rd_C, put_S, chkd, bgot, AV.cells?, partA, eq_self, List.replicate_succ, List.replicate_zero, List.set_cons_zero, List.set_cons_succ, List.getElem?_cons_zero, List.getElem?_cons_succ, List.drop_zero, List.take_succ_cons, List.take_nil, Option.getD_some, map_c, map_n, List.length_cons, List.length_nil, Nat.reduceAdd, Nat.reduceSub, Nat.reduceLeDiff, Nat.reduceEqDiff, Nat.zero_add, List.cons_append, List.nil_append, if_true, if_false]
  refine CallK.of (s22 hu hP) ?_
  by_cases h0 : vE Q rs = 0
  case neg =>
    have : nE Q rs ks = vE Q rs := if_neg h0
    rw [this]
    simp (maxSteps := 4000000) -implicitDefEqProofs -dsimp (disch := omega) only [↓AW_ops, ↓AW_seq, ↓AW_cond, ↓AW_ret, ↓AOps_nil, ↓AOps_pu, on_some, extK_same, condB_t, ↓then_normal, ↓then_ret, ↓Fin_ret, pval, rd_S, rd_C, put_S, resV, resL, List.replicate_succ, List.replicate_zero, List.set_cons_zero, List.set_cons_succ, List.getElem?_cons_zero, List.getElem?_cons_succ, Option.getD_some, Nat.reduceSub, List.cons_append, List.nil_append, bin_neq, decide_true, not_false_eq_true, h0]
    exact gc_same rfl
  have hE : nE Q rs ks = if notOf rs.length ks = true then 4 else 0 := if_pos h0
  rw [hE]
  have hn := vE_0.1 h0
  have hl14 := hn.l
  simp (maxSteps := 4000000) -implicitDefEqProofs -dsimp (disch := omega) only [↓AW_skip, ↓AW_ops, ↓AW_seq, ↓AW_cond, ↓AW_block, ↓AOps_nil, ↓AOps_pu, on_some, extK_same, condB_f, ↓then_normal, pval, rd_S, rd_C, put_S, ↓AW_toLoop, eq_self, List.replicate_succ, List.replicate_zero, List.set_cons_zero, List.set_cons_succ, List.getElem?_cons_zero, List.getElem?_cons_succ, Option.getD_some, Nat.reduceSub, List.cons_append, List.nil_append, bin_neq, decide_false, not_true_eq_false, h0]
  refine LoopK.by 28 (fun i : Nat => i ≤ ks.length ∧ ∀ k ∈ ks.take i, 0 ≤ k ∧ k ≤ (rs.length : Int) - 1) (fun i => [(1, v), (2, .agg [I Q, u]), (6, I i)]) (fun _ => A) (fun i => ks.length - i) 0 ⟨by omega, by simp⟩ rfl (by simp [Has, rd_s]) rfl ?_
  rintro i ⟨hi, he⟩
  by_cases hlt : i < ks.length
  · obtain ⟨z, hz⟩ : ∃ z, ks[i]? = some z := ⟨_, List.getElem?_eq_getElem hlt⟩
    have hlt' : (i : Int) < ks.length := by omega
    simp (maxSteps := 4000000) -implicitDefEqProofs -dsimp (disch := omega) only [↓AW_skip, ↓AW_ops, ↓AW_seq, ↓AW_cond, ↓AW_block, ↓AOps_nil, ↓AOps_pu, ↓AOps_ld, ↓AOps_call, on_some, condB_t, ↓then_normal, pval, lval, rd_S, rd_C, put_S, chkd, isAdr, bgot, AV.cells?, partA, eq_self, mk, List.foldl_cons, List.foldl_nil, List.replicate_succ, List.replicate_zero, List.set_cons_zero, List.set_cons_succ, List.getElem?_cons_zero, List.getElem?_cons_succ, List.drop_zero, List.drop_succ_cons, List.take_succ_cons, List.take_nil, Option.getD_some, map_c, map_n, List.length_cons, List.length_nil, Nat.reduceAdd, Nat.reduceLeDiff, Nat.zero_add, bin_sub, bin_lss, w64, if_true, if_false, Bool.false_eq_true, decide_true, Go.Eng.e1, hlt', hx.len, hx.idx hlt, hx.ld0 hz 1 false (by decide), hu.len]
    refine CallK.of (c_wi _ _ _ _) ?_
    by_cases g : 0 ≤ z ∧ z ≤ (rs.length : Int) - 1
    · simp (maxSteps := 4000000) -implicitDefEqProofs -dsimp (disch := omega) only [↓AW_skip, ↓AW_ops, ↓AW_cond, ↓AOps_nil, ↓AOps_pu, on_some, extK_same, condB_f, ↓then_normal, ↓inBlock_normal, pval, rd_S, rd_C, put_S, eq_self, mk, List.foldl_cons, List.foldl_nil, List.replicate_succ, List.replicate_zero, List.set_cons_zero, List.set_cons_succ, List.getElem?_cons_zero, List.getElem?_cons_succ, Option.getD_some, List.length_cons, List.length_nil, Nat.reduceAdd, Nat.zero_add, bin_add, w64, Bool.not_true, decide_true, true_and, and_true, g]
      exact ⟨i + 1, ⟨hlt, all_take he hz g⟩, by simp [Has, rd_s], by omega⟩
    · have hno : notOf rs.length ks = true := by
        unfold notOf
        rw [List.any_eq_true]
        exact ⟨z, List.mem_of_getElem? hz, by rw [decide_eq_false g]; rfl⟩
      rw [if_pos hno]
      simp (maxSteps := 4000000) -implicitDefEqProofs -dsimp (disch := omega) only [↓AW_ops, ↓AW_seq, ↓AW_cond, ↓AW_ret, ↓AOps_nil, ↓AOps_pu, on_some, extK_same, condB_t, ↓then_normal, ↓then_ret, ↓inBlock_ret, ↓Fin_ret, pval, rd_S, rd_C, put_S, resV, resL, mk, List.foldl_cons, List.foldl_nil, List.replicate_succ, List.replicate_zero, List.set_cons_zero, List.set_cons_succ, List.getElem?_cons_zero, List.getElem?_cons_succ, Option.getD_some, Bool.not_false, decide_false, g]
      exact gc_same rfl
  · have hlt' : ¬ ((i : Int) < ks.length) := by omega
    rw [List.take_of_length_le (by omega)] at he
    have hno : ¬ notOf rs.length ks = true := fun h => by
      unfold notOf at h
      rw [List.any_eq_true] at h
      obtain ⟨k, hk, hh⟩ := h
      rw [decide_eq_true (he k hk)] at hh
      cases hh
    rw [if_neg hno]
    simp (maxSteps := 4000000) -implicitDefEqProofs -dsimp (disch := omega) only [↓AW_ops, ↓AW_seq, ↓AW_cond, ↓AW_exit, ↓AW_ret, ↓AOps_nil, ↓AOps_pu, on_some, condB_f, ↓then_normal, ↓then_exit, ↓inBlock_exit, ↓Fin_ret, pval, rd_S, rd_C, put_S, resV, resL, eq_self, mk, List.foldl_cons, List.foldl_nil, List.replicate_succ, List.replicate_zero, List.set_cons_zero, List.set_cons_succ, List.getElem?_cons_zero, List.getElem?_cons_succ, Option.getD_some, bin_lss, if_true, decide_false, hlt', hx.len]
    exact gc_same rfl
end
end Go.Proofs.Ytkgfcdpckfhknaa

namespace Go.Proofs.Ytkgfcdpckfhknaa
open Go Go.Eng
section
variable {Q : Int} {rs : List Rd} {ks : List Int} {u v : AV} {A : AHeap} {a b : Int}
/-- A road crosses a set's border, and costs no more. -/
def xR (ks : List Int) (c : Int) (r : Rd) : Prop := ¬ (decide (r.1 ∈ ks) = decide (r.2.1 ∈ ks)) ∧ r.2.2 ≤ c
instance xRdec (ks : List Int) (c : Int) (r : Rd) : Decidable (xR ks c r) := by unfold xR; infer_instance
end
end Go.Proofs.Ytkgfcdpckfhknaa

namespace Go.Proofs.Ytkgfcdpckfhknaa
open Go Go.Eng
section
variable {P : Nat} {rs : List Rd} {ks : List Int} {u v : AV} {A : AHeap}
theorem bt_cn {xs ys : List Rd} {M N : List Int} {a b : Int} (h : ∀ t, cnT xs M t a b ↔ cnT ys N t a b) : bt xs M a b = bt ys N a b := by
  unfold bt
  have : (fun c : Nat => decide (cnT xs M (c : Int) a b)) = (fun c : Nat => decide (cnT ys N (c : Int) a b)) := by
    funext c
    exact decide_eq_decide.2 (h c)
  rw [this]
end
end Go.Proofs.Ytkgfcdpckfhknaa

namespace Go.Proofs.Ytkgfcdpckfhknaa
open Go Go.Eng
theorem fpos_in {p : Int} {l : List Int} (h : p ∈ l) : ∃ k : Nat, k < l.length ∧ fpos (fun y => decide (p = y)) l = k ∧ l[k]? = some p := by
  obtain ⟨k, hk⟩ : ∃ k, l.findIdx? (fun y => decide (p = y)) = some k := by
    cases hf : l.findIdx? (fun y => decide (p = y)) with
    | some k => exact ⟨k, rfl⟩
    | none =>
      rw [List.findIdx?_eq_none_iff] at hf
      have := hf p h
      simp at this
  have hk2 := hk
  rw [List.findIdx?_eq_some_iff_getElem] at hk2
  obtain ⟨h1, h2, _⟩ := hk2
  refine ⟨k, h1, by unfold fpos; rw [hk], ?_⟩
  rw [List.getElem?_eq_getElem h1]
  have : p = l[k] := by simpa using h2
  rw [← this]
theorem repl_zero (n : Nat) : repl [AV.int .i64 0] n = (List.replicate n (0 : Int)).flatMap Go.Eng.e1 := by
  induction n with
  | zero => rfl
  | succ n ih => rw [repl, ih, List.replicate_succ, List.flatMap_cons]; rfl
theorem app_fresh {α : Type} {es : Nat} {e : α → List AV} {B : AHeap} {y : AV} {ys : List α} (hy : Ls es e B y ys) {n : Nat} (hn : B[n]? = some (.cells true [])) (h0 : 0 < ys.length) (hl : ys.length ≤ lim) :
    appA es B (.sl es n 0 0 true) y = some (.sl es B.length 0 ys.length false, B ++ [.cells true (ys.flatMap e)]) := by
  unfold appA
  rw [hy.hc]
  have : ys.length ≠ 0 := by omega
  simp [this, hn, hl]
/-- Cells that are cleared. -/
def clA (es : Nat) (zero : List AV) (x : AV) (H : AHeap) : Option AHeap :=
  match x with
    | .nilS => some H
    | .sl es' n off len _ => if len = 0 then some H else if es' = es then match H[n]? with
        | some (.cells true l) => if off + len * es ≤ l.length then some (H.set n (.cells true (splice l off (repl zero len)))) else none
        | _ => none
      else none
    | _ => none
theorem hval_clr (es : Nat) (zero : List AV) (x : Opd) (S : List AV) (H : AHeap) : hval (.clr es zero x) S H = (clA es zero (rd S x) H).map (fun H' => (undefA, H')) := by
  simp only [hval, clA]
  cases rd S x with
  | sl es' n off len full =>
    simp only
    by_cases h0 : len = 0
    · simp [h0]
    · by_cases h1 : es' = es
      · simp only [h0, h1, if_true, if_false]
        cases H[n]? with
        | none => rfl
        | some o =>
          cases o with
          | cells rw l =>
            cases rw
            · rfl
            · simp only
              split <;> rfl
          | _ => rfl
      · simp [h0, h1]
  | nilS => rfl
  | _ => rfl
theorem OL_clr {A H : AHeap} {n : Nat} {v : AV} {xs : List Int} (h : OL 1 e1 A H n v xs) (i : Nat) (hi : i ≤ xs.length) (full : Bool) :
    clA 1 [.int .i64 0] (.sl 1 n (i * 1) (xs.length - i) full) H = some (H.set n (.cells true ((xs.take i ++ List.replicate (xs.length - i) 0).flatMap e1))) := by
  have hl := flatMap_length e1_len xs
  unfold clA
  by_cases h0 : xs.length - i = 0
  · have : i = xs.length := by omega
    simp only [h0, if_true]
    rw [List.replicate_zero, List.append_nil, List.take_of_length_le (by omega), set_same h.ob]
  · simp only [h0, if_false, if_true, h.ob]
    rw [if_pos (by omega), repl_zero]
    congr 2
    congr 1
    unfold splice
    have h1 := flat_take e1_len xs i hi
    rw [h1, flatMap_length e1_len, List.length_replicate, List.flatMap_append, List.append_assoc]
    congr 1
    rw [List.drop_of_length_le (by omega), List.append_nil]
theorem s103 {x p : Int} {A : AHeap} {a : Nat} (h : ldA 1 false (.ptr a 0) A = some (I p)) : ACalls Try.prog 103 [I x, .ptr a 0] A (B (decide (x = p))) A := by
  refine acalls hmix Try.func103 (by kernel_rfl) t103 2 rfl (by decide) ?_
  dsimp only [m103]
  simp (maxSteps := 4000000) -implicitDefEqProofs -dsimp (disch := omega) only [↓AW_ops, ↓AW_seq, ↓AW_ret, ↓AOps_nil, ↓AOps_pu, ↓AOps_ld, on_some, ↓then_normal, ↓Fin_ret, pval, lval, rd_S, rd_C, put_S, resV, resL, List.replicate_succ, List.replicate_zero, List.set_cons_zero, List.set_cons_succ, List.getElem?_cons_zero, List.getElem?_cons_succ, Option.getD_some, Nat.reduceSub, List.cons_append, List.nil_append, bin_eql, h]
  exact gc_same rfl
def without (l : List Int) (p : Int) : List Int := l.filter (fun x => !decide (x = p))
theorem without_take {l : List Int} {j : Nat} {z p : Int} (h : l[j]? = some z) : without (l.take (j + 1)) p = without (l.take j) p ++ if z = p then [] else [z] := by
  unfold without
  rw [List.take_add_one, h, List.filter_append]
  by_cases hz : z = p <;> simp [hz]
theorem without_le (l : List Int) (p : Int) : (without l p).length ≤ l.length := List.length_filter_le _ _
set_option maxHeartbeats 1000000 in
theorem s101 {A H : AHeap} {n a : Nat} {full : Bool} {xs : List Int} {p : Int} (h : OL 1 e1 A H n (.sl 1 n 0 xs.length full) xs) (hl : xs.length ≤ 1000) (ha : a ≠ n) (hp : ldA 1 false (.ptr a 0) H = some (I p)) :
    ACalls Try.prog 101 [.sl 1 n 0 xs.length full, .fn 103 [.ptr a 0]] H (.sl 1 n 0 (without xs p).length (full && ((without xs p).length == xs.length))) (H.set n (.cells true ((without xs p ++ List.replicate (xs.length - (without xs p).length) 0).flatMap e1))) := by
  refine acalls hmix Try.func101 (by kernel_rfl) t101 2 rfl (by decide) ?_
  have hpk : ∀ ys : List Int, ldA 1 false (.ptr a 0) (H.set n (.cells true (ys.flatMap e1))) = some (I p) := fun ys => by
    unfold ldA at hp ⊢
    simp only at hp ⊢
    rw [List.getElem?_set_ne (Ne.symm ha)]
    exact hp
  have hln : ∀ k, lenA (.sl 1 n 0 k full) = some (I k) := fun k => rfl
  dsimp only [m101]
  simp (maxSteps := 4000000) -implicitDefEqProofs -dsimp (disch := omega) only [↓AW_ops, ↓AW_seq, ↓AOps_nil, ↓AOps_pu, ↓AOps_call, on_some, ↓then_normal, pval, rd_S, rd_C, put_S, List.replicate_succ, List.replicate_zero, List.set_cons_zero, List.set_cons_succ, List.getElem?_cons_zero, List.getElem?_cons_succ, Option.getD_some, map_c, map_n, Nat.reduceSub, List.cons_append, List.nil_append]
  refine CallK.of (c_IndexFunc h.ls (by omega) 103 [.ptr a 0] (fun x => decide (x = p)) (fun x _ => s103 hp)) ?_
  by_cases hmem : p ∈ xs
  · obtain ⟨i0, hi0, hf, hz0⟩ := fpos_in hmem
    have hfe : fpos (fun x => decide (x = p)) xs = i0 := by
      rw [← hf]; congr 1; funext y; rw [decide_eq_decide]; exact ⟨fun e => e.symm, fun e => e.symm⟩
    rw [hfe]
    have hne : ¬ (i0 : Int) = -1 := by omega
    have hpre : ∀ y ∈ xs.take i0, y ≠ p := fun y hy e => by
      have h2 : xs.findIdx? (fun y => decide (p = y)) = some i0 := by
        unfold fpos at hf
        cases hh : xs.findIdx? (fun y => decide (p = y)) with
        | none => rw [hh] at hf; simp at hf
        | some k => rw [hh] at hf; simp at hf; congr 1; omega
      rw [List.findIdx?_eq_some_iff_getElem] at h2
      obtain ⟨_, _, h3⟩ := h2
      obtain ⟨j, hj, he⟩ := List.mem_take_iff_getElem.1 hy
      have := h3 j (by omega)
      rw [he, e] at this
      simp at this
    have hw0 : without (xs.take i0) p = xs.take i0 := by
      unfold without
      rw [List.filter_eq_self]
      intro y hy
      simp [hpre y hy]
    have hw1 : without (xs.take (i0 + 1)) p = xs.take i0 := by rw [without_take hz0, if_pos rfl, hw0, List.append_nil]
    simp (maxSteps := 4000000) -implicitDefEqProofs -dsimp (disch := omega) only [↓AW_skip, ↓AW_ops, ↓AW_seq, ↓AW_cond, ↓AW_block, ↓AOps_nil, ↓AOps_pu, on_some, extK_same, condB_f, ↓then_normal, pval, rd_S, rd_C, put_S, ↓AW_toLoop, List.replicate_succ, List.replicate_zero, List.set_cons_zero, List.set_cons_succ, List.getElem?_cons_zero, List.getElem?_cons_succ, Option.getD_some, Nat.reduceSub, List.cons_append, List.nil_append, bin_add, bin_eql, w64, decide_false, Int.reduceNeg, hne]
    refine LoopK.by 42 (fun x : Nat × Nat × List Int => (x.2.1 ≤ xs.length ∧ x.1 < x.2.1) ∧ x.2.2.length = xs.length ∧ x.2.2.take x.1 = without (xs.take x.2.1) p ∧ x.2.2.drop x.2.1 = xs.drop x.2.1) (fun x => [(0, .sl 1 n 0 xs.length full), (1, .fn 103 [.ptr a 0]), (5, I x.1), (6, I x.2.1)]) (fun x => H.set n (.cells true (x.2.2.flatMap e1))) (fun x => xs.length - x.2.1) (i0, i0 + 1, xs) ⟨by simp only; omega, rfl, hw1.symm, rfl⟩ rfl (by simp [Has, rd_s]) (by simp only; rw [set_same h.ob]) ?_
    rintro ⟨i, j, ys⟩ ⟨⟨hj, hij⟩, hyl, hyt, hyd⟩
    simp only at hj hij hyl hyt hyd
    have ho := OL_setAll h ys hyl
    have hwl : (without (xs.take j) p).length = i := by rw [← hyt, List.length_take]; omega
    by_cases hlt : j < xs.length
    · have hlt' : (j : Int) < xs.length := by omega
      obtain ⟨z, hz⟩ : ∃ z, xs[j]? = some z := ⟨_, List.getElem?_eq_getElem hlt⟩
      have hzy : ys[j]? = some z := by
        have : (ys.drop j)[0]? = (xs.drop j)[0]? := by rw [hyd]
        rw [List.getElem?_drop, List.getElem?_drop, Nat.add_zero] at this
        rw [this]; exact hz
      have hjy : j < ys.length := by omega
      have hiy : i < ys.length := by omega
      simp (maxSteps := 4000000) -implicitDefEqProofs -dsimp (disch := omega) only [↓AW_skip, ↓AW_ops, ↓AW_seq, ↓AW_cond, ↓AW_block, ↓AOps_nil, ↓AOps_pu, ↓AOps_ld, ↓AOps_callv, on_some, CallF_fn, condB_t, ↓then_normal, pval, lval, rd_S, put_S, partA, eq_self, mk, List.foldl_cons, List.foldl_nil, List.replicate_succ, List.replicate_zero, List.set_cons_zero, List.set_cons_succ, List.getElem?_cons_zero, List.getElem?_cons_succ, List.drop_zero, List.take_succ_cons, List.take_nil, Option.getD_some, map_c, map_n, List.length_cons, List.length_nil, Nat.reduceLeDiff, Nat.zero_add, List.cons_append, List.nil_append, bin_lss, if_true, if_false, Bool.false_eq_true, decide_true, Go.Eng.e1, hlt', hln, ho.ls.idx hjy, ho.ls.ld0 hzy 1 false (by decide)]
      refine CallK.of (s103 (hpk ys)) ?_
      by_cases hzp : z = p
      · simp (maxSteps := 4000000) -implicitDefEqProofs -dsimp (disch := omega) only [↓AW_skip, ↓AW_ops, ↓AW_cond, ↓AOps_nil, ↓AOps_pu, on_some, extK_same, condB_f, ↓then_normal, ↓inBlock_normal, pval, rd_S, rd_C, put_S, eq_self, mk, List.foldl_cons, List.foldl_nil, List.replicate_succ, List.replicate_zero, List.set_cons_zero, List.set_cons_succ, List.getElem?_cons_zero, List.getElem?_cons_succ, Option.getD_some, List.length_cons, List.length_nil, Nat.reduceAdd, Nat.zero_add, bin_add, w64, Bool.not_true, decide_true, true_and, hzp]
        refine ⟨(i, j + 1, ys), ⟨⟨hlt, by simp only; omega⟩, hyl, ?_, ?_⟩, by simp [Has, rd_s], rfl, by simp only; omega⟩
        · simp only; rw [without_take hz, if_pos hzp, List.append_nil]; exact hyt
        · simp only
          rw [← List.drop_drop, ← List.drop_drop, hyd]
      · have hst := ho.st hiy (I z) z rfl
        rw [List.set_set] at hst
        simp (maxSteps := 4000000) -implicitDefEqProofs -dsimp (disch := omega) only [↓AW_ops, ↓AW_seq, ↓AW_cond, ↓AOps_nil, ↓AOps_pu, ↓AOps_ha, on_some, extK_false, extK_same, condB_t, ↓then_normal, ↓inBlock_normal, pval, hval_st, rd_S, rd_C, put_S, putS_none, eq_self, mk, List.foldl_cons, List.foldl_nil, List.replicate_succ, List.replicate_zero, List.set_cons_zero, List.set_cons_succ, List.getElem?_cons_zero, List.getElem?_cons_succ, Option.getD_some, Option.map_some, List.length_cons, List.length_nil, Nat.reduceAdd, Nat.zero_add, bin_add, w64, Bool.not_false, decide_false, true_and, hzp, ho.ls.idx hiy, hst]
        refine ⟨(i + 1, j + 1, ys.set i z), ⟨⟨hlt, by simp only; omega⟩, by simp [hyl], ?_, ?_⟩, by simp [Has, rd_s], rfl, by simp only; omega⟩
        · simp only
          rw [without_take hz, if_neg hzp, ← hyt, List.take_add_one, List.getElem?_set_self hiy, Option.toList_some, List.take_set_of_le (Nat.le_refl _)]
        · simp only
          rw [List.drop_set_of_lt (by omega), ← List.drop_drop, ← List.drop_drop, hyd]
    · have hlt' : ¬ ((j : Int) < xs.length) := by omega
      have hjj : j = xs.length := by omega
      rw [show xs.take j = xs from List.take_of_length_le (by omega)] at hyt hwl
      have hs1 : slcA 1 (.sl 1 n 0 xs.length full) (some (I i)) none none = some (.sl 1 n (i * 1) (xs.length - i) full) := by
        have : i ≤ xs.length := by omega
        simp [slcA, bnd, this]
      have hs2 : slcA 1 (.sl 1 n 0 xs.length full) none (some (I i)) none = some (.sl 1 n 0 i (full && (i == xs.length))) := by
        have : i ≤ xs.length := by omega
        simp [slcA, bnd, this]
      have hc := OL_clr ho i (by omega) full
      rw [hyl, List.set_set, hyt] at hc
      simp (maxSteps := 4000000) -implicitDefEqProofs -dsimp (disch := omega) only [↓AW_ops, ↓AW_seq, ↓AW_cond, ↓AW_exit, ↓AW_ret, ↓AOps_nil, ↓AOps_pu, ↓AOps_ha, on_some, extK_false, condB_f, ↓then_normal, ↓then_exit, ↓inBlock_exit, ↓Fin_ret, pval, rd_S, put_S, putS_none, resV, resL, eq_self, mk, List.foldl_cons, List.foldl_nil, List.replicate_succ, List.replicate_zero, List.set_cons_zero, List.set_cons_succ, List.getElem?_cons_zero, List.getElem?_cons_succ, Option.getD_some, Option.map_some, Option.map_none, bin_lss, if_true, decide_false, hlt', hln, hs1, hval_clr, hc, hs2]
      exact gc_same_all (by rw [hwl]) (by rw [hwl])
  · have hfe : fpos (fun x => decide (x = p)) xs = -1 := fpos_none (fun y hy => by
      rw [decide_eq_false_iff_not]; rintro rfl; exact hmem hy)
    rw [hfe]
    have hw : without xs p = xs := by
      unfold without
      rw [List.filter_eq_self]
      intro y hy
      have : y ≠ p := by rintro rfl; exact hmem hy
      simp [this]
    simp (maxSteps := 4000000) -implicitDefEqProofs -dsimp (disch := omega) only [↓AW_ops, ↓AW_seq, ↓AW_cond, ↓AW_ret, ↓AOps_nil, ↓AOps_pu, on_some, extK_same, condB_t, ↓then_normal, ↓then_ret, ↓Fin_ret, pval, rd_S, rd_C, put_S, resV, resL, eq_self, List.replicate_succ, List.replicate_zero, List.set_cons_zero, List.set_cons_succ, List.getElem?_cons_zero, List.getElem?_cons_succ, Option.getD_some, Nat.reduceSub, List.cons_append, List.nil_append, bin_eql, decide_true, Int.reduceNeg]
    refine gc_same_all (by rw [hw]; simp) ?_
    rw [hw, Nat.sub_self, List.replicate_zero, List.append_nil, set_same h.ob]
theorem s102 {A : AHeap} {v : AV} {xs : List Int} (hx : L1 A v xs) (h0 : 0 < xs.length) (hl : xs.length ≤ 1000) : ACalls Try.prog 102 [v] A (.sl 1 (A.length + 1) 0 xs.length false) (A ++ [.cells true [], .cells true (xs.flatMap e1)]) := by
  refine acalls hmix Try.func102 (by kernel_rfl) t102 1 rfl (by decide) ?_
  rcases hx.inv with ⟨rfl, rfl⟩ | ⟨n, off, full, rw, l, rfl, h1, h2, h3⟩
  · simp at h0
  · have happ := app_fresh (hx.mono (pre_app A [.cells true []])) (get_new A (.cells true [])) h0 (by simp [lim]; omega)
    rw [List.length_append, List.length_singleton] at happ
    dsimp only [m102]
    simp (maxSteps := 4000000) -implicitDefEqProofs -dsimp (disch := omega) only [↓AW_skip, ↓AW_ops, ↓AW_seq, ↓AW_cond, ↓AW_ret, ↓AOps_nil, ↓AOps_pu, ↓AOps_ha, on_some, extK_app, condB_f, ↓then_normal, ↓Fin_ret, pval, hval_blds, hval_app, rd_S, rd_C, put_S, resV, resL, fillA, repl, List.replicate_succ, List.replicate_zero, List.set_cons_zero, List.set_cons_succ, List.getElem?_cons_zero, List.getElem?_cons_succ, Option.getD_some, map_n, Nat.reduceSub, List.cons_append, List.nil_append, List.replicate_zero, repl, happ]
    exact gc_same_all rfl (by simp)
/-- A list without a road. -/
theorem s63 {A : AHeap} {v : AV} {xs : List Int} (hx : L1 A v xs) (h0 : 0 < xs.length) (hl : xs.length ≤ 1000) (k : Int) : ∃ r H, ACalls Try.prog 63 [v, I k] A r H ∧ A <+: H ∧ L1 H r (without xs k) := by
  refine acallsR hmix Try.func63 (by kernel_rfl) t63 _ 2 rfl (by decide) ?_
  have hpA := pre_app A [AObj.cells true [I k]]
  dsimp only [m63]
  simp (maxSteps := 4000000) -implicitDefEqProofs -dsimp (disch := omega) only [↓AW_ops, ↓AW_seq, ↓AOps_nil, ↓AOps_pu, ↓AOps_ha, ↓AOps_call, on_some, extK_app, ↓then_normal, pval, hval_newv, rd_S, rd_C, put_S, cells_int, List.replicate_succ, List.replicate_zero, List.set_cons_zero, List.set_cons_succ, List.getElem?_cons_zero, List.getElem?_cons_succ, Option.getD_some, map_c, map_n, Nat.reduceSub, List.cons_append, List.nil_append]
  refine CallK.of (s102 (hx.mono hpA) h0 hl) ?_
  have hpB := pre_app (A ++ [AObj.cells true [I k]]) [AObj.cells true [], AObj.cells true (xs.flatMap e1)]
  have hOL : OL 1 e1 A (A ++ [AObj.cells true [I k]] ++ [AObj.cells true [], AObj.cells true (xs.flatMap e1)]) ((A ++ [AObj.cells true [I k]]).length + 1) (.sl 1 ((A ++ [AObj.cells true [I k]]).length + 1) 0 xs.length false) xs := by
    have h0 := OL.new_mk e1_len (A ++ [AObj.cells true [I k]] ++ [AObj.cells true []]) xs false
    have q1 : A ++ [AObj.cells true [I k]] ++ [AObj.cells true []] ++ [AObj.cells true (xs.flatMap e1)] = A ++ [AObj.cells true [I k]] ++ [AObj.cells true [], AObj.cells true (xs.flatMap e1)] := by simp
    have q2 : (A ++ [AObj.cells true [I k]] ++ [AObj.cells true []]).length = (A ++ [AObj.cells true [I k]]).length + 1 := by simp
    rw [q1, q2] at h0
    exact ⟨h0.he, hpA.trans hpB, by simp; omega, h0.ob, h0.v⟩
  have hld : ldA 1 false (.ptr A.length 0) (A ++ [AObj.cells true [I k]] ++ [AObj.cells true [], AObj.cells true (xs.flatMap e1)]) = some (I k) := ld_mono hpB (by simp [ldA, partA])
  have h101 := s101 (p := k) hOL hl (a := A.length) (by simp; omega) hld
  simp (maxSteps := 4000000) -implicitDefEqProofs -dsimp (disch := omega) only [↓AOps_pu, ↓AOps_call, on_some, extK_app, pval, rd_S, put_S, List.replicate_succ, List.replicate_zero, List.set_cons_zero, List.set_cons_succ, List.getElem?_cons_zero, List.getElem?_cons_succ, Option.getD_some, map_c, map_n, Nat.reduceSub, List.cons_append, List.nil_append]
  refine CallK.of h101 ?_
  have hw := without_le xs k
  simp (maxSteps := 4000000) -implicitDefEqProofs -dsimp (disch := omega) only [↓AW_ret, ↓AOps_nil, ↓AOps_pu, on_some, extK_false, ↓then_normal, ↓FinR_ret, pval, rd_S, put_S, resV, resL, List.replicate_succ, List.replicate_zero, List.set_cons_zero, List.set_cons_succ, List.getElem?_cons_zero, List.getElem?_cons_succ, Option.getD_some, Nat.reduceSub, List.cons_append, List.nil_append, Bool.false_and]
  refine ⟨_, _, gc_all, ?_, ?_⟩
  · exact pre_set (hpA.trans hpB) (by simp; omega) _
  · refine ⟨e1_len, ?_⟩
    have hlen : ((A ++ [AObj.cells true [I k]]).length + 1) < (A ++ [AObj.cells true [I k]] ++ [AObj.cells true [], AObj.cells true (xs.flatMap e1)]).length := by simp
    have hfl := flatMap_length e1_len (without xs k)
    simp only [slCells, cellsAt, List.getElem?_set_self hlen, if_true]
    rw [if_pos (by rw [flatMap_length e1_len, List.length_append, List.length_replicate]; omega)]
    simp only [Option.map_some, Option.some.injEq, Prod.mk.injEq, true_and, List.flatMap_append, List.drop_zero]
    rw [← hfl, List.take_left]
end Go.Proofs.Ytkgfcdpckfhknaa

namespace Go.Proofs.Ytkgfcdpckfhknaa
open Go Go.Eng
/-- The net's roads but one. -/
def but (rs : List Rd) (k : Int) : List Int := (nums rs).filter (fun i => decide (¬ i = k))
section
variable {Q : Int} {rs : List Rd} {ks : List Int} {u v : AV} {A : AHeap}
theorem orE_v (x : Int) (p : Prop) [Decidable p] : orE [x, if p then 4 else 0] = if x = 0 then (if p then 4 else 0) else x := by
  unfold orE orE orE
  by_cases h : p
  · simp [h]
  · simp [h]
/-- Up to which cost a road is in some cheapest tree. -/
noncomputable def rgC (rs : List Rd) (k : Int) : Int := (bt rs (but rs k) (rdx rs k).1 (rdx rs k).2.1).getD 99
def rgJ (Q : Int) (rs : List Rd) (k : Int) : Prop := nE Q rs [k] = 0 ∧ Jbl Q.toNat rs
noncomputable instance rgJdec (Q : Int) (rs : List Rd) (k : Int) : Decidable (rgJ Q rs k) := Classical.propDecidable _
noncomputable def rgA (Q : Int) (rs : List Rd) (k : Int) : Int := if rgJ Q rs k then rgC rs k else 0
theorem nE_1 {k : Int} (h : nE Q rs [k] = 0) : Net Q rs ∧ (0 ≤ k ∧ k ≤ (rs.length : Int) - 1) := by
  unfold nE at h
  by_cases h0 : vE Q rs = 0
  · rw [if_pos h0] at h
    by_cases h1 : notOf rs.length [k] = true
    · rw [if_pos h1] at h; cases h
    · have := notOf_nos h1 k (by simp)
      exact ⟨vE_0.1 h0, by omega⟩
  · rw [if_neg h0] at h; exact absurd h h0
set_option maxRecDepth 20000 in
set_option maxHeartbeats 16000000 in
theorem s19 (hu : L3 A u rs) (hP : W Q) (k : Int) (hl : rs.length ≤ 1000000) : ACalls Try.prog 19 [.agg [I Q, u], I k] A (.tuple [I (rgA Q rs k), B (decide (rgJ Q rs k)), I (nE Q rs [k])]) A := by
  refine acalls hmix Try.func19 (by kernel_rfl) t19 2 rfl (by decide) ?_
  dsimp only [m19]
  simp (maxSteps := 4000000) -implicitDefEqProofs -dsimp (disch := omega) only [↓AW_ops, ↓AW_seq, ↓AOps_nil, ↓AOps_pu, ↓AOps_ha, ↓AOps_call, on_some, extK_app, ↓then_normal, pval, hval, rd_S, rd_C, put_S, chkd, isAdr, bgot, AV.cells?, splice, partA, fillA, repl, eq_self, List.replicate_succ, List.replicate_zero, List.set_cons_zero, List.set_cons_succ, List.getElem?_cons_zero, List.getElem?_cons_succ, List.drop_zero, List.drop_succ_cons, List.drop_nil, List.take_zero, List.take_succ_cons, List.take_nil, Option.getD_some, map_c, map_n, List.length_cons, List.length_nil, Nat.reduceAdd, Nat.reduceSub, Nat.reduceLeDiff, Nat.reduceEqDiff, Nat.zero_add, List.cons_append, List.nil_append, List.append_nil, if_true, if_false, Bool.false_eq_true, and_true, ↓AW_ops2, hu.len, List.replicate_zero, repl]
  have hpA := pre_app A [AObj.cells true [I k]]
  have hE : (if vE Q rs = 0 then (if notOf (rs.length : Int) [k] = true then 4 else 0) else vE Q rs) = nE Q rs [k] := rfl
  have hp2 : A <+: A ++ [AObj.cells true [I k]] ++ [AObj.cells true [I (vE Q rs), I (if notOf (rs.length : Int) [k] = true then 4 else 0)]] := hpA.trans (pre_app _ _)
  refine ⟨?_, ?_⟩
  · refine CallK.of (s28 hu hP) ?_
    simp (maxSteps := 4000000) -implicitDefEqProofs -dsimp (disch := omega) only [↓AOps_pu, ↓AOps_ha, ↓AOps_call, on_some, extK_app, extK_same, pval, hval, rd_S, put_S, chkd, isAdr, bgot, AV.cells?, splice, partA, fillA, repl, eq_self, List.replicate_succ, List.replicate_zero, List.set_cons_zero, List.set_cons_succ, List.getElem?_cons_zero, List.getElem?_cons_succ, List.drop_zero, List.drop_succ_cons, List.drop_nil, List.take_zero, List.take_succ_cons, List.take_nil, Option.getD_some, map_c, map_n, List.length_cons, List.length_nil, Nat.reduceAdd, Nat.reduceSub, Nat.reduceLeDiff, Nat.zero_add, List.cons_append, List.nil_append, List.append_nil, if_true, if_false, Bool.false_eq_true, and_true, hu.len, List.replicate_zero, repl]
    refine CallK.of (s58 (L1_one A k) (by simp) (c := rs.length) (by omega)) ?_
    simp (maxSteps := 4000000) -implicitDefEqProofs -dsimp (disch := omega) only [↓AOps_ha, ↓AOps_call, on_some, extK_app, extK_same, hval, rd_S, put_S, AV.cells?, splice, fillA, repl, eq_self, List.replicate_succ, List.replicate_zero, List.set_cons_zero, List.set_cons_succ, List.getElem?_cons_zero, List.getElem?_cons_succ, List.drop_zero, List.drop_succ_cons, List.drop_nil, List.take_zero, List.take_succ_cons, Option.getD_some, map_c, map_n, List.length_cons, List.length_nil, Nat.reduceAdd, Nat.reduceSub, Nat.reduceLeDiff, Nat.zero_add, List.cons_append, List.nil_append, List.append_nil, if_true, and_true, List.replicate_zero, repl]
    refine CallK.of (s57 (L1_two _ _ _) (by simp)) ?_
    rw [orE_v, hE]
    generalize A ++ [AObj.cells true [I k]] ++ [AObj.cells true [I (vE Q rs), I (if notOf (rs.length : Int) [k] = true then 4 else 0)]] = A2 at hp2 ⊢
    have hu2 := hu.mono hp2
    by_cases h0 : nE Q rs [k] = 0
    case neg =>
      have e1 : rgA Q rs k = 0 := if_neg (fun h => h0 h.1)
      rw [e1, decide_eq_false (fun h : rgJ Q rs k => h0 h.1)]
      simp (maxSteps := 4000000) -implicitDefEqProofs -dsimp (disch := omega) only [↓AW_ops, ↓AW_seq, ↓AW_cond, ↓AW_ret, ↓AOps_nil, ↓AOps_pu, on_some, extK_same, condB_t, ↓then_normal, ↓then_ret, ↓Fin_ret, pval, rd_S, rd_C, put_S, resV, resL, List.replicate_succ, List.replicate_zero, List.set_cons_zero, List.set_cons_succ, List.getElem?_cons_zero, List.getElem?_cons_succ, Option.getD_some, Nat.reduceSub, List.cons_append, List.nil_append, bin_neq, decide_true, not_false_eq_true, h0]
      exact gc_val hp2 rfl
    obtain ⟨hn, k0, k1⟩ := nE_1 h0
    obtain ⟨P, rfl⟩ := hn.nat
    have hl14 := hn.l
    have hP7 := hn.p7
    rw [h0]
    simp (maxSteps := 4000000) -implicitDefEqProofs -dsimp (disch := omega) only [↓AW_skip, ↓AW_ops, ↓AW_seq, ↓AW_cond, ↓AOps_nil, ↓AOps_pu, ↓AOps_call, on_some, extK_same, condB_f, ↓then_normal, pval, rd_S, rd_C, put_S, chkd, bgot, partA, eq_self, List.replicate_succ, List.replicate_zero, List.set_cons_zero, List.set_cons_succ, List.getElem?_cons_zero, List.getElem?_cons_succ, List.drop_zero, List.take_succ_cons, List.take_nil, Option.getD_some, map_c, map_n, List.length_cons, List.length_nil, Nat.reduceAdd, Nat.reduceSub, Nat.reduceLeDiff, Nat.reduceEqDiff, Nat.zero_add, List.cons_append, List.nil_append, bin_neq, if_true, if_false, decide_false, not_true_eq_false]
    obtain ⟨r1, H1, c1, p1, L, hL, hO⟩ := c_all hu2 hn
    refine CallK.of c1 ?_
    simp (maxSteps := 4000000) -implicitDefEqProofs -dsimp (disch := omega) only [↓AW_ops, ↓AW_seq, ↓AOps_nil, ↓AOps_pu, ↓AOps_call, on_some, extK_false, ↓then_normal, pval, rd_S, put_S, chkd, bgot, partA, eq_self, List.replicate_succ, List.replicate_zero, List.set_cons_zero, List.set_cons_succ, List.getElem?_cons_zero, List.getElem?_cons_succ, List.drop_zero, List.take_succ_cons, List.take_nil, Option.getD_some, map_c, map_n, List.length_cons, List.length_nil, Nat.reduceAdd, Nat.reduceSub, Nat.reduceLeDiff, Nat.reduceEqDiff, Nat.zero_add, List.cons_append, List.nil_append, if_true, if_false]
    obtain ⟨r2, H2, c2, p2, hG⟩ := c_grow (hu2.mono p1) hL hn hO.nos (by rw [hO.len]; omega)
    refine CallK.of c2 ?_
    simp (maxSteps := 4000000) -implicitDefEqProofs -dsimp (disch := omega) only [↓AOps_call, extK_false, rd_S, put_S, List.replicate_succ, List.replicate_zero, List.set_cons_zero, List.set_cons_succ, List.getElem?_cons_zero, List.getElem?_cons_succ, Option.getD_some, map_c, map_n, Nat.reduceSub, List.cons_append, List.nil_append]
    have hgn : Nos rs (srt (grw (rdx rs) [] L)) := fun k hk => grw_nos hO.nos k ((srt_perm _).mem_iff.1 hk)
    have hsm := grw_small hn hO.nos
    have hpH := hp2.trans (p1.trans p2)
    have huH := hu.mono hpH
    refine CallK.of (s60 huH hG hn hgn (by rw [srt_len]; omega)) ?_
    by_cases hj : Jbl P rs
    case neg =>
      have hjj : ¬ rgJ P rs k := fun h => hj (by have := h.2; rwa [Int.toNat_natCast] at this)
      have e1 : rgA P rs k = 0 := if_neg hjj
      rw [e1, decide_eq_false hjj, decide_eq_false (fun hh => hj ((jbl_grw hn hO).1 hh))]
      simp (maxSteps := 4000000) -implicitDefEqProofs -dsimp (disch := omega) only [↓AW_ops, ↓AW_seq, ↓AW_cond, ↓AW_ret, ↓AOps_nil, ↓AOps_pu, on_some, extK_same, condB_t, ↓then_normal, ↓then_ret, ↓Fin_ret, pval, rd_S, rd_C, put_S, resV, resL, List.replicate_succ, List.replicate_zero, List.set_cons_zero, List.set_cons_succ, List.getElem?_cons_zero, List.getElem?_cons_succ, Option.getD_some, Nat.reduceSub, List.cons_append, List.nil_append, Bool.not_false]
      exact gc_val hpH rfl
    have hjj : rgJ P rs k := ⟨h0, by rw [Int.toNat_natCast]; exact hj⟩
    have e1 : rgA P rs k = (bt rs (but rs k) (rdx rs k).1 (rdx rs k).2.1).getD 99 := if_pos hjj
    rw [e1, decide_eq_true hjj, decide_eq_true ((jbl_grw hn hO).2 hj)]
    simp (maxSteps := 4000000) -implicitDefEqProofs -dsimp (disch := omega) only [↓AW_skip, ↓AW_ops, ↓AW_seq, ↓AW_cond, ↓AOps_nil, ↓AOps_pu, ↓AOps_call, on_some, extK_same, condB_f, ↓then_normal, pval, rd_S, put_S, chkd, bgot, partA, eq_self, List.replicate_succ, List.replicate_zero, List.set_cons_zero, List.set_cons_succ, List.getElem?_cons_zero, List.getElem?_cons_succ, List.drop_zero, List.take_succ_cons, List.take_nil, Option.getD_some, map_c, map_n, List.length_cons, List.length_nil, Nat.reduceAdd, Nat.reduceSub, Nat.reduceLeDiff, Nat.reduceEqDiff, Nat.zero_add, List.cons_append, List.nil_append, if_true, if_false, Bool.not_true]
    obtain ⟨r3, H3, c3, p3, hW⟩ := s63 (hL.mono p2) (by rw [hO.len]; omega) (by rw [hO.len]; omega) k
    refine CallK.of c3 ?_
    have hpK := hpH.trans p3
    have huK := hu.mono hpK
    obtain ⟨hr, _⟩ := rdx_at k0 k1
    have hri := huK.idxI (k := .i64) k0 (show k < (rs.length : Int) by omega)
    obtain ⟨ha, hb⟩ := hn.inP k0 k1
    simp (maxSteps := 4000000) -implicitDefEqProofs -dsimp (disch := omega) only [↓AOps_pu, ↓AOps_ld, ↓AOps_call, on_some, pval, lval, rd_S, put_S, chkd, isAdr, bgot, AV.cells?, partA, eq_self, List.replicate_succ, List.replicate_zero, List.set_cons_zero, List.set_cons_succ, List.getElem?_cons_zero, List.getElem?_cons_succ, List.drop_zero, List.drop_succ_cons, List.take_zero, List.take_succ_cons, List.take_nil, Option.getD_some, map_c, map_n, List.length_cons, List.length_nil, Nat.reduceAdd, Nat.reduceSub, Nat.reduceLeDiff, Nat.zero_add, Nat.add_zero, List.cons_append, List.nil_append, if_true, if_false, Bool.false_eq_true, extK_of p3, hri, huK.ld0 hr 1 false (by decide), huK.ld hr 1 1 false (by decide), e3]
    have hwn : Nos rs (without L k) := fun i hi => hO.nos i (List.mem_filter.1 hi).1
    obtain ⟨c, ok, c4, hLS⟩ := c_least huK hW hn hwn (by have := without_le L k; rw [hO.len] at this; omega) (a := (rdx rs k).1) (b := (rdx rs k).2.1) ha hb
    refine CallK.of c4 ?_
    obtain ⟨hbt, hok⟩ := LS_bt (M := but rs k) (hO.s.filter _) (fun i => by
      unfold but
      rw [List.mem_filter, List.mem_filter, hO.p.mem_iff]
      simp) (fun i hi => hn.wb (hwn i hi).1 (hwn i hi).2) hLS
    rw [hbt]
    cases ok with
    | true =>
      simp (maxSteps := 4000000) -implicitDefEqProofs -dsimp (disch := omega) only [↓AW_ops, ↓AW_seq, ↓AW_cond, ↓AW_ret, ↓AOps_nil, ↓AOps_pu, on_some, extK_same, condB_t, ↓then_normal, ↓then_ret, ↓Fin_ret, pval, rd_S, rd_C, put_S, resV, resL, eq_self, List.replicate_succ, List.replicate_zero, List.set_cons_zero, List.set_cons_succ, List.getElem?_cons_zero, List.getElem?_cons_succ, Option.getD_some, Nat.reduceSub, List.cons_append, List.nil_append, if_true]
      exact gc_val hpK rfl
    | false =>
      simp (maxSteps := 4000000) -implicitDefEqProofs -dsimp (disch := omega) only [↓AW_skip, ↓AW_ops, ↓AW_seq, ↓AW_cond, ↓AW_ret, ↓AOps_nil, ↓AOps_pu, on_some, extK_same, condB_f, ↓then_normal, ↓Fin_ret, pval, rd_S, rd_C, put_S, resV, resL, List.replicate_succ, List.replicate_zero, List.set_cons_zero, List.set_cons_succ, List.getElem?_cons_zero, List.getElem?_cons_succ, Option.getD_some, Nat.reduceSub, List.cons_append, List.nil_append, if_false, Bool.false_eq_true]
      exact gc_val hpK rfl
  · refine CallK.of (s28 (hu.mono hpA) hP) ?_
    simp (maxSteps := 4000000) -implicitDefEqProofs -dsimp (disch := omega) only [↓AOps_call, extK_same, rd_S, put_S, List.replicate_succ, List.replicate_zero, List.set_cons_zero, List.set_cons_succ, List.getElem?_cons_zero, List.getElem?_cons_succ, Option.getD_some, map_c, map_n, Nat.reduceSub, List.cons_append, List.nil_append, List.replicate_zero]
    refine CallK.of (s58 (L1_one A k) (by simp) (c := rs.length) (by omega)) ?_
    simp (maxSteps := 4000000) -implicitDefEqProofs -dsimp (disch := omega) only [↓AOps_ha, ↓AOps_call, on_some, extK_app, extK_same, hval, rd_S, put_S, AV.cells?, splice, fillA, repl, eq_self, List.replicate_succ, List.replicate_zero, List.set_cons_zero, List.set_cons_succ, List.getElem?_cons_zero, List.getElem?_cons_succ, List.drop_zero, List.drop_succ_cons, List.drop_nil, List.take_zero, List.take_succ_cons, Option.getD_some, map_c, map_n, List.length_cons, List.length_nil, Nat.reduceAdd, Nat.reduceSub, Nat.reduceLeDiff, Nat.zero_add, List.cons_append, List.nil_append, List.append_nil, if_true, and_true, List.replicate_zero, repl]
    refine CallK.of (s57 (L1_two _ _ _) (by simp)) ?_
    rw [orE_v, hE]
    generalize A ++ [AObj.cells true [I k]] ++ [AObj.cells true [I (vE Q rs), I (if notOf (rs.length : Int) [k] = true then 4 else 0)]] = A2 at hp2 ⊢
    have hu2 := hu.mono hp2
    by_cases h0 : nE Q rs [k] = 0
    case neg =>
      have e1 : rgA Q rs k = 0 := if_neg (fun h => h0 h.1)
      rw [e1, decide_eq_false (fun h : rgJ Q rs k => h0 h.1)]
      simp (maxSteps := 4000000) -implicitDefEqProofs -dsimp (disch := omega) only [↓AW_ops, ↓AW_seq, ↓AW_cond, ↓AW_ret, ↓AOps_nil, ↓AOps_pu, on_some, extK_same, condB_t, ↓then_normal, ↓then_ret, ↓Fin_ret, pval, rd_S, rd_C, put_S, resV, resL, List.replicate_succ, List.replicate_zero, List.set_cons_zero, List.set_cons_succ, List.getElem?_cons_zero, List.getElem?_cons_succ, Option.getD_some, Nat.reduceSub, List.cons_append, List.nil_append, bin_neq, decide_true, not_false_eq_true, h0]
      exact gc_val hp2 rfl
    obtain ⟨hn, k0, k1⟩ := nE_1 h0
    obtain ⟨P, rfl⟩ := hn.nat
    have hl14 := hn.l
    have hP7 := hn.p7
    rw [h0]
    simp (maxSteps := 4000000) -implicitDefEqProofs -dsimp (disch := omega) only [↓AW_skip, ↓AW_ops, ↓AW_seq, ↓AW_cond, ↓AOps_nil, ↓AOps_pu, ↓AOps_call, on_some, extK_same, condB_f, ↓then_normal, pval, rd_S, rd_C, put_S, chkd, bgot, partA, eq_self, List.replicate_succ, List.replicate_zero, List.set_cons_zero, List.set_cons_succ, List.getElem?_cons_zero, List.getElem?_cons_succ, List.drop_zero, List.take_succ_cons, List.take_nil, Option.getD_some, map_c, map_n, List.length_cons, List.length_nil, Nat.reduceAdd, Nat.reduceSub, Nat.reduceLeDiff, Nat.reduceEqDiff, Nat.zero_add, List.cons_append, List.nil_append, bin_neq, if_true, if_false, decide_false, not_true_eq_false]
    obtain ⟨r1, H1, c1, p1, L, hL, hO⟩ := c_all hu2 hn
    refine CallK.of c1 ?_
    simp (maxSteps := 4000000) -implicitDefEqProofs -dsimp (disch := omega) only [↓AW_ops, ↓AW_seq, ↓AOps_nil, ↓AOps_pu, ↓AOps_call, on_some, extK_false, ↓then_normal, pval, rd_S, put_S, chkd, bgot, partA, eq_self, List.replicate_succ, List.replicate_zero, List.set_cons_zero, List.set_cons_succ, List.getElem?_cons_zero, List.getElem?_cons_succ, List.drop_zero, List.take_succ_cons, List.take_nil, Option.getD_some, map_c, map_n, List.length_cons, List.length_nil, Nat.reduceAdd, Nat.reduceSub, Nat.reduceLeDiff, Nat.reduceEqDiff, Nat.zero_add, List.cons_append, List.nil_append, if_true, if_false]
    obtain ⟨r2, H2, c2, p2, hG⟩ := c_grow (hu2.mono p1) hL hn hO.nos (by rw [hO.len]; omega)
    refine CallK.of c2 ?_
    simp (maxSteps := 4000000) -implicitDefEqProofs -dsimp (disch := omega) only [↓AOps_call, extK_false, rd_S, put_S, List.replicate_succ, List.replicate_zero, List.set_cons_zero, List.set_cons_succ, List.getElem?_cons_zero, List.getElem?_cons_succ, Option.getD_some, map_c, map_n, Nat.reduceSub, List.cons_append, List.nil_append]
    have hgn : Nos rs (srt (grw (rdx rs) [] L)) := fun k hk => grw_nos hO.nos k ((srt_perm _).mem_iff.1 hk)
    have hsm := grw_small hn hO.nos
    have hpH := hp2.trans (p1.trans p2)
    have huH := hu.mono hpH
    refine CallK.of (s60 huH hG hn hgn (by rw [srt_len]; omega)) ?_
    by_cases hj : Jbl P rs
    case neg =>
      have hjj : ¬ rgJ P rs k := fun h => hj (by have := h.2; rwa [Int.toNat_natCast] at this)
      have e1 : rgA P rs k = 0 := if_neg hjj
      rw [e1, decide_eq_false hjj, decide_eq_false (fun hh => hj ((jbl_grw hn hO).1 hh))]
      simp (maxSteps := 4000000) -implicitDefEqProofs -dsimp (disch := omega) only [↓AW_ops, ↓AW_seq, ↓AW_cond, ↓AW_ret, ↓AOps_nil, ↓AOps_pu, on_some, extK_same, condB_t, ↓then_normal, ↓then_ret, ↓Fin_ret, pval, rd_S, rd_C, put_S, resV, resL, List.replicate_succ, List.replicate_zero, List.set_cons_zero, List.set_cons_succ, List.getElem?_cons_zero, List.getElem?_cons_succ, Option.getD_some, Nat.reduceSub, List.cons_append, List.nil_append, Bool.not_false]
      exact gc_val hpH rfl
    have hjj : rgJ P rs k := ⟨h0, by rw [Int.toNat_natCast]; exact hj⟩
    have e1 : rgA P rs k = (bt rs (but rs k) (rdx rs k).1 (rdx rs k).2.1).getD 99 := if_pos hjj
    rw [e1, decide_eq_true hjj, decide_eq_true ((jbl_grw hn hO).2 hj)]
    simp (maxSteps := 4000000) -implicitDefEqProofs -dsimp (disch := omega) only [↓AW_skip, ↓AW_ops, ↓AW_seq, ↓AW_cond, ↓AOps_nil, ↓AOps_pu, ↓AOps_call, on_some, extK_same, condB_f, ↓then_normal, pval, rd_S, put_S, chkd, bgot, partA, eq_self, List.replicate_succ, List.replicate_zero, List.set_cons_zero, List.set_cons_succ, List.getElem?_cons_zero, List.getElem?_cons_succ, List.drop_zero, List.take_succ_cons, List.take_nil, Option.getD_some, map_c, map_n, List.length_cons, List.length_nil, Nat.reduceAdd, Nat.reduceSub, Nat.reduceLeDiff, Nat.reduceEqDiff, Nat.zero_add, List.cons_append, List.nil_append, if_true, if_false, Bool.not_true]
    obtain ⟨r3, H3, c3, p3, hW⟩ := s63 (hL.mono p2) (by rw [hO.len]; omega) (by rw [hO.len]; omega) k
    refine CallK.of c3 ?_
    have hpK := hpH.trans p3
    have huK := hu.mono hpK
    obtain ⟨hr, _⟩ := rdx_at k0 k1
    have hri := huK.idxI (k := .i64) k0 (show k < (rs.length : Int) by omega)
    obtain ⟨ha, hb⟩ := hn.inP k0 k1
    simp (maxSteps := 4000000) -implicitDefEqProofs -dsimp (disch := omega) only [↓AOps_pu, ↓AOps_ld, ↓AOps_call, on_some, pval, lval, rd_S, put_S, chkd, isAdr, bgot, AV.cells?, partA, eq_self, List.replicate_succ, List.replicate_zero, List.set_cons_zero, List.set_cons_succ, List.getElem?_cons_zero, List.getElem?_cons_succ, List.drop_zero, List.drop_succ_cons, List.take_zero, List.take_succ_cons, List.take_nil, Option.getD_some, map_c, map_n, List.length_cons, List.length_nil, Nat.reduceAdd, Nat.reduceSub, Nat.reduceLeDiff, Nat.zero_add, Nat.add_zero, List.cons_append, List.nil_append, if_true, if_false, Bool.false_eq_true, extK_of p3, hri, huK.ld0 hr 1 false (by decide), huK.ld hr 1 1 false (by decide), e3]
    have hwn : Nos rs (without L k) := fun i hi => hO.nos i (List.mem_filter.1 hi).1
    obtain ⟨c, ok, c4, hLS⟩ := c_least huK hW hn hwn (by have := without_le L k; rw [hO.len] at this; omega) (a := (rdx rs k).1) (b := (rdx rs k).2.1) ha hb
    refine CallK.of c4 ?_
    obtain ⟨hbt, hok⟩ := LS_bt (M := but rs k) (hO.s.filter _) (fun i => by
      unfold but
      rw [List.mem_filter, List.mem_filter, hO.p.mem_iff]
      simp) (fun i hi => hn.wb (hwn i hi).1 (hwn i hi).2) hLS
    rw [hbt]
    cases ok with
    | true =>
      simp (maxSteps := 4000000) -implicitDefEqProofs -dsimp (disch := omega) only [↓AW_ops, ↓AW_seq, ↓AW_cond, ↓AW_ret, ↓AOps_nil, ↓AOps_pu, on_some, extK_same, condB_t, ↓then_normal, ↓then_ret, ↓Fin_ret, pval, rd_S, rd_C, put_S, resV, resL, eq_self, List.replicate_succ, List.replicate_zero, List.set_cons_zero, List.set_cons_succ, List.getElem?_cons_zero, List.getElem?_cons_succ, Option.getD_some, Nat.reduceSub, List.cons_append, List.nil_append, if_true]
      exact gc_val hpK rfl
    | false =>
      simp (maxSteps := 4000000) -implicitDefEqProofs -dsimp (disch := omega) only [↓AW_skip, ↓AW_ops, ↓AW_seq, ↓AW_cond, ↓AW_ret, ↓AOps_nil, ↓AOps_pu, on_some, extK_same, condB_f, ↓then_normal, ↓Fin_ret, pval, rd_S, rd_C, put_S, resV, resL, List.replicate_succ, List.replicate_zero, List.set_cons_zero, List.set_cons_succ, List.getElem?_cons_zero, List.getElem?_cons_succ, Option.getD_some, Nat.reduceSub, List.cons_append, List.nil_append, if_false, Bool.false_eq_true]
      exact gc_val hpK rfl
end
end Go.Proofs.Ytkgfcdpckfhknaa

namespace Go.Proofs.Ytkgfcdpckfhknaa
open Go Go.Eng
/-- A map from places to pairs of numbers. -/
def mG (ks : List Int) (g : Int → Int × Int) : List (AV × AV) := mpl ks (fun q => .agg [I (g q).1, I (g q).2])
def updG (g : Int → Int × Int) (k : Int) (x : Int × Int) : Int → Int × Int := fun p => if p = k then x else g p
/-- A list that the call has made and that stands apart from an object. -/
structure QS (A H : AHeap) (m : Nat) (y : AV) (qs : List Int) : Prop where
  q : ∃ n full pre post, y = .sl 1 n pre.length qs.length full ∧ H[n]? = some (.cells true (pre ++ qs.flatMap e1 ++ post)) ∧ n ≠ m ∧ A.length ≤ n ∧ (full = true → post = [])
theorem QS.ls {A H : AHeap} {m : Nat} {y : AV} {qs : List Int} (h : QS A H m y qs) : L1 H y qs := by
  obtain ⟨n, full, pre, post, rfl, h1, _, _, _⟩ := h.q
  refine ⟨e1_len, ?_⟩
  have hl := flatMap_length e1_len qs
  simp only [slCells, cellsAt, h1, if_true]
  rw [if_pos (by simp only [List.length_append]; omega)]
  simp only [Option.map_some, Option.some.injEq, Prod.mk.injEq, true_and]
  rw [List.append_assoc, List.drop_left, ← hl, List.take_left]
theorem QS.push {A H : AHeap} {m : Nat} {y : AV} {qs : List Int} (h : QS A H m y qs) (hp : A <+: H) (hl : qs.length + 1 ≤ lim) (hm : m < H.length) (q : Int) : ∃ y' H2, appA 1 (H ++ [.cells true [I q]]) y (.sl 1 H.length 0 1 true) = some (y', H2) ∧ QS A H2 m y' (qs ++ [q]) ∧ (∀ o, H[m]? = some o → H2[m]? = some o) ∧ A <+: H2 := by
  obtain ⟨n, full, pre, post, rfl, h1, h2, h3, h4⟩ := h.q
  have hn := (List.getElem?_eq_some_iff.1 h1).1
  have hfl := flatMap_length e1_len qs
  have hc := slCells_new (es := 1) H [I q] rfl
  have hg : (H ++ [AObj.cells true [I q]])[n]? = some (.cells true (pre ++ qs.flatMap e1 ++ post)) := by rw [List.getElem?_append_left hn]; exact h1
  have hnew : ((pre ++ qs.flatMap e1 ++ post).drop pre.length).take (qs.length * 1) ++ [I q] = (qs ++ [q]).flatMap e1 := by
    rw [List.append_assoc, List.drop_left, ← hfl, List.take_left, List.flatMap_append]
    rfl
  have hlen : (qs ++ [q]).length = qs.length + 1 := by simp
  unfold appA
  rw [hc]
  simp only [Nat.one_ne_zero, if_false, hl, and_self, if_true, hg]
  rw [if_pos (by simp only [List.length_append]; omega), hnew]
  cases full with
  | true =>
    simp only [if_true]
    refine ⟨_, _, rfl, ⟨_, false, [], [], by rw [hlen]; rfl, by simp, ?_, ?_, by simp⟩, ?_, ?_⟩
    · intro e
      simp only [List.length_append] at e
      omega
    · simp only [List.length_append]; have := hp.length_le; omega
    · intro o ho
      have := (List.getElem?_eq_some_iff.1 ho).1
      rw [List.getElem?_append_left (by simp only [List.length_append]; omega), List.getElem?_append_left this]
      exact ho
    · exact (hp.trans (pre_app _ _)).trans (pre_app _ _)
  | false =>
    simp only [Bool.false_eq_true, if_false]
    refine ⟨_, _, rfl, ⟨_, false, [], [], by rw [hlen]; rfl, by simp, ?_, ?_, by simp⟩, ?_, ?_⟩
    · intro e
      simp only [List.length_append] at e
      omega
    · simp only [List.length_append]; have := hp.length_le; omega
    · intro o ho
      have := (List.getElem?_eq_some_iff.1 ho).1
      rw [List.getElem?_append_left (by simp only [List.length_set, List.length_append]; omega), List.getElem?_set, if_neg h2, List.getElem?_append_left this]
      exact ho
    · exact (pre_set (hp.trans (pre_app _ _)) h3 _).trans (pre_app _ _)
/-- A road up to a cost that joins two places. -/
def jn (rs : List Rd) (c k p q : Int) : Prop := (0 ≤ k ∧ k ≤ (rs.length : Int) - 1) ∧ wct rs k ≤ c ∧ (((rdx rs k).1 = p ∧ (rdx rs k).2.1 = q) ∨ ((rdx rs k).1 = q ∧ (rdx rs k).2.1 = p))
/-- The places in the order in which they were reached. -/
inductive BT (rs : List Rd) (c a : Int) : List Int → (Int → Int × Int) → Prop
  | base {g : Int → Int × Int} : BT rs c a [a] g
  | step {ks : List Int} {g : Int → Int × Int} {k p q : Int} : BT rs c a ks g → q ∉ ks → p ∈ ks → jn rs c k p q → BT rs c a (ks ++ [q]) (updG g q (k, p))
theorem BT.mem {rs : List Rd} {c a : Int} {ks : List Int} {g : Int → Int × Int} (h : BT rs c a ks g) : a ∈ ks := by
  induction h with
  | base => simp
  | step _ _ _ _ ih => exact List.mem_append_left _ ih
theorem BT.nodup {rs : List Rd} {c a : Int} {ks : List Int} {g : Int → Int × Int} (h : BT rs c a ks g) : ks.Nodup := by
  induction h with
  | base => simp
  | step _ hq _ _ ih => exact List.nodup_append.2 ⟨ih, by simp, fun x hx y hy e => hq (by rw [List.mem_singleton] at hy; rw [← hy, ← e]; exact hx)⟩
theorem BT.inP {P : Nat} {rs : List Rd} {c a : Int} {ks : List Int} {g : Int → Int × Int} (h : BT rs c a ks g) (hn : Net P rs) (ha : 0 ≤ a ∧ a < P) : ∀ p ∈ ks, 0 ≤ p ∧ p < P := by
  induction h with
  | base => intro p hp; rw [List.mem_singleton] at hp; rw [hp]; exact ha
  | step _ hq hp hj ih =>
    intro x hx
    rcases List.mem_append.1 hx with h1 | h1
    · exact ih x h1
    · rw [List.mem_singleton] at h1
      rw [h1]
      obtain ⟨⟨k0, k1⟩, _, hr⟩ := hj
      obtain ⟨ha1, hb1⟩ := hn.inP k0 k1
      rcases hr with ⟨_, e2⟩ | ⟨e1, _⟩
      · rw [← e2]; exact hb1
      · rw [← e1]; exact ha1
/-- Each place but the first was reached from an earlier one. -/
theorem BT.rank {rs : List Rd} {c a : Int} {ks : List Int} {g : Int → Int × Int} (h : BT rs c a ks g) : ∃ r : Int → Nat, ∀ q ∈ ks, r q < ks.length ∧ (¬ q = a → (g q).2 ∈ ks ∧ r (g q).2 < r q ∧ jn rs c (g q).1 (g q).2 q) := by
  induction h with
  | base => exact ⟨fun _ => 0, fun q hq => ⟨by simp, fun hn => absurd (List.mem_singleton.1 hq) hn⟩⟩
  | @step ks g k p q hb hq hp hj ih =>
    obtain ⟨r, hr⟩ := ih
    refine ⟨fun x => if x = q then ks.length else r x, fun x hx => ?_⟩
    by_cases hxq : x = q
    · subst hxq
      refine ⟨by simp, fun _ => ?_⟩
      have hpx : ¬ p = x := fun e => hq (by rw [← e]; exact hp)
      simp only [updG, if_true, hpx, if_false]
      exact ⟨List.mem_append_left _ hp, (hr p hp).1, hj⟩
    · have hxk : x ∈ ks := by
        rcases List.mem_append.1 hx with h1 | h1
        · exact h1
        · exact absurd (List.mem_singleton.1 h1) hxq
      obtain ⟨h1, h2⟩ := hr x hxk
      simp only [updG, hxq, if_false]
      refine ⟨by simp; omega, fun hn => ?_⟩
      obtain ⟨h3, h4, h5⟩ := h2 hn
      have hgq : ¬ (g x).2 = q := fun e => hq (by rw [← e]; exact h3)
      simp only [hgq, if_false]
      exact ⟨List.mem_append_left _ h3, h4, h5⟩
/-- All cheap roads from a place lead to places of a list. -/
def clo (rs : List Rd) (c : Int) (ks : List Int) (p : Int) : Prop := ∀ k q, jn rs c k p q → q ∈ ks
section
variable {P : Nat} {rs : List Rd} {u v : AV} {A : AHeap} {a c : Int}
structure BF (rs : List Rd) (P : Nat) (A : AHeap) (a c : Int) (ks : List Int) (g : Int → Int × Int) (qs : List Int) (y : AV) (H : AHeap) : Prop where
  pre : A <+: H
  mp : H[A.length]? = some (.mp (mG ks g))
  q : QS A H A.length y qs
  bt : BT rs c a ks g
  sub : ∀ p ∈ qs, p ∈ ks
  cl : ∀ p ∈ ks, p ∉ qs → clo rs c ks p
  len : qs.length ≤ ks.length
theorem BF.le {ks qs : List Int} {g : Int → Int × Int} {y : AV} {H : AHeap} (hb : BF rs P A a c ks g qs y H) (hn : Net P rs) (ha : 0 ≤ a ∧ a < P) : ks.length ≤ P := by
  have := nodup_len_le hb.bt.nodup (ys := plc P) (fun x hx => mem_plc.2 (hb.bt.inP hn ha x hx))
  rw [plc_len] at this
  exact this
theorem BF.push {ks qs : List Int} {g : Int → Int × Int} {y : AV} {H : AHeap} {k p q : Int} (hb : BF rs P A a c ks g qs y H) (hn : Net P rs) (ha : 0 ≤ a ∧ a < P) (hq : q ∉ ks) (hp : p ∈ ks) (hj : jn rs c k p q) :
    ∃ y' H2, appA 1 (H.set A.length (.mp (mG (ks ++ [q]) (updG g q (k, p)))) ++ [.cells true [I q]]) y (.sl 1 (H.set A.length (.mp (mG (ks ++ [q]) (updG g q (k, p))))).length 0 1 true) = some (y', H2) ∧ BF rs P A a c (ks ++ [q]) (updG g q (k, p)) (qs ++ [q]) y' H2 := by
  have hle := hb.le hn ha
  have hp7 := hn.p7
  have hAl : A.length < H.length := (List.getElem?_eq_some_iff.1 hb.mp).1
  have hp1 : A <+: H.set A.length (.mp (mG (ks ++ [q]) (updG g q (k, p)))) := pre_set hb.pre (Nat.le_refl _) _
  have hm1 : (H.set A.length (.mp (mG (ks ++ [q]) (updG g q (k, p)))))[A.length]? = some (.mp (mG (ks ++ [q]) (updG g q (k, p)))) := List.getElem?_set_self hAl
  have hq1 : QS A (H.set A.length (.mp (mG (ks ++ [q]) (updG g q (k, p))))) A.length y qs := by
    obtain ⟨n, full, pre, post, h0, h1, h2, h3, h4⟩ := hb.q.q
    exact ⟨n, full, pre, post, h0, by rw [List.getElem?_set_ne (Ne.symm h2)]; exact h1, h2, h3, h4⟩
  obtain ⟨y', H2, happ, hq2, hkeep, hp2⟩ := hq1.push hp1 (by have := hb.len; simp only [lim]; omega) (by rw [List.length_set]; exact hAl) q
  refine ⟨y', H2, happ, ⟨hp2, hkeep _ hm1, hq2, .step hb.bt hq hp hj, fun x hx => ?_, fun x hx hnx => ?_, by simp; exact hb.len⟩⟩
  · rcases List.mem_append.1 hx with h | h
    · exact List.mem_append_left _ (hb.sub x h)
    · exact List.mem_append_right _ h
  · have hxk : x ∈ ks := by
      rcases List.mem_append.1 hx with h | h
      · exact h
      · exact absurd (List.mem_append_right _ h) hnx
    exact fun k' q' h' => List.mem_append_left _ (hb.cl x hxk (fun h => hnx (List.mem_append_left _ h)) k' q' h')
end
end Go.Proofs.Ytkgfcdpckfhknaa

namespace Go.Proofs.Ytkgfcdpckfhknaa
open Go Go.Eng
/-- The error of a search for a wall. -/
def hE (Q : Int) (rs : List Rd) (a b c : Int) : Int := if pE Q rs a b = 0 then (if 0 ≤ c ∧ c ≤ 99 then 0 else 1) else pE Q rs a b
section
variable {Q : Int} {rs : List Rd} {ks : List Int} {u v : AV} {A : AHeap} {a b c : Int}
end
end Go.Proofs.Ytkgfcdpckfhknaa

namespace Go.Proofs.Ytkgfcdpckfhknaa
open Go Go.Eng
section
variable {Q : Int} {rs : List Rd} {ks : List Int} {u v : AV} {A : AHeap} {a b : Int}
theorem notOf_of (h : Nos rs ks) : ¬ notOf rs.length ks = true := by
  intro hn
  unfold notOf at hn
  rw [List.any_eq_true] at hn
  obtain ⟨k, hk, hx⟩ := hn
  have := h k hk
  rw [decide_eq_true (show 0 ≤ k ∧ k ≤ (rs.length : Int) - 1 from this)] at hx
  cases hx
end
end Go.Proofs.Ytkgfcdpckfhknaa

namespace Go.Proofs.Ytkgfcdpckfhknaa
open Go Go.Eng
theorem sorted_ext : ∀ {xs ys : List Int}, xs.Pairwise (· < ·) → ys.Pairwise (· < ·) → (∀ k, k ∈ xs ↔ k ∈ ys) → xs = ys
  | [], [], _, _, _ => rfl
  | [], y :: ys, _, _, h => absurd ((h y).2 (by simp)) (by simp)
  | x :: xs, [], _, _, h => absurd ((h x).1 (by simp)) (by simp)
  | x :: xs, y :: ys, h1, h2, h => by
    rw [List.pairwise_cons] at h1 h2
    have hxy : x = y := by
      rcases List.mem_cons.1 ((h x).1 (by simp)) with e | e
      · exact e
      · rcases List.mem_cons.1 ((h y).2 (by simp)) with f | f
        · exact f.symm
        · have := h1.1 y f
          have := h2.1 x e
          omega
    subst hxy
    rw [sorted_ext h1.2 h2.2 (fun k => ?_)]
    constructor
    · intro hk
      rcases List.mem_cons.1 ((h k).1 (List.mem_cons_of_mem _ hk)) with e | e
      · have := h1.1 k hk; omega
      · exact e
    · intro hk
      rcases List.mem_cons.1 ((h k).2 (List.mem_cons_of_mem _ hk)) with e | e
      · have := h2.1 k hk; omega
      · exact e
/-- A tree's roads, one for another. -/
def mkT (ks : List Int) (o i : Int) (n : Nat) : List Int := (plc n).filter (fun j => decide (j = i ∨ (¬ j = o ∧ j ∈ ks)))
theorem mem_mk {ks : List Int} {o i : Int} {n : Nat} {j : Int} : j ∈ mkT ks o i n ↔ (0 ≤ j ∧ j < n) ∧ (j = i ∨ (¬ j = o ∧ j ∈ ks)) := by
  unfold mkT
  rw [List.mem_filter, mem_plc, decide_eq_true_eq]
theorem mem_wo {l : List Int} {p j : Int} : j ∈ without l p ↔ j ∈ l ∧ ¬ j = p := by
  unfold Go.Proofs.Ytkgfcdpckfhknaa.without
  rw [List.mem_filter]
  simp
theorem mk_srt {ks : List Int} {o i : Int} {n : Nat} (h : okS n ks) (hi : 0 ≤ i ∧ i ≤ (n : Int) - 1) (hk : i ∉ ks) : mkT ks o i n = srt (without ks o ++ [i]) := by
  have hnd : (without ks o ++ [i]).Nodup := by
    rw [List.nodup_append]
    refine ⟨(okS_nodup h).sublist List.filter_sublist, by simp, fun x hx y hy e => ?_⟩
    rw [List.mem_singleton] at hy
    exact hk (by rw [← hy, ← e]; exact (mem_wo.1 hx).1)
  have h1 : (srt (without ks o ++ [i])).Pairwise (· < ·) := by
    have h1 := srt_pw (without ks o ++ [i])
    have h2 := (srt_perm (without ks o ++ [i])).nodup_iff.2 hnd
    rw [List.nodup_iff_pairwise_ne] at h2
    exact (h1.and h2).imp (fun hh => by have := hh.1; have := hh.2; omega)
  refine sorted_ext ((plc_sorted n).sublist List.filter_sublist) h1 (fun j => ?_)
  rw [mem_mk, (srt_perm _).mem_iff, List.mem_append, mem_wo, List.mem_singleton]
  constructor
  · rintro ⟨_, h2 | h2⟩
    · exact .inr h2
    · exact .inl ⟨h2.2, h2.1⟩
  · rintro (h2 | h2)
    · have := h.1 j h2.1
      exact ⟨by omega, .inr ⟨h2.2, h2.1⟩⟩
    · exact ⟨by omega, .inl h2⟩
theorem cst_wo {w : Int → Int} {o : Int} : ∀ {ks : List Int}, ks.Nodup → o ∈ ks → cst w ks = cst w (without ks o) + w o
  | [], _, h => by simp at h
  | k :: ks, hn, h => by
    rw [List.nodup_cons] at hn
    by_cases hk : k = o
    · subst hk
      have : without (k :: ks) k = ks := by
        unfold Go.Proofs.Ytkgfcdpckfhknaa.without
        rw [List.filter_cons]
        simp only [decide_true, Bool.not_true, Bool.false_eq_true, if_false]
        rw [List.filter_eq_self]
        intro y hy
        have : ¬ y = k := fun e => hn.1 (by rw [← e]; exact hy)
        simp [this]
      rw [this, cst_cons]
      omega
    · have hok : o ∈ ks := by
        rcases List.mem_cons.1 h with e | e
        · exact absurd e.symm hk
        · exact e
      have : without (k :: ks) o = k :: without ks o := by
        unfold Go.Proofs.Ytkgfcdpckfhknaa.without
        rw [List.filter_cons]
        simp [hk]
      rw [this, cst_cons, cst_cons, cst_wo hn.2 hok]
      omega
theorem cst_mk {w : Int → Int} {ks : List Int} {o i : Int} {n : Nat} (h : okS n ks) (hi : 0 ≤ i ∧ i ≤ (n : Int) - 1) (hk : i ∉ ks) (ho : o ∈ ks) : cst w ks - cst w (mkT ks o i n) = w o - w i := by
  rw [mk_srt h hi hk, cst_perm (srt_perm _), cst_wo (okS_nodup h) ho]
  have : cst w (without ks o ++ [i]) = cst w (without ks o) + w i := by
    unfold cst
    rw [List.map_append, List.sum_append]
    simp
  omega
end Go.Proofs.Ytkgfcdpckfhknaa

namespace Go.Proofs.Ytkgfcdpckfhknaa
open Go Go.Eng
/-- One road of a tree may be another. -/
def swp (P : Nat) (rs : List Rd) (ks : List Int) (o i : Int) : Prop := o ∈ ks ∧ i ∉ ks ∧ Tree P (rdx rs) (mkT ks o i rs.length)
noncomputable instance swpDec (P : Nat) (rs : List Rd) (ks : List Int) (o i : Int) : Decidable (swp P rs ks o i) := Classical.propDecidable _
section
variable {P : Nat} {rs : List Rd} {ks : List Int} {u v : AV} {A : AHeap}
end
end Go.Proofs.Ytkgfcdpckfhknaa

namespace Go.Proofs.Ytkgfcdpckfhknaa
open Go Go.Eng
section
variable {Q : Int} {rs : List Rd} {ks : List Int} {u v : AV} {A : AHeap}
end
end Go.Proofs.Ytkgfcdpckfhknaa

namespace Go.Proofs.Ytkgfcdpckfhknaa
open Go Go.Eng
section
variable {P : Nat} {rs : List Rd} {ks : List Int} {u v : AV} {A : AHeap}
theorem best_le (hn : Net P rs) {T : List Int} (hk : Nos rs T) (hT : Tree P (rdx rs) T) : best rs ≤ cst (wct rs) T := by
  have hO := ordL_ord rs
  have hP := hO.nos.inP hn
  have hTL : ∀ k ∈ T, k ∈ ordL rs := fun k h => hO.mem.2 (hk k h)
  have hG : Tree P (rdx rs) (grw (rdx rs) [] (ordL rs)) := (grw_tree hP (by have := hT.1; omega)).2 (tree_all hTL hT)
  unfold best
  exact grw_opt (M := 99) hP hO.s (hO.wb hn) hTL hT.ind (by have := hT.1; have := hG.1; omega)
/-- No road may be a cheaper one. -/
def noB (P : Nat) (rs : List Rd) (ks : List Int) : Prop := ∀ o i, o ∈ ks → (0 ≤ i ∧ i ≤ (rs.length : Int) - 1) → swp P rs ks o i → wct rs o ≤ wct rs i
theorem noB_iff (hn : Net P rs) (hok : okS rs.length ks) (hT : Tree P (rdx rs) ks) : noB P rs ks ↔ cst (wct rs) ks = best rs := by
  have hO := ordL_ord rs
  have hP := hO.nos.inP hn
  have hkn := okS_nos hok
  have hle := best_le hn hkn hT
  constructor
  · intro h
    have hTL : ∀ k ∈ ks, k ∈ ordL rs := fun k h => hO.mem.2 (hkn k h)
    have h2 : cst (wct rs) ks ≤ best rs := by
      unfold best
      refine local_opt (M := 99) hP hO.s (hO.wb hn) hTL hT (fun X Y g f hp hf hTf => ?_)
      have hg : g ∈ ks := hp.symm.subset (by simp)
      have hfv := hO.mem.1 hf
      have hnd := (hp.nodup_iff).1 (okS_nodup hok)
      rw [List.nodup_cons] at hnd
      by_cases hfk : f ∈ ks
      · rcases List.mem_cons.1 (hp.subset hfk) with e | e
        · rw [e]; exact Int.le_refl _
        · have hPf := hP f hf
          have hI : Ind P (rdx rs f :: (X ++ Y).map (rdx rs)) := hTf.ind
          have hXY : ∀ k ∈ X ++ Y, k ∈ ordL rs := fun k hk => hTL k (hp.symm.subset (List.mem_cons_of_mem _ hk))
          have hIs : Ind P ((X ++ Y).map (rdx rs)) := ind_sub (T := f :: (X ++ Y)) (List.sublist_cons_self _ _) (fun k hk => by
            rcases List.mem_cons.1 hk with e2 | e2
            · rw [e2]; exact hPf
            · exact hP k (hXY k e2)) hI
          exact absurd (Cn.one (List.mem_map_of_mem e)) ((Ind.cons hPf hIs).1 hI)
      · refine h g f hg hfv ⟨hg, hfk, ?_⟩
        have hwp : (without ks g).Perm (X ++ Y) := by
          have h1 : (without ks g).Perm (without (g :: (X ++ Y)) g) := hp.filter _
          have h2 : without (g :: (X ++ Y)) g = X ++ Y := by
            unfold Go.Proofs.Ytkgfcdpckfhknaa.without
            rw [List.filter_cons]
            simp only [decide_true, Bool.not_true, Bool.false_eq_true, if_false]
            rw [List.filter_eq_self]
            intro y hy
            have : ¬ y = g := fun e => hnd.1 (by rw [← e]; exact hy)
            simp [this]
          rw [h2] at h1
          exact h1
        rw [mk_srt hok hfv hfk]
        refine hTf.perm ((srt_perm _).trans ?_)
        exact (hwp.append_right [f]).trans List.perm_append_comm
    omega
  · intro h o i ho hi hs
    refine Classical.byContradiction (fun hn2 => ?_)
    have h1 := cst_mk (w := wct rs) hok hi hs.2.1 hs.1
    have h2 := best_le hn (T := mkT ks o i rs.length) (fun j hj => by have := (mem_mk.1 hj).1; omega) hs.2.2
    omega
end
section
variable {Q : Int} {rs : List Rd} {ks : List Int} {u v : AV} {A : AHeap}
end
end Go.Proofs.Ytkgfcdpckfhknaa

namespace Go.Proofs.Ytkgfcdpckfhknaa
open Go Go.Eng
section
variable {Q : Int} {rs : List Rd} {ks : List Int} {u v : AV} {A : AHeap}
/-- In all, or in none, of the cheapest trees. -/
def alw (P : Nat) (rs : List Rd) (k : Int) : Prop := ∀ T ∈ chl P rs, k ∈ T
def nev (P : Nat) (rs : List Rd) (k : Int) : Prop := ∀ T ∈ chl P rs, k ∉ T
noncomputable instance alwDec (P : Nat) (rs : List Rd) (k : Int) : Decidable (alw P rs k) := Classical.propDecidable _
noncomputable instance nevDec (P : Nat) (rs : List Rd) (k : Int) : Decidable (nev P rs k) := Classical.propDecidable _
section
variable {P : Nat} {k : Int} {L : List Int}
theorem not_jbl (hj : ¬ Jbl P rs) (hn : Net P rs) : chl P rs = [] := chl_nil (Classical.byContradiction (fun e => hj ((jbl_trees hn).2 e)))
theorem nos_tree (hn : Net P rs) {M : List Int} (hM : Nos rs M) : Tree P (rdx rs) (grw (rdx rs) [] M) → Jbl P rs := fun ht => by
  unfold Jbl
  exact tree_all (T := grw (rdx rs) [] M) (fun i hi => by have := hM i ((grw_sub M).subset hi); exact mem_plc.2 (by omega)) ht
theorem mem_chl' (hn : Net P rs) {T : List Int} : T ∈ chl P rs ↔ okS rs.length T ∧ Tree P (rdx rs) T ∧ cst (wct rs) T = best rs := by
  constructor
  · intro h
    have h1 := (mem_chl.1 h).1
    have h2 := mem_trees.1 h1
    exact ⟨h2.1, h2.2, (chl_best hn h1).1 h⟩
  · rintro ⟨h1, h2, h3⟩
    exact (chl_best hn (mem_trees.2 ⟨h1, h2⟩)).2 h3
theorem srt_chl (hn : Net P rs) {M : List Int} (hM : Nos rs M) (hd : M.Nodup) (ht : Tree P (rdx rs) M) (hc : cst (wct rs) M ≤ best rs) : srt M ∈ chl P rs := by
  rw [mem_chl' hn]
  have hle := best_le hn hM ht
  exact ⟨srt_okS hd hM, ht.perm (srt_perm M), by rw [cst_perm (srt_perm M)]; omega⟩
end
end
end Go.Proofs.Ytkgfcdpckfhknaa

namespace Go.Proofs.Ytkgfcdpckfhknaa
open Go Go.Eng
theorem cst_one : ∀ X : List Int, cst (fun _ => 1) X = X.length
  | [] => rfl
  | x :: X => by rw [cst_cons, cst_one X, List.length_cons]; omega
/-- Weights under which one road comes first. -/
def wkf (w : Int → Int) (k : Int) : Int → Int := fun j => if j = k then 0 else w j + 1
theorem cst_wkf {w : Int → Int} {k : Int} : ∀ {Y : List Int}, k ∉ Y → cst (wkf w k) Y = cst w Y + Y.length
  | [], _ => rfl
  | y :: Y, h => by
    have hy : ¬ y = k := fun e => h (by rw [e]; simp)
    have hw : wkf w k y = w y + 1 := by unfold wkf; rw [if_neg hy]
    rw [cst_cons, cst_cons, cst_wkf (fun e => h (List.mem_cons_of_mem _ e)), hw, List.length_cons]
    omega
theorem cst_shift {w : Int → Int} {k : Int} {X : List Int} (hd : X.Nodup) (hk : k ∈ X) : cst (wkf w k) X = cst w X - w k + X.length - 1 := by
  have h1 := cst_wo (w := w) hd hk
  have h2 := cst_wo (w := wkf w k) hd hk
  have h3 := cst_wo (w := fun _ => 1) hd hk
  rw [cst_one, cst_one] at h3
  have h4 : k ∉ without X k := fun e => (mem_wo.1 e).2 rfl
  rw [cst_wkf h4] at h2
  have h5 : wkf w k k = 0 := by unfold wkf; rw [if_pos rfl]
  omega
section
variable {P : Nat} {rs : List Rd} {k : Int} {L : List Int}
theorem kfirst (hn : Net P rs) (hO : Ord rs L) (hk : 0 ≤ k ∧ k ≤ (rs.length : Int) - 1) : Nos rs (k :: without L k) ∧ (k :: without L k).Nodup ∧ k ∈ grw (rdx rs) [] (k :: without L k) ∧ (∀ i, i ∈ k :: without L k ↔ i ∈ L) := by
  have hwn : Nos rs (without L k) := fun i hi => hO.nos i (mem_wo.1 hi).1
  refine ⟨fun i hi => ?_, ?_, ?_, fun i => ?_⟩
  · rcases List.mem_cons.1 hi with e | e
    · rw [e]; exact hk
    · exact hwn i e
  · rw [List.nodup_cons]
    exact ⟨fun e => (mem_wo.1 e).2 rfl, hO.nodup.sublist List.filter_sublist⟩
  · rw [grw]
    have h0 : ¬ Cn (([] : List Int).map (rdx rs)) (rdx rs k).1 (rdx rs k).2.1 := fun h => (hn.r _ (rdx_at hk.1 hk.2).2).2.1 h.nil
    rw [if_neg h0]
    obtain ⟨X, h1, _⟩ := grw_more (R := rdx rs) (without L k) ([] ++ [k])
    rw [h1]
    simp
  · rw [List.mem_cons, mem_wo]
    constructor
    · rintro (e | e)
      · rw [e]; exact hO.mem.2 hk
      · exact e.1
    · intro e
      by_cases h : i = k
      · exact .inl h
      · exact .inr ⟨e, h⟩
theorem nev_iff (hn : Net P rs) (hO : Ord rs L) (hj : Jbl P rs) (hk : 0 ≤ k ∧ k ≤ (rs.length : Int) - 1) : nev P rs k ↔ ¬ Tree P (rdx rs) (grw (rdx rs) [] (k :: without L k)) ∨ best rs < cst (wct rs) (grw (rdx rs) [] (k :: without L k)) := by
  obtain ⟨hmn, hmd, hkm, hml⟩ := kfirst hn hO hk
  have hP := hmn.inP hn
  constructor
  · intro h
    refine Classical.byContradiction (fun hc => ?_)
    rw [not_or] at hc
    obtain ⟨h1, h2⟩ := hc
    have h1 := Classical.not_not.1 h1
    exact h _ (srt_chl hn (grw_nos hmn) (hmd.sublist (grw_sub _)) h1 (by omega)) ((srt_perm _).mem_iff.2 hkm)
  · intro h T hT hkT
    obtain ⟨h1, h2, h3⟩ := (mem_chl' hn).1 hT
    have hTL : ∀ i ∈ T, i ∈ k :: without L k := fun i hi => (hml i).2 (hO.mem.2 (okS_nos h1 i hi))
    have ht : Tree P (rdx rs) (grw (rdx rs) [] (k :: without L k)) := (grw_tree hP (by have := h2.1; omega)).2 (tree_all hTL h2)
    have hsw : (k :: without L k).Pairwise (fun a b => wkf (wct rs) k a ≤ wkf (wct rs) k b) := by
      rw [List.pairwise_cons]
      constructor
      · intro j hj
        have := hn.wb (hmn j (by simp [hj])).1 (hmn j (by simp [hj])).2
        have hjk := (mem_wo.1 hj).2
        unfold wkf
        rw [if_pos rfl, if_neg hjk]
        omega
      · refine List.Pairwise.imp_of_mem ?_ (hO.s.sublist (List.filter_sublist (p := fun x => !decide (x = k))))
        intro x y hx hy hxy
        have hx2 := (mem_wo.1 hx).2
        have hy2 := (mem_wo.1 hy).2
        unfold wkf
        rw [if_neg hx2, if_neg hy2]
        omega
    have hwb : ∀ j ∈ k :: without L k, 0 ≤ wkf (wct rs) k j ∧ wkf (wct rs) k j ≤ (100 : Nat) := fun j hj => by
      have := hn.wb (hmn j hj).1 (hmn j hj).2
      unfold wkf
      split <;> omega
    have hle := grw_opt (w := wkf (wct rs) k) (M := 100) hP hsw hwb hTL h2.ind (by have := h2.1; have := ht.1; omega)
    rw [cst_shift (hmd.sublist (grw_sub _)) hkm, cst_shift (okS_nodup h1) hkT] at hle
    have hl : (grw (rdx rs) [] (k :: without L k)).length = T.length := by have := h2.1; have := ht.1; omega
    rcases h with h | h
    · exact h ht
    · omega
theorem alw_no (hn : Net P rs) (hj : ¬ Jbl P rs) : alw P rs k ∧ nev P rs k := by
  have := not_jbl hj hn
  exact ⟨fun T hT => (by rw [this] at hT; cases hT), fun T hT => (by rw [this] at hT; cases hT)⟩
theorem nev_dec (hn : Net P rs) (hO : Ord rs L) (hk : 0 ≤ k ∧ k ≤ (rs.length : Int) - 1) : (decide (nev P rs k) : Bool) = (!decide (Tree P (rdx rs) (grw (rdx rs) [] (k :: without L k))) || decide (cst (wct rs) (grw (rdx rs) [] L) < cst (wct rs) (grw (rdx rs) [] (k :: without L k)))) := by
  rw [best_of hn hO]
  by_cases hj : Jbl P rs
  · rw [Bool.eq_iff_iff, decide_eq_true_eq, Bool.or_eq_true, Bool.not_eq_true', decide_eq_false_iff_not, decide_eq_true_eq]
    exact nev_iff hn hO hj hk
  · have h1 : ¬ Tree P (rdx rs) (grw (rdx rs) [] (k :: without L k)) := fun h => hj (nos_tree hn (kfirst hn hO hk).1 h)
    rw [decide_eq_true (alw_no hn hj).2, decide_eq_false h1]
    rfl
end
section
variable {P : Nat} {rs : List Rd} {ks : List Int} {u v : AV} {A : AHeap}
/-- Roads of which a closure says yes. -/
theorem s89 (hu : L3 A u rs) (hl : rs.length ≤ 1000) (f : FuncId) (cap : List AV) (g : Int → Bool) (hg : ∀ H, A <+: H → ∀ i : Int, 0 ≤ i → i < (rs.length : Int) → ACalls Try.prog f ([I i] ++ cap) H (B (g i)) H) :
    ∃ r H, ACalls Try.prog 89 [.agg [I P, u], .fn f cap] A r H ∧ A <+: H ∧ L1 H r ((nums rs).filter g) := by
  refine acallsR hmix Try.func89 (by kernel_rfl) t89 _ 2 rfl (by decide) ?_
  dsimp only [m89]
  simp (maxSteps := 4000000) -implicitDefEqProofs -dsimp (disch := omega) only [↓AW_ops, ↓AW_seq, ↓AW_block, ↓AOps_nil, ↓AOps_pu, on_some, ↓then_normal, pval, rd_S, rd_C, put_S, ↓AW_toLoop, chkd, isAdr, bgot, cells_agg, partA, eq_self, List.replicate_succ, List.replicate_zero, List.set_cons_zero, List.set_cons_succ, List.getElem?_cons_zero, List.getElem?_cons_succ, List.drop_zero, List.drop_succ_cons, List.take_succ_cons, List.take_nil, Option.getD_some, List.length_cons, List.length_nil, Nat.reduceAdd, Nat.reduceSub, Nat.reduceLeDiff, Nat.zero_add, List.cons_append, List.nil_append, if_true, if_false, Bool.false_eq_true, hu.len]
  refine LoopK.by 22 (fun x : Nat × AV × AHeap => x.1 ≤ rs.length ∧ AccL 1 e1 A x.2.2 x.2.1 ((plc x.1).filter g)) (fun x => [(1, .fn f cap), (5, x.2.1), (9, I rs.length), (10, I x.1)]) (fun x => x.2.2) (fun x => rs.length - x.1) (0, .nilS, A) ⟨by simp only; omega, AccL.nil (List.prefix_refl _)⟩ rfl (by simp [Has, rd_s]) rfl ?_
  rintro ⟨j, y, H⟩ ⟨hj, hac⟩
  simp only at hj hac
  by_cases hlt : j < rs.length
  · have hlt' : (j : Int) < rs.length := by omega
    have hfl := filt_len g j
    have hsu := filt_succ g j
    simp (maxSteps := 4000000) -implicitDefEqProofs -dsimp (disch := omega) only [↓AW_skip, ↓AW_ops, ↓AW_seq, ↓AW_cond, ↓AW_block, ↓AOps_nil, ↓AOps_pu, ↓AOps_callv, on_some, CallF_fn, condB_t, ↓then_normal, pval, rd_S, put_S, mk, List.foldl_cons, List.foldl_nil, List.replicate_succ, List.replicate_zero, List.set_cons_zero, List.set_cons_succ, List.getElem?_cons_zero, List.getElem?_cons_succ, Option.getD_some, map_c, map_n, List.cons_append, List.nil_append, bin_lss, decide_true, hlt']
    refine CallK.of (hg H hac.1 (j : Int) (by omega) hlt') ?_
    cases hb : g (j : Int) with
    | true =>
      rw [if_pos hb] at hsu
      obtain ⟨v', H2, happ, hacc⟩ := hac.push e1_len (j : Int) (by simp only [lim]; omega)
      simp only [Go.Eng.e1] at happ
      simp (maxSteps := 4000000) -implicitDefEqProofs -dsimp (disch := omega) only [↓AW_ops, ↓AW_cond, ↓AOps_nil, ↓AOps_pu, ↓AOps_ha, on_some, extK_false, extK_app, extK_same, condB_t, ↓then_normal, ↓inBlock_normal, pval, hval_blds, hval_app, rd_S, rd_C, put_S, cells_int, splice, fillA, repl, eq_self, mk, List.foldl_cons, List.foldl_nil, List.replicate_succ, List.replicate_zero, List.set_cons_zero, List.set_cons_succ, List.getElem?_cons_zero, List.getElem?_cons_succ, List.drop_succ_cons, List.drop_nil, List.take_zero, Option.getD_some, map_c, map_n, List.length_cons, List.length_nil, Nat.reduceAdd, Nat.reduceLeDiff, Nat.zero_add, List.nil_append, List.append_nil, bin_add, w64, if_true, true_and, and_true, happ, List.replicate_zero, repl]
      exact ⟨(j + 1, v', H2), ⟨hlt, by rw [hsu]; exact hacc⟩, by simp [Has, rd_s], rfl, by simp only; omega⟩
    | false =>
      rw [if_neg (by rw [hb]; simp), List.append_nil] at hsu
      simp (maxSteps := 4000000) -implicitDefEqProofs -dsimp (disch := omega) only [↓AW_skip, ↓AW_ops, ↓AW_cond, ↓AOps_nil, ↓AOps_pu, on_some, extK_same, condB_f, ↓then_normal, ↓inBlock_normal, pval, rd_S, rd_C, put_S, eq_self, mk, List.foldl_cons, List.foldl_nil, List.replicate_succ, List.replicate_zero, List.set_cons_zero, List.set_cons_succ, List.getElem?_cons_zero, List.getElem?_cons_succ, Option.getD_some, List.length_cons, List.length_nil, Nat.reduceAdd, Nat.zero_add, bin_add, w64, true_and]
      exact ⟨(j + 1, y, H), ⟨hlt, by rw [hsu]; exact hac⟩, by simp [Has, rd_s], rfl, by simp only; omega⟩
  · have hlt' : ¬ ((j : Int) < rs.length) := by omega
    have hje : j = rs.length := by omega
    subst hje
    simp (maxSteps := 4000000) -implicitDefEqProofs -dsimp (disch := omega) only [↓AW_ops, ↓AW_seq, ↓AW_cond, ↓AW_exit, ↓AW_ret, ↓AOps_nil, ↓AOps_pu, on_some, condB_f, ↓then_normal, ↓then_exit, ↓inBlock_exit, ↓FinR_ret, pval, rd_S, put_S, resV, resL, eq_self, mk, List.foldl_cons, List.foldl_nil, List.replicate_succ, List.replicate_zero, List.set_cons_zero, List.set_cons_succ, List.getElem?_cons_zero, List.getElem?_cons_succ, Option.getD_some, bin_lss, if_true, decide_false, hlt']
    exact ⟨_, _, gc_all, hac.1, AccL_ls hac e1_len⟩
end
end Go.Proofs.Ytkgfcdpckfhknaa

namespace Go.Proofs.Ytkgfcdpckfhknaa
open Go Go.Eng
/-- A list that grows, or that has room and no element yet. -/
def NS (A H : AHeap) (v : AV) (xs : List Int) : Prop :=
  AccL 1 e1 A H v xs ∨ (xs = [] ∧ A <+: H ∧ ∃ n l, v = .sl 1 n 0 0 false ∧ A.length ≤ n ∧ H[n]? = some (.cells true l))
theorem NS.pre {A H : AHeap} {v : AV} {xs : List Int} (h : NS A H v xs) : A <+: H := by
  rcases h with h | h
  · exact AccL.pre h
  · exact h.2.1
theorem NS.push {A H : AHeap} {v y : AV} {xs ys : List Int} (h : NS A H v xs) (hy : L1 H y ys) (hl : xs.length + ys.length ≤ lim) : ∃ v' H', appA 1 H v y = some (v', H') ∧ NS A H' v' (xs ++ ys) := by
  rcases h with h | ⟨rfl, hp, n, l, rfl, hn, hg⟩
  · obtain ⟨v', H', h1, h2⟩ := h.pushes hy hl
    exact ⟨v', H', h1, .inl h2⟩
  · have hc := hy.hc
    by_cases h0 : ys.length = 0
    · have : ys = [] := List.eq_nil_of_length_eq_zero h0
      subst this
      refine ⟨.sl 1 n 0 0 false, H, ?_, .inr ⟨rfl, hp, n, l, rfl, hn, hg⟩⟩
      unfold appA
      rw [hc]
      simp
    · have hlim : ys.length ≤ lim := by simpa using hl
      refine ⟨.sl 1 H.length 0 ys.length false, H.set n .dead ++ [.cells true (ys.flatMap e1)], ?_, .inl ⟨(pre_set hp hn _).trans (pre_app _ _), ?_, .inr ⟨by simpa using (by omega : 0 < ys.length), H.length, by simp, hp.length_le, by simp⟩⟩⟩
      · unfold appA
        rw [hc]
        simp [h0, hlim, hg]
      · simpa using flatMap_length e1_len ys
theorem c_Grow (n : Nat) (hn : n ≤ 1000) (A : AHeap) : ∃ v H, ACalls Try.prog 107 [.nilS, I n] A v H ∧ NS A H v [] := by
  by_cases h0 : n = 0
  · subst h0
    refine ⟨.nilS, A, ?_, .inl (AccL.nil (List.prefix_refl _))⟩
    refine acalls hmix Try.func107 (by kernel_rfl) t107 2 rfl (by decide) ?_
    dsimp only [m107]
    simp (maxSteps := 4000000) -implicitDefEqProofs -dsimp (disch := omega) only [↓AW_skip, ↓AW_ops, ↓AW_seq, ↓AW_cond, ↓AW_ret, ↓AOps_nil, ↓AOps_pu, on_some, condB_f, ↓then_normal, ↓Fin_ret, pval, rd_S, rd_C, put_S, resV, resL, List.replicate_succ, List.replicate_zero, List.set_cons_zero, List.set_cons_succ, List.getElem?_cons_zero, List.getElem?_cons_succ, Option.getD_some, Nat.reduceSub, List.cons_append, List.nil_append, bin_sub, bin_lss, bin_gtr, w64, decide_false, Int.reduceLT, Int.reduceSub, capA, lenA, show ((0 : Nat) : Int) = 0 from rfl]
    exact gc_same rfl
  · refine ⟨.sl 1 A.length 0 0 false, A ++ [.cells true (repl [I 0] n)], ?_, .inr ⟨rfl, pre_app _ _, A.length, repl [I 0] n, rfl, Nat.le_refl _, by simp⟩⟩
    refine acalls hmix Try.func107 (by kernel_rfl) t107 2 rfl (by decide) ?_
    have h1 : ¬ (n : Int) < 0 := by omega
    have h2 : (0 : Int) < n := by omega
    have h3 : (0 : Int) < n ∧ (n : Int) ≤ ((lim : Nat) : Int) := by unfold lim; omega
    have h4 : slcA 1 .nilS none (some (.int .i64 0)) none = some .nilS := rfl
    have h5 : slcA 1 (.sl 1 A.length 0 n false) none (some (.int .i64 0)) none = some (.sl 1 A.length 0 0 false) := by simp [slcA, bnd]
    dsimp only [m107]
    simp (maxSteps := 4000000) -implicitDefEqProofs -dsimp (disch := omega) only [↓AW_skip, ↓AW_ops, ↓AW_seq, ↓AW_cond, ↓AW_ret, ↓AOps_nil, ↓AOps_pu, ↓AOps_ha, on_some, extK_app, condB_t, condB_f, ↓then_normal, ↓Fin_ret, pval, hval, rd_S, rd_C, put_S, resV, resL, List.replicate_succ, List.replicate_zero, List.set_cons_zero, List.set_cons_succ, List.getElem?_cons_zero, List.getElem?_cons_succ, Option.getD_some, Option.map_some, Option.map_none, Nat.reduceSub, List.cons_append, List.nil_append, bin_sub, bin_lss, bin_gtr, w64, if_true, decide_true, decide_false, and_true, capA, appzA, lenA, h1, Int.sub_zero, Int.sub_self, h2, h4, appzA, h3, Int.toNat_natCast, h5]
    exact gc_all
def catZ (zs : List (AV × List Int)) : List Int := zs.flatMap Prod.snd
def lenZ (zs : List (AV × List Int)) : Int := (zs.map fun z => (z.2.length : Int)).sum
theorem catZ_take {zs : List (AV × List Int)} {i : Nat} {z : AV × List Int} (hz : zs[i]? = some z) : catZ (zs.take (i + 1)) = catZ (zs.take i) ++ z.2 := by
  rw [List.take_add_one, hz]; simp [catZ]
theorem lenZ_take {zs : List (AV × List Int)} {i : Nat} {z : AV × List Int} (hz : zs[i]? = some z) : lenZ (zs.take (i + 1)) = lenZ (zs.take i) + z.2.length := by
  rw [List.take_add_one, hz]; simp [lenZ]
theorem lenZ_bound : ∀ {zs : List (AV × List Int)}, (∀ z ∈ zs, z.2.length ≤ 100) → 0 ≤ lenZ zs ∧ lenZ zs ≤ 100 * zs.length ∧ ((catZ zs).length : Int) = lenZ zs
  | [], _ => by simp [lenZ, catZ]
  | z :: zs, h => by
    have ih := lenZ_bound (zs := zs) (fun y hy => h y (by simp [hy]))
    have hz := h z (by simp)
    have q1 : lenZ (z :: zs) = z.2.length + lenZ zs := by simp [lenZ]
    have q2 : (catZ (z :: zs)).length = z.2.length + (catZ zs).length := by simp [catZ]
    rw [q1, q2, List.length_cons]
    omega
theorem c_Concat {zs : List (AV × List Int)} {u : AV} {A : AHeap} (hz0 : Ls 1 e0 A u zs) (hin : ∀ z ∈ zs, L1 A z.1 z.2) (hl : zs.length ≤ 8) (hb : ∀ z ∈ zs, z.2.length ≤ 100) (hne : 0 < (catZ zs).length) :
    ∃ r H, ACalls Try.prog 93 [u] A r H ∧ A <+: H ∧ L1 H r (catZ zs) := by
  refine acallsR hmix Try.func93 (by kernel_rfl) t93 _ 1 rfl (by decide) ?_
  have hbt : ∀ i, 0 ≤ lenZ (zs.take i) ∧ lenZ (zs.take i) ≤ 800 := fun i => by
    have := lenZ_bound (zs := zs.take i) (fun z hz => hb z (List.mem_of_mem_take hz))
    rw [List.length_take] at this
    omega
  dsimp only [m93]
  simp (maxSteps := 4000000) -implicitDefEqProofs -dsimp (disch := omega) only [↓AW_ops, ↓AW_seq, ↓AW_block, ↓AOps_nil, ↓AOps_pu, on_some, ↓then_normal, pval, rd_S, rd_C, put_S, ↓AW_toLoop, List.replicate_succ, List.replicate_zero, List.set_cons_zero, List.set_cons_succ, List.getElem?_cons_zero, List.getElem?_cons_succ, Option.getD_some, Nat.reduceSub, List.cons_append, List.nil_append, hz0.len]
  refine LoopK.by 36 (fun i : Nat => i ≤ zs.length) (fun i => [(0, u), (3, I (lenZ (zs.take i))), (9, u), (10, I zs.length), (11, I i)]) (fun _ => A) (fun i => zs.length - i) 0 (by omega) rfl (by simp [Has, rd_s, lenZ]) rfl ?_
  intro i hi
  by_cases hlt : i < zs.length
  · obtain ⟨z, hz⟩ : ∃ z, zs[i]? = some z := ⟨_, List.getElem?_eq_getElem hlt⟩
    have hlt' : (i : Int) < zs.length := by omega
    have h1 := hbt i
    have h2 := hbt (i + 1)
    have ht := lenZ_take hz
    have h3 : ¬ lenZ (zs.take i) + z.2.length < 0 := by omega
    simp (maxSteps := 4000000) -implicitDefEqProofs -dsimp (disch := omega) only [↓AW_skip, ↓AW_ops, ↓AW_seq, ↓AW_cond, ↓AW_block, ↓AOps_nil, ↓AOps_pu, ↓AOps_ld, on_some, condB_t, condB_f, ↓then_normal, ↓inBlock_normal, pval, lval, rd_S, rd_C, put_S, partA, eq_self, mk, List.foldl_cons, List.foldl_nil, List.replicate_succ, List.replicate_zero, List.set_cons_zero, List.set_cons_succ, List.getElem?_cons_zero, List.getElem?_cons_succ, List.drop_zero, List.take_succ_cons, List.take_nil, Option.getD_some, List.length_cons, List.length_nil, Nat.reduceAdd, Nat.reduceLeDiff, Nat.zero_add, bin_add, bin_lss, w64, if_true, if_false, Bool.false_eq_true, decide_true, decide_false, true_and, hlt', hz0.idx hlt, hz0.ld0 hz 1 false (by decide), e0, (hin z (List.mem_of_getElem? hz)).len, h3]
    exact ⟨i + 1, hlt, by simp [Has, rd_s, ht], by omega⟩
  have hlt' : ¬ ((i : Int) < zs.length) := by omega
  have h1 := hbt zs.length
  rw [List.take_length] at h1
  rw [List.take_of_length_le (by omega)]
  obtain ⟨N, hN⟩ : ∃ N : Nat, lenZ zs = N := ⟨(lenZ zs).toNat, by omega⟩
  rw [hN] at h1 ⊢
  obtain ⟨v, H, hc, hns⟩ := c_Grow N (by omega) A
  simp (maxSteps := 4000000) -implicitDefEqProofs -dsimp (disch := omega) only [↓AW_ops, ↓AW_seq, ↓AW_cond, ↓AW_exit, ↓AOps_nil, ↓AOps_pu, ↓AOps_call, on_some, condB_f, ↓then_normal, ↓then_exit, ↓inBlock_exit, pval, rd_S, rd_C, put_S, eq_self, mk, List.foldl_cons, List.foldl_nil, List.replicate_succ, List.replicate_zero, List.set_cons_zero, List.set_cons_succ, List.getElem?_cons_zero, List.getElem?_cons_succ, Option.getD_some, map_c, map_n, bin_lss, if_true, decide_false, hlt']
  refine CallK.of (hc) ?_
  simp (maxSteps := 4000000) -implicitDefEqProofs -dsimp (disch := omega) only [↓AW_ops, ↓AW_seq, ↓AW_block, ↓AOps_nil, ↓AOps_pu, on_some, extK_false, ↓then_normal, pval, rd_S, rd_C, put_S, ↓AW_toLoop, mk, List.foldl_cons, List.foldl_nil, List.replicate_succ, List.replicate_zero, List.set_cons_zero, List.set_cons_succ, List.getElem?_cons_zero, List.getElem?_cons_succ, Option.getD_some, hz0.len]
  have hcl : ∀ i, ((catZ (zs.take i)).length : Int) ≤ 800 := fun i => by
    have := lenZ_bound (zs := zs.take i) (fun z hz => hb z (List.mem_of_mem_take hz))
    rw [List.length_take] at this
    omega
  refine LoopK.by 36 (fun x : Nat × AV × AHeap => x.1 ≤ zs.length ∧ NS A x.2.2 x.2.1 (catZ (zs.take x.1))) (fun x => [(6, x.2.1), (25, u), (26, I zs.length), (27, I x.1)]) (fun x => x.2.2) (fun x => zs.length - x.1) (0, v, H) ⟨by simp only; omega, hns⟩ rfl (by simp [Has, rd_s]) rfl ?_
  rintro ⟨j, w, H1⟩ ⟨hj, hw⟩
  simp only at hj hw
  by_cases hlt2 : j < zs.length
  · obtain ⟨z, hz⟩ : ∃ z, zs[j]? = some z := ⟨_, List.getElem?_eq_getElem hlt2⟩
    have hlt2' : (j : Int) < zs.length := by omega
    have hz1 := hz0.mono hw.pre
    have hzl := hb z (List.mem_of_getElem? hz)
    have hc2 := hcl j
    obtain ⟨w', H2, happ, hw'⟩ := hw.push ((hin z (List.mem_of_getElem? hz)).mono hw.pre) (by simp [lim]; omega)
    simp (maxSteps := 4000000) -implicitDefEqProofs -dsimp (disch := omega) only [↓AW_skip, ↓AW_ops, ↓AW_seq, ↓AW_cond, ↓AW_block, ↓AOps_nil, ↓AOps_pu, ↓AOps_ld, ↓AOps_ha, on_some, extK_false, condB_t, ↓then_normal, ↓inBlock_normal, pval, lval, hval_app, rd_S, rd_C, put_S, partA, eq_self, mk, List.foldl_cons, List.foldl_nil, List.replicate_succ, List.replicate_zero, List.set_cons_zero, List.set_cons_succ, List.getElem?_cons_zero, List.getElem?_cons_succ, List.drop_zero, List.take_succ_cons, List.take_nil, Option.getD_some, List.length_cons, List.length_nil, Nat.reduceAdd, Nat.reduceLeDiff, Nat.zero_add, bin_add, bin_lss, w64, if_true, if_false, Bool.false_eq_true, decide_true, true_and, hlt2', hz1.idx hlt2, hz1.ld0 hz 1 false (by decide), e0, happ]
    exact ⟨(j + 1, w', H2), ⟨hlt2, by rw [catZ_take hz]; exact hw'⟩, by simp [Has, rd_s], rfl, by simp only; omega⟩
  · have hlt2' : ¬ ((j : Int) < zs.length) := by omega
    rw [List.take_of_length_le (by omega)] at hw
    simp (maxSteps := 4000000) -implicitDefEqProofs -dsimp (disch := omega) only [↓AW_ops, ↓AW_seq, ↓AW_cond, ↓AW_exit, ↓AW_ret, ↓AOps_nil, ↓AOps_pu, on_some, condB_f, ↓then_normal, ↓then_exit, ↓inBlock_exit, ↓FinR_ret, pval, rd_S, put_S, resV, resL, eq_self, mk, List.foldl_cons, List.foldl_nil, List.replicate_succ, List.replicate_zero, List.set_cons_zero, List.set_cons_succ, List.getElem?_cons_zero, List.getElem?_cons_succ, Option.getD_some, bin_lss, if_true, decide_false, hlt2']
    rcases hw with hw | ⟨he, _⟩
    · exact ⟨_, _, gc_all, AccL.pre hw, AccL_ls hw e1_len⟩
    · rw [he] at hne; simp at hne
theorem ll_two (H : AHeap) (x y : AV × List Int) : Ls 1 e0 (H ++ [.cells true [x.1, y.1]]) (.sl 1 H.length 0 2 true) [x, y] := ⟨e0_len, by simp [slCells, cellsAt, e0]⟩
theorem two_in {H : AHeap} {o : AObj} {x y : AV} {xs ys : List Int} (hx : L1 H x xs) (hy : L1 H y ys) : ∀ z ∈ [(x, xs), (y, ys)], L1 (H ++ [o]) z.1 z.2 := fun z hz => by
  rcases List.mem_cons.1 hz with e | e
  · rw [e]; exact hx.mono (pre_app _ _)
  · rw [List.mem_singleton.1 e]; exact hy.mono (pre_app _ _)
theorem two_len {x y : AV} {k : Int} {ys : List Int} (h : ys.length ≤ 100) : ∀ z ∈ [(x, [k]), (y, ys)], z.2.length ≤ 100 := fun z hz => by
  rcases List.mem_cons.1 hz with e | e
  · rw [e]; simp
  · rw [List.mem_singleton.1 e]; exact h
theorem st_new {H : AHeap} {x : AV} (h : x.cells? = some [x]) : stA 1 (.ptr H.length 0) x (H ++ [.cells true [.nilS]]) = some (H ++ [.cells true [x]]) := by
  simp [stA, h, splice]
section
variable {P : Nat} {rs : List Rd} {ks : List Int} {u v : AV} {A : AHeap}
set_option maxRecDepth 20000 in
set_option maxHeartbeats 16000000 in
theorem s92 {a b c : Nat} {lv gv : AV} {L : List Int} {k : Int} (hu : L3 A u rs) (hn : Net P rs) (hO : Ord rs L) (hk : 0 ≤ k ∧ k ≤ (rs.length : Int) - 1) (h1 : ldA 2 true (.ptr a 0) A = some (.agg [I P, u])) (h2 : ldA 1 false (.ptr b 0) A = some lv) (h3 : ldA 1 false (.ptr c 0) A = some gv) (hL : L1 A lv L) (hG : L1 A gv (srt (grw (rdx rs) [] L))) :
    ACalls Try.prog 92 ([I k] ++ [.ptr a 0, .ptr b 0, .ptr c 0]) A (B (decide (nev P rs k))) A := by
  have hl14 := hn.l
  have hP7 := hn.p7
  rw [List.singleton_append, nev_dec hn hO hk]
  refine acalls hmix Try.func92 (by kernel_rfl) t92 4 rfl (by decide) ?_
  have h2k := ld_mono (pre_app A [AObj.cells true [I k]]) h2
  dsimp only [m92]
  simp (maxSteps := 4000000) -implicitDefEqProofs -dsimp (disch := omega) only [↓AW_ops, ↓AW_seq, ↓AOps_nil, ↓AOps_pu, ↓AOps_ld, ↓AOps_ha, ↓AOps_call, on_some, extK_app, ↓then_normal, pval, lval, hval_blds, rd_S, rd_C, put_S, cells_int, splice, fillA, repl, eq_self, List.replicate_succ, List.replicate_zero, List.set_cons_zero, List.set_cons_succ, List.getElem?_cons_zero, List.getElem?_cons_succ, List.drop_succ_cons, List.drop_nil, List.take_zero, Option.getD_some, map_c, map_n, List.length_cons, List.length_nil, Nat.reduceSub, Nat.reduceLeDiff, Nat.zero_add, List.cons_append, List.nil_append, List.append_nil, if_true, and_true, ↓AW_ops2, h1, h2, h2k, List.replicate_zero, repl]
  obtain ⟨hmn, hmd, hkm, hml⟩ := kfirst hn hO hk
  have hwn : Nos rs (without L k) := fun i hi => hO.nos i (mem_wo.1 hi).1
  have hwl := without_le L k
  rw [hO.len] at hwl
  have hpk := pre_app A [AObj.cells true [I k]]
  refine ⟨?_, ?_⟩
  · obtain ⟨r1, H1, c1, p1, hW⟩ := s63 (hL.mono hpk) (by rw [hO.len]; omega) (by rw [hO.len]; omega) k
    refine CallK.of c1 ?_
    have hc := Ls_cells hW
    have hpX := hpk.trans p1
    have hK := (L1_one A k).mono p1
    simp (maxSteps := 4000000) -implicitDefEqProofs -dsimp (disch := omega) only [↓AOps_ha, ↓AOps_call, on_some, extK_app, hval_blds, rd_S, put_S, cells_sl, splice, fillA, repl, eq_self, List.replicate_succ, List.replicate_zero, List.set_cons_zero, List.set_cons_succ, List.getElem?_cons_zero, List.getElem?_cons_succ, List.drop_zero, List.drop_succ_cons, List.drop_nil, List.take_zero, List.take_succ_cons, Option.getD_some, map_c, map_n, List.length_cons, List.length_nil, Nat.reduceAdd, Nat.reduceSub, Nat.reduceLeDiff, Nat.zero_add, List.cons_append, List.nil_append, List.append_nil, if_true, and_true, extK_of p1, hc, List.replicate_zero, repl]
    obtain ⟨r3, H3, c3, p3, hM⟩ := c_Concat (ll_two H1 (.sl 1 A.length 0 1 true, [k]) (r1, without L k)) (two_in hK hW) (by simp) (two_len (by omega)) (by simp [catZ])
    refine CallK.of c3 ?_
    have hcat : catZ [((.sl 1 A.length 0 1 true : AV), [k]), (r1, without L k)] = k :: without L k := by simp [catZ]
    rw [hcat] at hM
    have hpY := hpX.trans ((pre_app _ _).trans p3)
    simp (maxSteps := 4000000) -implicitDefEqProofs -dsimp (disch := omega) only [↓AOps_call, rd_S, put_S, List.replicate_succ, List.replicate_zero, List.set_cons_zero, List.set_cons_succ, List.getElem?_cons_zero, List.getElem?_cons_succ, Option.getD_some, map_c, map_n, Nat.reduceSub, List.cons_append, List.nil_append, extK_of p3]
    obtain ⟨r2, H2, c2, p2, hG2⟩ := c_grow (hu.mono hpY) hM hn hmn (by rw [List.length_cons]; omega)
    refine CallK.of c2 ?_
    have hp := hpY.trans p2
    have h1' := ld_mono hp h1
    have h3' := ld_mono hp h3
    have huH := hu.mono hp
    have hgn : Nos rs (srt (grw (rdx rs) [] (k :: without L k))) := fun i hi => grw_nos hmn i ((srt_perm _).mem_iff.1 hi)
    have hgn2 : Nos rs (srt (grw (rdx rs) [] L)) := fun i hi => grw_nos hO.nos i ((srt_perm _).mem_iff.1 hi)
    have hsm := grw_small hn hmn
    have hsm2 := grw_small hn hO.nos
    simp (maxSteps := 4000000) -implicitDefEqProofs -dsimp (disch := omega) only [↓AW_ops, ↓AW_seq, ↓AOps_nil, ↓AOps_pu, ↓AOps_ld, ↓AOps_call, on_some, extK_false, ↓then_normal, pval, lval, rd_S, put_S, List.replicate_succ, List.replicate_zero, List.set_cons_zero, List.set_cons_succ, List.getElem?_cons_zero, List.getElem?_cons_succ, Option.getD_some, map_c, map_n, Nat.reduceSub, List.cons_append, List.nil_append, h1']
    refine CallK.of (s60 huH hG2 hn hgn (by rw [srt_len]; omega)) ?_
    have htt : decide (Tree P (rdx rs) (srt (grw (rdx rs) [] (k :: without L k)))) = decide (Tree P (rdx rs) (grw (rdx rs) [] (k :: without L k))) := decide_eq_decide.2 ⟨fun h => h.perm (srt_perm _).symm, fun h => h.perm (srt_perm _)⟩
    rw [htt]
    by_cases ht : Tree P (rdx rs) (grw (rdx rs) [] (k :: without L k))
    · rw [decide_eq_true ht]
      simp (maxSteps := 4000000) -implicitDefEqProofs -dsimp (disch := omega) only [↓AOps_pu, ↓AOps_ld, ↓AOps_call, ↓AOps_guard, on_some, extK_same, guardB_ff, pval, lval, rd_S, put_S, List.replicate_succ, List.replicate_zero, List.set_cons_zero, List.set_cons_succ, List.getElem?_cons_zero, List.getElem?_cons_succ, Option.getD_some, map_c, map_n, Nat.reduceSub, List.cons_append, List.nil_append, Bool.not_true, h1']
      refine CallK.of (s79 huH hG2 hn hgn (by rw [srt_len]; omega)) ?_
      simp (maxSteps := 4000000) -implicitDefEqProofs -dsimp (disch := omega) only [↓AOps_ld, ↓AOps_call, ↓AOps_guard, on_some, extK_same, guardB_ff, lval, rd_S, put_S, List.replicate_succ, List.replicate_zero, List.set_cons_zero, List.set_cons_succ, List.getElem?_cons_zero, List.getElem?_cons_succ, Option.getD_some, map_c, map_n, Nat.reduceSub, List.cons_append, List.nil_append, h1', h3']
      refine CallK.of (s79 huH (hG.mono hp) hn hgn2 (by rw [srt_len]; omega)) ?_
      rw [cst_perm (srt_perm _), cst_perm (srt_perm _)]
      simp (maxSteps := 4000000) -implicitDefEqProofs -dsimp (disch := omega) only [↓AW_ret, ↓AOps_nil, ↓AOps_pu, ↓AOps_guard, on_some, extK_same, guardB_ff, ↓then_normal, ↓Fin_ret, pval, rd_S, rd_C, put_S, resV, resL, List.replicate_succ, List.replicate_zero, List.set_cons_zero, List.set_cons_succ, List.getElem?_cons_zero, List.getElem?_cons_succ, Option.getD_some, Nat.reduceSub, List.cons_append, List.nil_append, bin_gtr, if_false, Bool.false_eq_true, Bool.not_true]
      exact gc_val hp rfl
    · rw [decide_eq_false ht]
      simp (maxSteps := 4000000) -implicitDefEqProofs -dsimp (disch := omega) only [↓AW_ret, ↓AOps_nil, ↓AOps_pu, ↓AOps_guard, on_some, extK_same, guardB_tf, skipS_some, ↓then_normal, ↓Fin_ret, pval, rd_S, rd_C, put_S, resV, resL, eq_self, List.replicate_succ, List.replicate_zero, List.set_cons_zero, List.set_cons_succ, List.getElem?_cons_zero, List.getElem?_cons_succ, Option.getD_some, Nat.reduceSub, List.cons_append, List.nil_append, if_true, Bool.not_false]
      exact gc_val hp rfl
  · obtain ⟨r1, H1, c1, p1, hW⟩ := s63 hL (by rw [hO.len]; omega) (by rw [hO.len]; omega) k
    refine CallK.of c1 ?_
    have hc := Ls_cells hW
    have hK := L1_one H1 k
    have hpX := p1.trans (pre_app H1 [AObj.cells true [I k]])
    simp (maxSteps := 4000000) -implicitDefEqProofs -dsimp (disch := omega) only [↓AOps_ha, ↓AOps_call, on_some, extK_app, hval_blds, rd_S, put_S, cells_int, cells_sl, splice, fillA, repl, eq_self, List.replicate_succ, List.replicate_zero, List.set_cons_zero, List.set_cons_succ, List.getElem?_cons_zero, List.getElem?_cons_succ, List.drop_zero, List.drop_succ_cons, List.drop_nil, List.take_zero, List.take_succ_cons, Option.getD_some, map_c, map_n, List.length_cons, List.length_nil, Nat.reduceAdd, Nat.reduceSub, Nat.reduceLeDiff, Nat.zero_add, List.cons_append, List.nil_append, List.append_nil, if_true, and_true, extK_of p1, hc, List.replicate_zero, repl]
    obtain ⟨r3, H3, c3, p3, hM⟩ := c_Concat (ll_two (H1 ++ [AObj.cells true [I k]]) (.sl 1 H1.length 0 1 true, [k]) (r1, without L k)) (two_in hK (hW.mono (pre_app _ _))) (by simp) (two_len (by omega)) (by simp [catZ])
    refine CallK.of c3 ?_
    have hcat : catZ [((.sl 1 H1.length 0 1 true : AV), [k]), (r1, without L k)] = k :: without L k := by simp [catZ]
    rw [hcat] at hM
    have hpY := hpX.trans ((pre_app _ _).trans p3)
    simp (maxSteps := 4000000) -implicitDefEqProofs -dsimp (disch := omega) only [↓AOps_call, rd_S, put_S, List.replicate_succ, List.replicate_zero, List.set_cons_zero, List.set_cons_succ, List.getElem?_cons_zero, List.getElem?_cons_succ, Option.getD_some, map_c, map_n, Nat.reduceSub, List.cons_append, List.nil_append, extK_of p3]
    obtain ⟨r2, H2, c2, p2, hG2⟩ := c_grow (hu.mono hpY) hM hn hmn (by rw [List.length_cons]; omega)
    refine CallK.of c2 ?_
    have hp := hpY.trans p2
    have h1' := ld_mono hp h1
    have h3' := ld_mono hp h3
    have huH := hu.mono hp
    have hgn : Nos rs (srt (grw (rdx rs) [] (k :: without L k))) := fun i hi => grw_nos hmn i ((srt_perm _).mem_iff.1 hi)
    have hgn2 : Nos rs (srt (grw (rdx rs) [] L)) := fun i hi => grw_nos hO.nos i ((srt_perm _).mem_iff.1 hi)
    have hsm := grw_small hn hmn
    have hsm2 := grw_small hn hO.nos
    simp (maxSteps := 4000000) -implicitDefEqProofs -dsimp (disch := omega) only [↓AW_ops, ↓AW_seq, ↓AOps_nil, ↓AOps_pu, ↓AOps_ld, ↓AOps_call, on_some, extK_false, ↓then_normal, pval, lval, rd_S, put_S, List.replicate_succ, List.replicate_zero, List.set_cons_zero, List.set_cons_succ, List.getElem?_cons_zero, List.getElem?_cons_succ, Option.getD_some, map_c, map_n, Nat.reduceSub, List.cons_append, List.nil_append, h1']
    refine CallK.of (s60 huH hG2 hn hgn (by rw [srt_len]; omega)) ?_
    have htt : decide (Tree P (rdx rs) (srt (grw (rdx rs) [] (k :: without L k)))) = decide (Tree P (rdx rs) (grw (rdx rs) [] (k :: without L k))) := decide_eq_decide.2 ⟨fun h => h.perm (srt_perm _).symm, fun h => h.perm (srt_perm _)⟩
    rw [htt]
    by_cases ht : Tree P (rdx rs) (grw (rdx rs) [] (k :: without L k))
    · rw [decide_eq_true ht]
      simp (maxSteps := 4000000) -implicitDefEqProofs -dsimp (disch := omega) only [↓AOps_pu, ↓AOps_ld, ↓AOps_call, ↓AOps_guard, on_some, extK_same, guardB_ff, pval, lval, rd_S, put_S, List.replicate_succ, List.replicate_zero, List.set_cons_zero, List.set_cons_succ, List.getElem?_cons_zero, List.getElem?_cons_succ, Option.getD_some, map_c, map_n, Nat.reduceSub, List.cons_append, List.nil_append, Bool.not_true, h1']
      refine CallK.of (s79 huH hG2 hn hgn (by rw [srt_len]; omega)) ?_
      simp (maxSteps := 4000000) -implicitDefEqProofs -dsimp (disch := omega) only [↓AOps_ld, ↓AOps_call, ↓AOps_guard, on_some, extK_same, guardB_ff, lval, rd_S, put_S, List.replicate_succ, List.replicate_zero, List.set_cons_zero, List.set_cons_succ, List.getElem?_cons_zero, List.getElem?_cons_succ, Option.getD_some, map_c, map_n, Nat.reduceSub, List.cons_append, List.nil_append, h1', h3']
      refine CallK.of (s79 huH (hG.mono hp) hn hgn2 (by rw [srt_len]; omega)) ?_
      rw [cst_perm (srt_perm _), cst_perm (srt_perm _)]
      simp (maxSteps := 4000000) -implicitDefEqProofs -dsimp (disch := omega) only [↓AW_ret, ↓AOps_nil, ↓AOps_pu, ↓AOps_guard, on_some, extK_same, guardB_ff, ↓then_normal, ↓Fin_ret, pval, rd_S, rd_C, put_S, resV, resL, List.replicate_succ, List.replicate_zero, List.set_cons_zero, List.set_cons_succ, List.getElem?_cons_zero, List.getElem?_cons_succ, Option.getD_some, Nat.reduceSub, List.cons_append, List.nil_append, bin_gtr, if_false, Bool.false_eq_true, Bool.not_true]
      exact gc_val hp rfl
    · rw [decide_eq_false ht]
      simp (maxSteps := 4000000) -implicitDefEqProofs -dsimp (disch := omega) only [↓AW_ret, ↓AOps_nil, ↓AOps_pu, ↓AOps_guard, on_some, extK_same, guardB_tf, skipS_some, ↓then_normal, ↓Fin_ret, pval, rd_S, rd_C, put_S, resV, resL, eq_self, List.replicate_succ, List.replicate_zero, List.set_cons_zero, List.set_cons_succ, List.getElem?_cons_zero, List.getElem?_cons_succ, Option.getD_some, Nat.reduceSub, List.cons_append, List.nil_append, if_true, Bool.not_false]
      exact gc_val hp rfl
end
section
variable {Q : Int} {rs : List Rd} {ks : List Int} {u v : AV} {A : AHeap}
noncomputable def neL (Q : Int) (rs : List Rd) : List Int := if vE Q rs = 0 then (nums rs).filter (fun i => decide (nev Q.toNat rs i)) else []
set_option maxRecDepth 20000 in
set_option maxHeartbeats 16000000 in
theorem s47 (hu : L3 A u rs) (hW : W Q) : ∃ r H, ACalls Try.prog 47 [.agg [I Q, u]] A (.tuple [r, I (vE Q rs)]) H ∧ A <+: H ∧ L1 H r (neL Q rs) := by
  have key : ∃ t H, ACalls Try.prog 47 [.agg [I Q, u]] A t H ∧ ∃ r, t = .tuple [r, I (vE Q rs)] ∧ A <+: H ∧ L1 H r (neL Q rs) := by
    refine acallsR hmix Try.func47 (by kernel_rfl) t47 _ 1 rfl (by decide) ?_
    have hpA := pre_app A [AObj.cells true [I Q, u]]
    have hla : ldA 2 true (.ptr A.length 0) (A ++ [AObj.cells true [I Q, u]]) = some (.agg [I Q, u]) := by simp [ldA, partA]
    have hu1 := hu.mono hpA
    dsimp only [m47]
    simp (maxSteps := 4000000) -implicitDefEqProofs -dsimp (disch := omega) only [↓AW_ops, ↓AW_seq, ↓AOps_nil, ↓AOps_pu, ↓AOps_ld, ↓AOps_ha, ↓AOps_call, on_some, extK_app, ↓then_normal, pval, lval, hval_newv, rd_S, rd_C, put_S, cells_agg, List.replicate_succ, List.replicate_zero, List.set_cons_zero, List.set_cons_succ, List.getElem?_cons_zero, List.getElem?_cons_succ, Option.getD_some, map_c, map_n, Nat.reduceSub, List.cons_append, List.nil_append, hla]
    refine CallK.of (s28 hu1 hW) ?_
    by_cases h0 : vE Q rs = 0
    case neg =>
      have hA0 : neL Q rs = [] := if_neg h0
      rw [hA0]
      simp (maxSteps := 4000000) -implicitDefEqProofs -dsimp (disch := omega) only [↓AW_ops, ↓AW_seq, ↓AW_cond, ↓AW_ret, ↓AOps_nil, ↓AOps_pu, on_some, extK_same, condB_t, ↓then_normal, ↓then_ret, ↓FinR_ret, pval, rd_S, rd_C, put_S, resV, resL, List.replicate_succ, List.replicate_zero, List.set_cons_zero, List.set_cons_succ, List.getElem?_cons_zero, List.getElem?_cons_succ, Option.getD_some, Nat.reduceSub, List.cons_append, List.nil_append, bin_neq, decide_true, not_false_eq_true, h0]
      exact ⟨_, _, gc_all, _, rfl, hpA, L1_nil _⟩
    have hn := vE_0.1 h0
    obtain ⟨P, rfl⟩ := hn.nat
    have hl14 := hn.l
    have hP7 := hn.p7
    have hA1 : neL P rs = (nums rs).filter (fun i => decide (nev P rs i)) := if_pos h0
    rw [h0, hA1]
    simp (maxSteps := 4000000) -implicitDefEqProofs -dsimp (disch := omega) only [↓AW_skip, ↓AW_ops, ↓AW_seq, ↓AW_cond, ↓AOps_nil, ↓AOps_pu, ↓AOps_ld, ↓AOps_call, on_some, extK_same, condB_f, ↓then_normal, pval, lval, rd_S, rd_C, put_S, eq_self, List.replicate_succ, List.replicate_zero, List.set_cons_zero, List.set_cons_succ, List.getElem?_cons_zero, List.getElem?_cons_succ, Option.getD_some, map_c, map_n, Nat.reduceSub, List.cons_append, List.nil_append, bin_neq, decide_false, not_true_eq_false, hla]
    generalize A ++ [AObj.cells true [I P, u]] = A1 at hpA hla hu1 ⊢
    obtain ⟨r1, H1, c1, p1, L, hL, hO⟩ := c_all hu1 hn
    refine CallK.of c1 ?_
    have hst := st_new (H := H1) (Ls_cells hL)
    have hp2 := p1.trans (pre_app H1 [AObj.cells true [r1]])
    have hL2 := hL.mono (pre_app H1 [AObj.cells true [r1]])
    have hlb : ldA 1 false (.ptr H1.length 0) (H1 ++ [AObj.cells true [r1]]) = some r1 := by simp [ldA, partA]
    have hla2 := ld_mono hp2 hla
    have hu2 := hu1.mono hp2
    simp (maxSteps := 4000000) -implicitDefEqProofs -dsimp (disch := omega) only [↓AW_ops, ↓AW_seq, ↓AOps_nil, ↓AOps_ld, ↓AOps_ha, ↓AOps_call, on_some, extK_false, extK_app, ↓then_normal, lval, hval_st, hval_newv, rd_S, rd_C, put_S, putS_none, cells_nilS, List.replicate_succ, List.replicate_zero, List.set_cons_zero, List.set_cons_succ, List.getElem?_cons_zero, List.getElem?_cons_succ, Option.getD_some, Option.map_some, map_c, map_n, Nat.reduceSub, List.cons_append, List.nil_append, hst, hla2, hlb]
    generalize H1 ++ [AObj.cells true [r1]] = H2 at hp2 hL2 hlb hla2 hu2 ⊢
    obtain ⟨r2, H3, c3, p3, hG⟩ := c_grow hu2 hL2 hn hO.nos (by rw [hO.len]; omega)
    refine CallK.of c3 ?_
    have hst2 := st_new (H := H3) (Ls_cells hG)
    have hp4 := p3.trans (pre_app H3 [AObj.cells true [r2]])
    have hlc : ldA 1 false (.ptr H3.length 0) (H3 ++ [AObj.cells true [r2]]) = some r2 := by simp [ldA, partA]
    have hla4 := ld_mono hp4 hla2
    have hlb4 := ld_mono hp4 hlb
    have hu4 := hu2.mono hp4
    have hL4 := hL2.mono hp4
    have hG4 := hG.mono (pre_app H3 [AObj.cells true [r2]])
    simp (maxSteps := 4000000) -implicitDefEqProofs -dsimp (disch := omega) only [↓AW_ops, ↓AW_seq, ↓AOps_nil, ↓AOps_pu, ↓AOps_ld, ↓AOps_ha, ↓AOps_call, on_some, extK_false, extK_app, ↓then_normal, pval, lval, hval_st, hval_newv, rd_S, rd_C, put_S, putS_none, cells_nilS, List.replicate_succ, List.replicate_zero, List.set_cons_zero, List.set_cons_succ, List.getElem?_cons_zero, List.getElem?_cons_succ, Option.getD_some, Option.map_some, map_c, map_n, Nat.reduceSub, List.cons_append, List.nil_append, hst2, hla4]
    generalize H3 ++ [AObj.cells true [r2]] = H4 at hp4 hlc hla4 hlb4 hu4 hL4 hG4 ⊢
    obtain ⟨r, H5, c5, p5, hR⟩ := s89 (P := P) hu4 (by omega) 92 [.ptr A.length 0, .ptr H1.length 0, .ptr H3.length 0] (fun i => decide (nev P rs i)) (fun H hH i i0 i1 => s92 (hu4.mono hH) hn hO ⟨i0, by omega⟩ (ld_mono hH hla4) (ld_mono hH hlb4) (ld_mono hH hlc) (hL4.mono hH) (hG4.mono hH))
    refine CallK.of c5 ?_
    simp (maxSteps := 4000000) -implicitDefEqProofs -dsimp (disch := omega) only [↓AW_ret, ↓AOps_nil, ↓AOps_pu, on_some, extK_false, ↓then_normal, ↓FinR_ret, pval, rd_S, rd_C, put_S, putS_none, resV, resL, List.replicate_succ, List.replicate_zero, List.set_cons_zero, List.set_cons_succ, List.getElem?_cons_zero, List.getElem?_cons_succ, Option.getD_some, Nat.reduceSub, List.cons_append, List.nil_append]
    exact ⟨_, _, gc_all, _, rfl, hpA.trans (hp2.trans (hp4.trans p5)), hR⟩
  obtain ⟨t, H, h1, r, rfl, h2⟩ := key
  exact ⟨r, H, h1, h2⟩
end
end Go.Proofs.Ytkgfcdpckfhknaa

namespace Go.Proofs.Ytkgfcdpckfhknaa
open Go Go.Eng
section
variable {P : Nat} {rs : List Rd} {ks : List Int} {u v : AV} {A : AHeap}
end
section
variable {Q : Int} {rs : List Rd} {ks : List Int} {u v : AV} {A : AHeap}
end
end Go.Proofs.Ytkgfcdpckfhknaa

namespace Go.Proofs.Ytkgfcdpckfhknaa
open Go Go.Eng
theorem wo_perm {k : Int} : ∀ {L : List Int}, L.Nodup → k ∈ L → L.Perm (k :: without L k)
  | [], _, h => by simp at h
  | x :: L, hn, h => by
    rw [List.nodup_cons] at hn
    by_cases hx : x = k
    · subst hx
      have : without (x :: L) x = L := by
        unfold Go.Proofs.Ytkgfcdpckfhknaa.without
        rw [List.filter_cons]
        simp only [decide_true, Bool.not_true, Bool.false_eq_true, if_false]
        rw [List.filter_eq_self]
        intro y hy
        have : ¬ y = x := fun e => hn.1 (by rw [← e]; exact hy)
        simp [this]
      rw [this]
    · have hk : k ∈ L := by
        rcases List.mem_cons.1 h with e | e
        · exact absurd e.symm hx
        · exact e
      have : without (x :: L) k = x :: without L k := by
        unfold Go.Proofs.Ytkgfcdpckfhknaa.without
        rw [List.filter_cons]
        simp [hx]
      rw [this]
      exact ((wo_perm hn.2 hk).cons x).trans (List.Perm.swap k x _)
section
variable {P : Nat} {rs : List Rd} {k : Int}
theorem mem_but {i : Int} : i ∈ but rs k ↔ (0 ≤ i ∧ i < (rs.length : Int)) ∧ ¬ i = k := by
  unfold but
  rw [List.mem_filter, mem_plc, decide_eq_true_eq]
theorem rg_low (hn : Net P rs) (hk : 0 ≤ k ∧ k ≤ (rs.length : Int) - 1) (h : wct rs k ≤ rgC rs k) : ¬ cnT rs (but rs k) (wct rs k - 1) (rdx rs k).1 (rdx rs k).2.1 := by
  intro hc
  have hne : ¬ (rdx rs k).1 = (rdx rs k).2.1 := (hn.r _ (rdx_at hk.1 hk.2).2).2.1
  have hwb := hn.wb hk.1 hk.2
  have hbb : ∀ i ∈ but rs k, wct rs i ≤ 99 := fun i hi => by
    have := (mem_but.1 hi).1
    exact (hn.wb this.1 (by omega)).2
  unfold rgC at h
  cases hb : bt rs (but rs k) (rdx rs k).1 (rdx rs k).2.1 with
  | none => exact (bt_none' hbb hb).2 _ hc
  | some d =>
    rw [hb] at h
    simp only [Option.getD_some] at h
    rcases bt_spec hb with ⟨e, _⟩ | ⟨_, hd, _, hmin⟩
    · exact hne e
    · by_cases h0 : 0 ≤ wct rs k - 1
      · have := hmin _ hc h0
        omega
      · unfold cnT at hc
        have : (upTo (wct rs) (but rs k) (wct rs k - 1)) = [] := by
          rw [List.eq_nil_iff_forall_not_mem]
          intro i hi
          have h1 := (mem_but.1 (mem_upTo.1 hi).1).1
          have h2 := (mem_upTo.1 hi).2
          have := hn.wb h1.1 (by omega)
          omega
        rw [this] at hc
        exact hne hc.nil
theorem rg_high (hn : Net P rs) (hk : 0 ≤ k ∧ k ≤ (rs.length : Int) - 1) (h : rgC rs k < wct rs k) : ∃ d, d < wct rs k ∧ cnT rs (but rs k) d (rdx rs k).1 (rdx rs k).2.1 := by
  have hne : ¬ (rdx rs k).1 = (rdx rs k).2.1 := (hn.r _ (rdx_at hk.1 hk.2).2).2.1
  have hwb := hn.wb hk.1 hk.2
  unfold rgC at h
  cases hb : bt rs (but rs k) (rdx rs k).1 (rdx rs k).2.1 with
  | none =>
    rw [hb] at h
    simp only [Option.getD_none] at h
    omega
  | some d =>
    rw [hb] at h
    simp only [Option.getD_some] at h
    rcases bt_spec hb with ⟨e, _⟩ | ⟨_, hd, hc, _⟩
    · exact absurd e hne
    · exact ⟨d, h, hc⟩
/-- An order in which a road comes before all that cost as much. -/
theorem ord_first (hn : Net P rs) (hk : 0 ≤ k ∧ k ≤ (rs.length : Int) - 1) : ∃ F G, Ord rs (F ++ k :: G) ∧ (∀ i ∈ F, i ∈ but rs k ∧ wct rs i ≤ wct rs k - 1) := by
  have hO := ordL_ord rs
  have hkL : k ∈ ordL rs := hO.mem.2 hk
  have hws := hO.s.sublist (List.filter_sublist (p := fun x => !decide (x = k)) (l := ordL rs))
  refine ⟨(without (ordL rs) k).filter (fun i => decide (wct rs i ≤ wct rs k - 1)), (without (ordL rs) k).filter (fun i => !decide (wct rs i ≤ wct rs k - 1)), ⟨?_, ?_⟩, fun i hi => ?_⟩
  · refine List.perm_middle.trans ?_
    refine ((List.filter_append_perm (fun i => decide (wct rs i ≤ wct rs k - 1)) (without (ordL rs) k)).cons k).trans ?_
    exact (wo_perm hO.nodup hkL).symm.trans hO.p
  · rw [List.pairwise_append]
    refine ⟨hws.sublist List.filter_sublist, ?_, fun a ha b hb => ?_⟩
    · rw [List.pairwise_cons]
      refine ⟨fun b hb => ?_, hws.sublist List.filter_sublist⟩
      have := (List.mem_filter.1 hb).2
      simp at this
      omega
    · have h1 := (List.mem_filter.1 ha).2
      rw [decide_eq_true_eq] at h1
      rcases List.mem_cons.1 hb with e | e
      · rw [e]; omega
      · have h2 := (List.mem_filter.1 e).2
        simp at h2
        omega
  · have h1 := List.mem_filter.1 hi
    rw [decide_eq_true_eq] at h1
    have h2 := mem_wo.1 h1.1
    have h3 := hO.mem.1 h2.1
    exact ⟨mem_but.2 ⟨by omega, h2.2⟩, h1.2⟩
theorem nev_rg (hn : Net P rs) (hj : Jbl P rs) (hk : 0 ≤ k ∧ k ≤ (rs.length : Int) - 1) : nev P rs k ↔ rgC rs k < wct rs k := by
  constructor
  · intro h
    refine Classical.byContradiction (fun hc => ?_)
    have hlow := rg_low hn hk (by omega)
    obtain ⟨F, G, hO, hF⟩ := ord_first hn hk
    have hP := hO.nos.inP hn
    have hFP : ∀ i ∈ F, InP P (rdx rs i) := fun i hi => hP i (List.mem_append_left _ hi)
    have hkg : k ∈ grw (rdx rs) [] (F ++ k :: G) := by
      rw [grw_append, grw]
      have hnc : ¬ Cn ((grw (rdx rs) [] F).map (rdx rs)) (rdx rs k).1 (rdx rs k).2.1 := fun hcc => by
        rw [(grw_cn hFP).1] at hcc
        exact hlow (map_sub (fun i hi => mem_upTo.2 (hF i hi)) hcc)
      rw [if_neg hnc]
      obtain ⟨X, h1, _⟩ := grw_more (R := rdx rs) G (grw (rdx rs) [] F ++ [k])
      rw [h1]
      simp
    have ht := (jbl_grw hn hO).2 hj
    have ht2 : Tree P (rdx rs) (grw (rdx rs) [] (F ++ k :: G)) := ht.perm (srt_perm _).symm
    exact h _ (srt_chl hn (grw_nos hO.nos) (hO.nodup.sublist (grw_sub _)) ht2 (by rw [best_of hn hO]; exact Int.le_refl _)) ((srt_perm _).mem_iff.2 hkg)
  · intro h T hT hkT
    obtain ⟨d, hd, hcn⟩ := rg_high hn hk h
    obtain ⟨hok, hTr, hc⟩ := (mem_chl' hn).1 hT
    have hno := (noB_iff hn hok hTr).2 hc
    have hTn := okS_nos hok
    have hp := wo_perm (okS_nodup hok) hkT
    have hIk : Ind P (rdx rs k :: (without T k).map (rdx rs)) := hTr.ind.perm ((hp.symm).map (rdx rs))
    have hPk := hn.inP hk.1 hk.2
    have hRP : ∀ i ∈ without T k, InP P (rdx rs i) := fun i hi => (hTn.inP hn) i (mem_wo.1 hi).1
    have hIr : Ind P ((without T k).map (rdx rs)) := ind_sub (T := k :: without T k) (List.sublist_cons_self _ _) (fun i hi => by
      rcases List.mem_cons.1 hi with e | e
      · rw [e]; exact hPk
      · exact hRP i e) hIk
    have hnk := (Ind.cons hPk hIr).1 hIk
    -- some cheap road crosses
    have hf : ∃ f, f ∈ upTo (wct rs) (but rs k) d ∧ ¬ Cn ((without T k).map (rdx rs)) (rdx rs f).1 (rdx rs f).2.1 := by
      refine Classical.byContradiction (fun hcc => hnk ?_)
      have hall : ∀ f ∈ upTo (wct rs) (but rs k) d, Cn ((without T k).map (rdx rs)) (rdx rs f).1 (rdx rs f).2.1 := fun f hf => Classical.byContradiction (fun hh => hcc ⟨f, hf, hh⟩)
      have gen : ∀ q, Cn ((upTo (wct rs) (but rs k) d).map (rdx rs)) (rdx rs k).1 q → Cn ((without T k).map (rdx rs)) (rdx rs k).1 q := by
        intro q hq
        induction hq with
        | refl => exact .refl _
        | step _ e he hr ih =>
          obtain ⟨i, hi, rfl⟩ := List.mem_map.1 he
          rcases hr with ⟨rfl, rfl⟩ | ⟨rfl, rfl⟩
          · exact ih.trans (hall i hi)
          · exact ih.trans (hall i hi).symm
      exact gen _ hcn
    obtain ⟨f, hfm, hfn⟩ := hf
    have hfb := mem_but.1 (mem_upTo.1 hfm).1
    have hfd := (mem_upTo.1 hfm).2
    have hfv : 0 ≤ f ∧ f ≤ (rs.length : Int) - 1 := by omega
    have hfT : f ∉ T := fun hh => hfn (Cn.one (List.mem_map_of_mem (mem_wo.2 ⟨hh, hfb.2⟩)))
    have hPf := hn.inP hfv.1 hfv.2
    have hTf : Tree P (rdx rs) (f :: without T k) := by
      refine tree_of_ind ?_ ((Ind.cons hPf hIr).2 hfn)
      have := hTr.1
      rw [hp.length_eq] at this
      exact this
    have hsw : swp P rs T k f := ⟨hkT, hfT, by
      rw [mk_srt hok hfv hfT]
      exact hTf.perm ((srt_perm _).trans List.perm_append_comm)⟩
    have := hno k f hkT hfv hsw
    omega
end
def chR (rs : List Rd) (k c : Int) : List Rd := rs.set k.toNat ((rdx rs k).1, (rdx rs k).2.1, c)
theorem chR_len (rs : List Rd) (k c : Int) : (chR rs k c).length = rs.length := List.length_set
theorem chR_k {rs : List Rd} {k : Int} (hk : 0 ≤ k ∧ k ≤ (rs.length : Int) - 1) (c : Int) : rdx (chR rs k c) k = ((rdx rs k).1, (rdx rs k).2.1, c) := by
  have : k.toNat < rs.length := by omega
  show ((rs.set k.toNat ((rdx rs k).1, (rdx rs k).2.1, c))[k.toNat]?).getD (0, 0, 0) = _
  rw [List.getElem?_set_self this]
  rfl
theorem chR_o {rs : List Rd} {k : Int} (hk : 0 ≤ k ∧ k ≤ (rs.length : Int) - 1) (c : Int) {i : Int} (hi : 0 ≤ i) (h : ¬ i = k) : rdx (chR rs k c) i = rdx rs i := by
  show ((rs.set k.toNat ((rdx rs k).1, (rdx rs k).2.1, c))[i.toNat]?).getD (0, 0, 0) = _
  rw [List.getElem?_set_ne (by omega)]
  rfl
theorem chR_ends {rs : List Rd} {k : Int} (hk : 0 ≤ k ∧ k ≤ (rs.length : Int) - 1) (c : Int) {i : Int} (hi : 0 ≤ i) : (rdx (chR rs k c) i).1 = (rdx rs i).1 ∧ (rdx (chR rs k c) i).2.1 = (rdx rs i).2.1 := by
  by_cases h : i = k
  · subst h; rw [chR_k hk c]; exact ⟨rfl, rfl⟩
  · rw [chR_o hk c hi h]; exact ⟨rfl, rfl⟩
theorem cn_ends {R R' : Int → Rd} {xs : List Int} (h : ∀ i ∈ xs, (R i).1 = (R' i).1 ∧ (R i).2.1 = (R' i).2.1) {p q : Int} (hc : Cn (xs.map R) p q) : Cn (xs.map R') p q := by
  induction hc with
  | refl => exact .refl _
  | step _ e he hr ih =>
    obtain ⟨i, hi, rfl⟩ := List.mem_map.1 he
    obtain ⟨h1, h2⟩ := h i hi
    rw [h1, h2] at hr
    exact .step ih _ (List.mem_map_of_mem hi) hr
section
variable {P : Nat} {rs : List Rd} {k c : Int}
theorem chR_net (hn : Net P rs) (hk : 0 ≤ k ∧ k ≤ (rs.length : Int) - 1) (hc : 0 ≤ c ∧ c ≤ 99) : Net P (chR rs k c) := by
  refine ⟨hn.p1, hn.p7, by rw [chR_len]; exact hn.l, fun r hr => ?_⟩
  rcases List.mem_or_eq_of_mem_set hr with h | h
  · exact hn.r r h
  · have := hn.r _ (rdx_at hk.1 hk.2).2
    rw [h]
    exact ⟨this.1, this.2.1, hc⟩
theorem chR_jbl (hk : 0 ≤ k ∧ k ≤ (rs.length : Int) - 1) : Jbl P (chR rs k c) ↔ Jbl P rs := by
  unfold Jbl
  have hl : nums (chR rs k c) = nums rs := by
    show plc (chR rs k c).length = plc rs.length
    rw [chR_len]
  rw [hl]
  have : comps P ((nums rs).map (rdx (chR rs k c))) = comps P ((nums rs).map (rdx rs)) := comps_congr (fun p q => ⟨cn_ends (fun i hi => chR_ends hk c (mem_plc.1 hi).1), cn_ends (fun i hi => by
    obtain ⟨h1, h2⟩ := chR_ends hk c (mem_plc.1 hi).1
    exact ⟨h1.symm, h2.symm⟩)⟩)
  rw [this]
theorem chR_rg (hk : 0 ≤ k ∧ k ≤ (rs.length : Int) - 1) : rgC (chR rs k c) k = rgC rs k := by
  unfold rgC
  rw [chR_k hk c]
  have hb : but (chR rs k c) k = but rs k := by
    unfold but
    have hl : nums (chR rs k c) = nums rs := by
      show plc (chR rs k c).length = plc rs.length
      rw [chR_len]
    rw [hl]
  rw [hb]
  congr 1
  refine bt_cn (fun t => ?_)
  unfold cnT
  have h1 : upTo (wct (chR rs k c)) (but rs k) t = upTo (wct rs) (but rs k) t := by
    unfold upTo
    refine List.filter_congr (fun i hi => ?_)
    have h2 := mem_but.1 hi
    unfold wct
    rw [chR_o hk c h2.1.1 h2.2]
  have h2 : (upTo (wct rs) (but rs k) t).map (rdx (chR rs k c)) = (upTo (wct rs) (but rs k) t).map (rdx rs) := by
    refine List.map_congr_left (fun i hi => ?_)
    have h2 := mem_but.1 (mem_upTo.1 hi).1
    exact chR_o hk c h2.1.1 h2.2
  rw [h1, h2]
end
end Go.Proofs.Ytkgfcdpckfhknaa

