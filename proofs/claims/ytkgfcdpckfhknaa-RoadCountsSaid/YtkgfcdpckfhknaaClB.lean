/- What the law's proof rests on, part 4: for all that is said in each line. No conditions. -/
import Derived.Test.YtkgfcdpckfhknaaRows
import Derived.Test.YtkgfcdpckfhknaaClA
namespace Go.Proofs.Ytkgfcdpckfhknaa
open Go Go.Eng
def e0 (x : AV × List Int) : List AV := [x.1]
/-- A list of lists in memory. -/
structure LL (A : AHeap) (v : AV) (ws : List (AV × List Int)) : Prop where
  ls : Ls 1 e0 A v ws
  inn : ∀ x ∈ ws, L1 A x.1 x.2
theorem LL.mono {A A' : AHeap} {v : AV} {ws : List (AV × List Int)} (h : LL A v ws) (hp : A <+: A') : LL A' v ws := ⟨h.ls.mono hp, fun x hx => (h.inn x hx).mono hp⟩
abbrev lists (ws : List (AV × List Int)) : List (List Int) := ws.map Prod.snd
theorem mem_lists {ws : List (AV × List Int)} {w : AV × List Int} (h : w ∈ ws) : w.2 ∈ lists ws := List.mem_map_of_mem h
theorem e0_len (x : AV × List Int) : (e0 x).length = 1 := rfl
/-- Where the rows of a list of lists stand: each in an object of its own that the call has made, with more cells behind. -/
structure NR (A H : AHeap) (u : AV) (x : AV × List Int) : Prop where
  row : (x.1 = .nilS ∧ x.2 = []) ∨ ∃ n full cs, x.1 = .sl 1 n 0 x.2.length full ∧ A.length ≤ n ∧ H[n]? = some (.cells true (x.2.flatMap e1 ++ cs)) ∧ nm u ≠ n
theorem NR.l1 {A H : AHeap} {u : AV} {x : AV × List Int} (h : NR A H u x) : L1 H x.1 x.2 := by
  rcases h.row with ⟨h1, h2⟩ | ⟨n, full, cs, h1, _, h3, _⟩
  · rw [h1, h2]; exact L1_nil _
  · rw [h1]
    refine ⟨e1_len, ?_⟩
    have hl := flatMap_length e1_len x.2
    simp only [slCells, cellsAt, h3, if_true, Nat.zero_add]
    rw [if_pos (by rw [List.length_append]; omega)]
    simp only [List.drop_zero, Option.map_some, Option.some.injEq, Prod.mk.injEq, true_and]
    rw [← hl, List.take_left]
/-- Rows stand in different objects. -/
def Apart (ws : List (AV × List Int)) : Prop := ws.Pairwise (fun x y => x.1 = .nilS ∨ y.1 = .nilS ∨ nm x.1 ≠ nm y.1)
/-- A list of lists that the call has made. -/
structure NL (A H : AHeap) (u : AV) (ws : List (AV × List Int)) : Prop where
  acc : AccL 1 e0 A H u ws
  rows : ∀ x ∈ ws, NR A H u x
  apart : Apart ws
theorem NL.ll {A H : AHeap} {u : AV} {ws : List (AV × List Int)} (h : NL A H u ws) : LL H u ws := ⟨AccL_ls h.acc e0_len, fun x hx => (h.rows x hx).l1⟩
theorem NL.nil {A H : AHeap} (h : A <+: H) : NL A H .nilS [] := ⟨AccL.nil h, by simp, List.Pairwise.nil⟩
/-- One row more. -/
theorem NL.push {A H : AHeap} {u : AV} {ws : List (AV × List Int)} (h : NL A H u ws) (x : AV × List Int) (hx : (x.1 = .nilS ∧ x.2 = [] ∧ True) ∨ ∃ n full cs, x.1 = .sl 1 n 0 x.2.length full ∧ A.length ≤ n ∧ H[n]? = some (.cells true (x.2.flatMap e1 ++ cs)) ∧ nm u ≠ n ∧ ∀ y ∈ ws, y.1 = .nilS ∨ nm y.1 ≠ n) (hl : ws.length + 1 ≤ lim) :
    ∃ v' H2, appA 1 (H ++ [.cells true [x.1]]) u (.sl 1 H.length 0 1 true) = some (v', H2) ∧ NL A H2 v' (ws ++ [x]) := by
  obtain ⟨v', H2, h1, h2, h3, n', len', h4, h5⟩ := AccL_push2 h.acc e0_len (by omega) x hl
  have hold : ∀ (y : AV × List Int), NR A H u y → NR A H2 v' y := by
    intro y hy
    refine ⟨?_⟩
    rcases hy.row with h6 | ⟨n, full, cs, g1, g2, g3, g4⟩
    · exact .inl h6
    · have hn := (List.getElem?_eq_some_iff.1 g3).1
      refine .inr ⟨n, full, cs, g1, g2, h3 n _ g3 (fun k len hk hnk => ?_), ?_⟩
      · rw [hk] at g4; exact g4 hnk.symm
      · rw [h4]; simp only [nm]; omega
  have hxr : NR A H u x := by
    refine ⟨?_⟩
    rcases hx with ⟨a, b, _⟩ | ⟨n, full, cs, g1, g2, g3, g4, _⟩
    · exact .inl ⟨a, b⟩
    · exact .inr ⟨n, full, cs, g1, g2, g3, g4⟩
  refine ⟨v', H2, h1, h2, fun y hy => ?_, ?_⟩
  · rcases List.mem_append.1 hy with hy | hy
    · exact hold y (h.rows y hy)
    · have : y = x := by simpa using hy
      rw [this]; exact hold x hxr
  · unfold Apart
    rw [List.pairwise_append]
    refine ⟨h.apart, by simp, fun a ha b hb => ?_⟩
    have : b = x := by simpa using hb
    subst this
    rcases hx with ⟨g1, _⟩ | ⟨n, full, cs, g1, _, _, _, g5⟩
    · exact .inr (.inl g1)
    · rcases g5 a ha with g | g
      · exact .inl g
      · refine .inr (.inr ?_)
        rw [g1]; exact g
theorem NL.mono {A H H' : AHeap} {u : AV} {ws : List (AV × List Int)} (h : NL A H u ws) (hp : H <+: H') : NL A H' u ws := by
  refine ⟨h.acc.mono hp, fun x hx => ⟨?_⟩, h.apart⟩
  rcases (h.rows x hx).row with h6 | ⟨n, full, cs, g1, g2, g3, g4⟩
  · exact .inl h6
  · exact .inr ⟨n, full, cs, g1, g2, pre_get hp g3, g4⟩
theorem NL.lt {A H : AHeap} {u : AV} {ws : List (AV × List Int)} (h : NL A H u ws) : (∀ y ∈ ws, y.1 = .nilS ∨ nm y.1 < H.length) ∧ (ws = [] ∨ nm u < H.length) := by
  refine ⟨fun y hy => ?_, ?_⟩
  · rcases (h.rows y hy).row with ⟨h6, _⟩ | ⟨n, full, cs, g1, g2, g3, g4⟩
    · exact .inl h6
    · right; rw [g1]; exact (List.getElem?_eq_some_iff.1 g3).1
  · rcases h.acc.2.2 with ⟨h3, _⟩ | ⟨h3, n, h4, h5, h6⟩
    · exact .inl (List.eq_nil_of_length_eq_zero h3)
    · right; rw [h4]; exact (List.getElem?_eq_some_iff.1 h6).1
theorem NL.base {A0 A H : AHeap} {u : AV} {ws : List (AV × List Int)} (hp : A0 <+: A) (h : NL A H u ws) : NL A0 H u ws := by
  refine ⟨AccL_base0 hp h.acc, fun x hx => ⟨?_⟩, h.apart⟩
  rcases (h.rows x hx).row with h6 | ⟨n, full, cs, g1, g2, g3, g4⟩
  · exact .inl h6
  · exact .inr ⟨n, full, cs, g1, Nat.le_trans hp.length_le g2, g3, g4⟩
theorem Ls_cells {α : Type} {es : Nat} {e : α → List AV} {A : AHeap} {u : AV} {xs : List α} (h : Ls es e A u xs) : u.cells? = some [u] := by
  rcases h.inv with ⟨rfl, _⟩ | ⟨n, off, full, rw, l, rfl, _⟩ <;> rfl
theorem nm_ne_nil {A H : AHeap} {u : AV} {ws : List (AV × List Int)} (h : NL A H u ws) {n : Nat} (hn : H.length ≤ n) (hu : 0 < A.length) : nm u ≠ n := by
  rcases h.acc.2.2 with ⟨_, h4⟩ | ⟨_, m, h4, _, h6⟩
  · rw [h4]; simp only [nm]
    have := h.acc.1.length_le
    omega
  · rw [h4]; have := (List.getElem?_eq_some_iff.1 h6).1; simp only [nm]; omega
theorem splice_more {a c cs : List AV} {off : Nat} (h : off + c.length ≤ a.length) : splice (a ++ cs) off c = splice a off c ++ cs := by
  unfold splice
  rw [List.take_append_of_le_length (by omega), List.drop_append_of_le_length h]
  simp only [List.append_assoc]
theorem flat0 (ws : List (AV × List Int)) : ws.flatMap e0 = ws.map Prod.fst := by
  induction ws with
  | nil => rfl
  | cons x r ih => rw [List.flatMap_cons, ih]; rfl
theorem fst_set {ws : List (AV × List Int)} {i : Nat} {x : AV × List Int} (hz : ws[i]? = some x) (l : List Int) : (ws.set i (x.1, l)).map Prod.fst = ws.map Prod.fst := by
  apply List.ext_getElem?
  intro j
  rw [List.getElem?_map, List.getElem?_map, List.getElem?_set]
  by_cases hij : i = j
  · subst hij
    have := (List.getElem?_eq_some_iff.1 hz).1
    rw [if_pos rfl, if_pos this, hz]; rfl
  · rw [if_neg hij]
theorem Apart_fst {ws vs : List (AV × List Int)} (h : ws.map Prod.fst = vs.map Prod.fst) (ha : Apart vs) : Apart ws := by
  unfold Apart at *
  have h1 := (List.pairwise_map (f := Prod.fst) (R := fun a b : AV => a = .nilS ∨ b = .nilS ∨ nm a ≠ nm b) (l := vs)).2 ha
  rw [← h] at h1
  exact List.pairwise_map.1 h1
theorem Apart_ne {ws : List (AV × List Int)} (h : Apart ws) {i j : Nat} {x y : AV × List Int} (hi : ws[i]? = some x) (hj : ws[j]? = some y) (hij : i ≠ j) : x.1 = .nilS ∨ y.1 = .nilS ∨ nm x.1 ≠ nm y.1 := by
  obtain ⟨h1, rfl⟩ := List.getElem?_eq_some_iff.1 hi
  obtain ⟨h2, rfl⟩ := List.getElem?_eq_some_iff.1 hj
  rcases Nat.lt_or_gt_of_ne hij with h3 | h3
  · exact List.pairwise_iff_getElem.1 h i j h1 h2 h3
  · rcases List.pairwise_iff_getElem.1 h j i h2 h1 h3 with h4 | h4 | h4
    · exact .inr (.inl h4)
    · exact .inl h4
    · exact .inr (.inr (Ne.symm h4))
/-- A number of a row is written. -/
theorem NL.st {A H : AHeap} {u : AV} {ws : List (AV × List Int)} (h : NL A H u ws) {i : Nat} {x : AV × List Int} (hz : ws[i]? = some x) {k : Nat} (hk : k < x.2.length) (q : Int) :
    ∃ H2, stA 1 (.ptr (nm x.1) (of x.1 + k * 1)) (I q) H = some H2 ∧ NL A H2 u (ws.set i (x.1, x.2.set k q)) := by
  rcases (h.rows x (List.mem_of_getElem? hz)).row with ⟨_, h2⟩ | ⟨n, full, cs, g1, g2, g3, g4⟩
  · rw [h2] at hk; simp at hk
  · have hil := (List.getElem?_eq_some_iff.1 hz).1
    have hnl := (List.getElem?_eq_some_iff.1 g3).1
    have hfl := flatMap_length e1_len x.2
    have hsp : splice (x.2.flatMap e1 ++ cs) (k * 1) (e1 q) = (x.2.set k q).flatMap e1 ++ cs := by
      rw [splice_more (by rw [e1_len, hfl]; omega), splice_flat e1_len hk q]
    refine ⟨H.set n (.cells true ((x.2.set k q).flatMap e1 ++ cs)), ?_, ?_, ?_, ?_⟩
    · rw [g1]
      have hq : (I q).cells? = some (e1 q) := rfl
      simp only [stA, nm, of, hq, g3, Nat.zero_add]
      rw [if_pos ⟨e1_len q, by rw [List.length_append, hfl]; omega⟩, hsp]
    · have hlen : (ws.set i (x.1, x.2.set k q)).length = ws.length := List.length_set ..
      have hfm : (ws.set i (x.1, x.2.set k q)).flatMap e0 = ws.flatMap e0 := by rw [flat0, flat0, fst_set hz]
      unfold AccL
      rw [hlen, hfm]
      obtain ⟨a1, a2, a3⟩ := h.acc
      refine ⟨pre_set a1 g2 _, a2, ?_⟩
      rcases a3 with a4 | ⟨b0, m, b4, b5, b6⟩
      · exact .inl a4
      · refine .inr ⟨b0, m, b4, b5, ?_⟩
        rw [b4] at g4
        have g5 : m ≠ n := g4
        rw [List.getElem?_set_ne (Ne.symm g5)]
        exact b6
    · intro y hy
      obtain ⟨j, hj⟩ := List.mem_iff_getElem?.1 hy
      rw [List.getElem?_set] at hj
      by_cases hij : i = j
      · rw [if_pos hij, if_pos (by omega)] at hj
        have : (x.1, x.2.set k q) = y := Option.some.inj hj
        subst this
        refine ⟨.inr ⟨n, full, cs, ?_, g2, by rw [List.getElem?_set_self hnl], g4⟩⟩
        simp only [List.length_set]
        exact g1
      · rw [if_neg hij] at hj
        refine ⟨?_⟩
        rcases (h.rows y (List.mem_of_getElem? hj)).row with c1 | ⟨n', full', cs', c1, c2, c3, c4⟩
        · exact .inl c1
        · refine .inr ⟨n', full', cs', c1, c2, ?_, c4⟩
          rcases Apart_ne h.apart hz hj hij with d | d | d
          · rw [g1] at d; cases d
          · rw [c1] at d; cases d
          · rw [g1, c1] at d
            have d2 : n ≠ n' := d
            rw [List.getElem?_set_ne d2]
            exact c3
    · exact Apart_fst (fst_set hz _) h.apart
section
variable {α : Type} {f : α → α} {l : List α} {k : Nat} {z : α}
end
theorem LL.pos {A : AHeap} {v : AV} {ws : List (AV × List Int)} (h : LL A v ws) (h0 : 0 < ws.length) : 0 < A.length := by
  rcases h.ls.inv with ⟨_, rfl⟩ | ⟨n, off, full, rw, l, _, h1, _, _⟩
  · simp at h0
  · have := (List.getElem?_eq_some_iff.1 h1).1
    omega
end Go.Proofs.Ytkgfcdpckfhknaa

namespace Go.Proofs.Ytkgfcdpckfhknaa
open Go Go.Eng
theorem lkI' {H : AHeap} {n P : Nat} {g : Int → Int} (h : H[n]? = some (.mp (mI P g))) {k : Int} (h0 : 0 ≤ k) (h1 : k < P) : lkA (I 0) false (.mp n) (I k) H = some (I (g k)) :=
  lk_at h rfl _ _ (mem_plc.2 ⟨h0, h1⟩)
/-- The groups that some roads join. -/
noncomputable def grp (P : Nat) (S : List Rd) : List (List Int) := (roots P S).map (fun p => (plc P).filter (fun q => decide (lab S q = p)))
theorem grp_len (P : Nat) (S : List Rd) : (grp P S).length = comps P S := by simp [grp, comps]
theorem filt_succ (f : Int → Bool) (i : Nat) : (plc (i + 1)).filter f = (plc i).filter f ++ (if f (i : Int) = true then [(i : Int)] else []) := by
  rw [plc_succ, List.filter_append]
  congr 1
  by_cases h : f (i : Int) = true
  · rw [if_pos h, List.filter_cons_of_pos h, List.filter_nil]
  · rw [if_neg h, List.filter_cons_of_neg h, List.filter_nil]
theorem filt_len (f : Int → Bool) (i : Nat) : ((plc i).filter f).length ≤ i := by
  have := List.length_filter_le f (plc i)
  rw [plc_len] at this
  exact this
section
variable {P : Nat} {rs : List Rd} {ks : List Int} {u v : AV} {A : AHeap}
set_option maxHeartbeats 8000000 in
theorem c_groups (hu : L3 A u rs) (hx : L1 A v ks) (hn : Net P rs) (hk : Nos rs ks) (hl : ks.length ≤ 1000000) : ∃ r H, ACalls Try.prog 74 [.agg [I P, u], v] A r H ∧ A <+: H ∧ ∃ ws, NL A H r ws ∧ lists ws = grp P (ks.map (rdx rs)) := by
  refine acallsR hmix Try.func74 (by kernel_rfl) t74 _ 2 rfl (by decide) ?_
  have hP7 := hn.p7
  dsimp only [m74]
  simp (maxSteps := 4000000) -implicitDefEqProofs -dsimp (disch := omega) only [↓AW_ops, ↓AW_seq, ↓AOps_nil, ↓AOps_pu, ↓AOps_call, on_some, ↓then_normal, pval, rd_S, rd_C, put_S, chkd, bgot, cells_agg, partA, eq_self, List.replicate_succ, List.replicate_zero, List.set_cons_zero, List.set_cons_succ, List.getElem?_cons_zero, List.getElem?_cons_succ, List.drop_zero, List.take_succ_cons, List.take_nil, Option.getD_some, map_c, map_n, List.length_cons, List.length_nil, Nat.reduceAdd, Nat.reduceSub, Nat.reduceLeDiff, Nat.reduceEqDiff, Nat.zero_add, List.cons_append, List.nil_append, if_true, if_false]
  refine CallK.of (s99 hu hx hn hk hl) ?_
  generalize hS : ks.map (rdx rs) = S at *
  have hpA := pre_app A [.mp (mI P (lab S))]
  have hmA := mp_new A (.mp (mI P (lab S)))
  generalize hA1 : A ++ [.mp (mI P (lab S))] = A1 at *
  simp (maxSteps := 4000000) -implicitDefEqProofs -dsimp (disch := omega) only [↓AW_ops, ↓AW_seq, ↓AW_block, ↓AOps_nil, ↓AOps_pu, on_some, extK_false, ↓then_normal, pval, rd_S, rd_C, put_S, ↓AW_toLoop, chkd, isAdr, bgot, cells_agg, partA, eq_self, List.replicate_succ, List.replicate_zero, List.set_cons_zero, List.set_cons_succ, List.getElem?_cons_zero, List.getElem?_cons_succ, List.drop_zero, List.take_zero, List.take_succ_cons, Option.getD_some, List.length_cons, List.length_nil, Nat.reduceAdd, Nat.reduceSub, Nat.reduceLeDiff, Nat.zero_add, List.cons_append, List.nil_append, if_true, if_false, Bool.false_eq_true]
  refine LoopK.by 44 (fun x : Nat × AV × AHeap × List (AV × List Int) => x.1 ≤ P ∧ NL A1 x.2.2.1 x.2.1 x.2.2.2 ∧ lists x.2.2.2 = ((plc x.1).filter (fun p => decide (Root S p))).map (fun p => (plc P).filter (fun q => decide (lab S q = p))))
    (fun z => [(2, .agg [I P, u]), (5, .mp A.length), (6, z.2.1), (14, I P), (15, I z.1)]) (fun z => z.2.2.1) (fun z => P - z.1) (0, .nilS, A1, []) ⟨by simp only; omega, NL.nil (List.prefix_refl _), rfl⟩ rfl (by simp [Has, rd_s]) rfl ?_
  rintro ⟨i, y, H, ws⟩ ⟨hi, hnl, hli⟩
  simp only at hi hnl hli
  have hmH := pre_get hnl.acc.1 hmA
  by_cases hlt : i < P
  · have hlt' : (i : Int) < P := by omega
    have hlk := lkI' hmH (k := (i : Int)) (by omega) hlt'
    by_cases hr : Root S (i : Int)
    · have hlab := (lab_self_iff (by omega)).2 hr
      simp (maxSteps := 4000000) -implicitDefEqProofs -dsimp (disch := omega) only [↓AW_skip, ↓AW_ops, ↓AW_seq, ↓AW_cond, ↓AW_block, ↓AOps_nil, ↓AOps_pu, ↓AOps_ld, on_some, condB_t, condB_f, ↓then_normal, pval, lval_look, rd_S, rd_C, put_S, ↓AW_toLoop, chkd, isAdr, bgot, cells_agg, partA, eq_self, mk, List.foldl_cons, List.foldl_nil, List.replicate_succ, List.replicate_zero, List.set_cons_zero, List.set_cons_succ, List.getElem?_cons_zero, List.getElem?_cons_succ, List.drop_zero, List.take_zero, List.take_succ_cons, Option.getD_some, List.length_cons, List.length_nil, Nat.reduceAdd, Nat.reduceLeDiff, Nat.zero_add, bin_neq, bin_lss, if_true, if_false, Bool.false_eq_true, decide_true, decide_false, not_true_eq_false, hlt', hlk, hlab]
      refine LoopK.by 44 (fun x : Nat × AV × AHeap => x.1 ≤ P ∧ AccL 1 e1 H x.2.2 x.2.1 ((plc x.1).filter (fun q => decide (lab S q = (i : Int)))))
        (fun z => [(2, .agg [I P, u]), (5, .mp A.length), (6, y), (7, I i), (8, z.2.1), (14, I P), (15, I i), (24, I P), (25, I z.1)]) (fun z => z.2.2) (fun z => P - z.1) (0, .nilS, H) ⟨by simp only; omega, AccL.nil (List.prefix_refl _)⟩ rfl (by simp [Has, rd_s]) rfl ?_
      rintro ⟨j, z, G⟩ ⟨hj, hac⟩
      simp only at hj hac
      have hmG := pre_get hac.1 hmH
      by_cases hjl : j < P
      · have hjl' : (j : Int) < P := by omega
        have hlkj := lkI' hmG (k := (j : Int)) (by omega) hjl'
        by_cases hq : lab S (j : Int) = (i : Int)
        · have hfl := filt_len (fun q => decide (lab S q = (i : Int))) j
          obtain ⟨v', H2, happ, hacc, _, n, len, rfl, _⟩ := AccL_push2 hac e1_len (by omega) (j : Int) (by simp only [lim]; omega)
          simp only [Go.Eng.e1] at happ
          simp (maxSteps := 4000000) -implicitDefEqProofs -dsimp (disch := omega) only [↓AW_skip, ↓AW_ops, ↓AW_seq, ↓AW_cond, ↓AW_block, ↓AOps_nil, ↓AOps_pu, ↓AOps_ld, ↓AOps_ha, on_some, extK_false, extK_app, condB_t, ↓then_normal, ↓inBlock_normal, pval, lval_look, hval_blds, hval_app, rd_S, rd_C, put_S, cells_int, splice, fillA, repl, eq_self, mk, List.foldl_cons, List.foldl_nil, List.replicate_succ, List.replicate_zero, List.set_cons_zero, List.set_cons_succ, List.getElem?_cons_zero, List.getElem?_cons_succ, List.drop_succ_cons, List.drop_nil, List.take_zero, Option.getD_some, map_c, map_n, List.length_cons, List.length_nil, Nat.reduceAdd, Nat.reduceLeDiff, Nat.zero_add, List.nil_append, List.append_nil, bin_add, bin_eql, bin_lss, w64, if_true, decide_true, true_and, and_true, hjl', hlkj, hq, happ, List.replicate_zero, repl]
          refine ⟨(j + 1, .sl 1 n 0 len false, H2), ⟨hjl, ?_⟩, by simp [Has, rd_s], rfl, by simp only; omega⟩
          rw [filt_succ, if_pos (decide_eq_true hq)]
          exact hacc
        · simp (maxSteps := 4000000) -implicitDefEqProofs -dsimp (disch := omega) only [↓AW_skip, ↓AW_ops, ↓AW_seq, ↓AW_cond, ↓AW_block, ↓AOps_nil, ↓AOps_pu, ↓AOps_ld, on_some, condB_t, condB_f, ↓then_normal, ↓inBlock_normal, pval, lval_look, rd_S, rd_C, put_S, eq_self, mk, List.foldl_cons, List.foldl_nil, List.replicate_succ, List.replicate_zero, List.set_cons_zero, List.set_cons_succ, List.getElem?_cons_zero, List.getElem?_cons_succ, Option.getD_some, List.length_cons, List.length_nil, Nat.reduceAdd, Nat.zero_add, bin_add, bin_eql, bin_lss, w64, decide_true, decide_false, true_and, hjl', hlkj, hq]
          refine ⟨(j + 1, z, G), ⟨hjl, ?_⟩, by simp [Has, rd_s], rfl, by simp only; omega⟩
          rw [filt_succ, if_neg (by simpa using hq), List.append_nil]
          exact hac
      · have hjl' : ¬ (j : Int) < P := by omega
        have hjP : j = P := by omega
        subst hjP
        have hmem : (i : Int) ∈ (plc j).filter (fun q => decide (lab S q = (i : Int))) := by
          rw [List.mem_filter, mem_plc]
          exact ⟨⟨by omega, hlt'⟩, decide_eq_true hlab⟩
        have hpos := List.length_pos_of_mem hmem
        obtain ⟨n, hn1, hn2, hn3⟩ : ∃ n, z = .sl 1 n 0 ((plc j).filter (fun q => decide (lab S q = (i : Int)))).length false ∧ H.length ≤ n ∧ G[n]? = some (.cells true (((plc j).filter (fun q => decide (lab S q = (i : Int)))).flatMap e1)) := by
          rcases hac.2.2 with ⟨h3, _⟩ | ⟨_, n, h4, h5, h6⟩
          · omega
          · exact ⟨n, h4, h5, h6⟩
        have hA1l : 0 < A1.length := by rw [← hA1]; simp
        have hwl : ws.length = ((plc i).filter (fun p => decide (Root S p))).length := by
          have := congrArg List.length hli
          simpa using this
        have hwl2 := filt_len (fun p => decide (Root S p)) i
        obtain ⟨v3, H4, happ, h3⟩ := (hnl.mono hac.1).push (z, (plc j).filter (fun q => decide (lab S q = (i : Int)))) (.inr ⟨n, false, [], hn1, Nat.le_trans hnl.acc.1.length_le hn2, by rw [List.append_nil]; exact hn3, nm_ne_nil hnl hn2 hA1l, fun y hy => (hnl.lt.1 y hy).imp id (fun h => by omega)⟩) (by simp only [lim]; omega)
        simp only at happ
        have hv3c : v3.cells? = some [v3] := Ls_cells (AccL_ls h3.acc e0_len)
        have hzc : z.cells? = some [z] := by rw [hn1]; rfl
        simp (maxSteps := 4000000) -implicitDefEqProofs -dsimp (disch := omega) only [↓AW_ops, ↓AW_seq, ↓AW_cond, ↓AW_exit, ↓AW_ret, ↓AOps_nil, ↓AOps_pu, ↓AOps_ha, on_some, extK_false, extK_app, condB_f, ↓then_normal, ↓then_exit, ↓inBlock_normal, ↓inBlock_exit, ↓FinR_ret, pval, hval_blds, hval_app, rd_S, rd_C, put_S, resV, resL, splice, fillA, repl, eq_self, mk, List.foldl_cons, List.foldl_nil, List.replicate_succ, List.replicate_zero, List.set_cons_zero, List.set_cons_succ, List.getElem?_cons_zero, List.getElem?_cons_succ, List.drop_succ_cons, List.drop_nil, List.take_zero, Option.getD_some, map_c, map_n, List.length_cons, List.length_nil, Nat.reduceAdd, Nat.reduceLeDiff, Nat.reduceEqDiff, Nat.zero_add, List.nil_append, List.append_nil, bin_add, bin_lss, w64, if_true, if_false, decide_false, true_and, and_true, reduceCtorEq, hjl', hzc, happ, List.replicate_zero, repl]
        refine ⟨(i + 1, v3, H4, ws ++ [(z, (plc j).filter (fun q => decide (lab S q = (i : Int))))]), ⟨hlt, h3, ?_⟩, by simp [Has, rd_s], rfl, by simp only; omega⟩
        simp only [lists, List.map_append, List.map_cons, List.map_nil]
        rw [filt_succ, if_pos (decide_eq_true hr), List.map_append, show List.map Prod.snd ws = _ from hli]
        rfl
    · have hlab : ¬ lab S (i : Int) = (i : Int) := fun e => hr ((lab_self_iff (by omega)).1 e)
      simp (maxSteps := 4000000) -implicitDefEqProofs -dsimp (disch := omega) only [↓AW_skip, ↓AW_ops, ↓AW_seq, ↓AW_cond, ↓AW_block, ↓AW_exit, ↓AW_ret, ↓AOps_nil, ↓AOps_pu, ↓AOps_ld, on_some, condB_t, ↓then_normal, ↓then_exit, ↓inBlock_exit, ↓FinR_ret, pval, lval_look, rd_S, rd_C, put_S, resV, resL, eq_self, mk, List.foldl_cons, List.foldl_nil, List.replicate_succ, List.replicate_zero, List.set_cons_zero, List.set_cons_succ, List.getElem?_cons_zero, List.getElem?_cons_succ, Option.getD_some, List.length_cons, List.length_nil, Nat.reduceAdd, Nat.zero_add, bin_add, bin_neq, bin_lss, w64, if_true, if_false, decide_true, true_and, reduceCtorEq, not_false_eq_true, hlt', hlk, hlab]
      refine ⟨(i + 1, y, H, ws), ⟨hlt, hnl, ?_⟩, by simp [Has, rd_s], rfl, by simp only; omega⟩
      rw [filt_succ, if_neg (by simpa using hr), List.append_nil]
      exact hli
  · have hlt' : ¬ (i : Int) < P := by omega
    have hiP : i = P := by omega
    subst hiP
    simp (maxSteps := 4000000) -implicitDefEqProofs -dsimp (disch := omega) only [↓AW_ops, ↓AW_seq, ↓AW_cond, ↓AW_exit, ↓AW_ret, ↓AOps_nil, ↓AOps_pu, on_some, condB_f, ↓then_normal, ↓then_exit, ↓inBlock_exit, ↓FinR_ret, pval, rd_S, put_S, resV, resL, eq_self, mk, List.foldl_cons, List.foldl_nil, List.replicate_succ, List.replicate_zero, List.set_cons_zero, List.set_cons_succ, List.getElem?_cons_zero, List.getElem?_cons_succ, Option.getD_some, bin_lss, if_true, decide_false, hlt']
    exact ⟨_, _, gc_all, hpA.trans hnl.acc.1, ws, hnl.base hpA, hli⟩
noncomputable instance treeDec (P : Nat) (R : Int → Rd) (T : List Int) : Decidable (Tree P R T) := by unfold Tree; infer_instance
theorem s60 (hu : L3 A u rs) (hx : L1 A v ks) (hn : Net P rs) (hk : Nos rs ks) (hl : ks.length ≤ 1000000) : ACalls Try.prog 60 [.agg [I P, u], v] A (B (decide (Tree P (rdx rs) ks))) A := by
  refine acalls hmix Try.func60 (by kernel_rfl) t60 2 rfl (by decide) ?_
  have hP7 := hn.p7
  have hP1 := hn.p1
  by_cases h1 : (ks.length : Int) = P - 1
  · dsimp only [m60]
    simp (maxSteps := 4000000) -implicitDefEqProofs -dsimp (disch := omega) only [↓AW_ops, ↓AW_seq, ↓AOps_nil, ↓AOps_pu, ↓AOps_call, ↓AOps_guard, on_some, guardB_tt, ↓then_normal, pval, rd_S, rd_C, put_S, chkd, isAdr, bgot, AV.cells?, partA, eq_self, List.replicate_succ, List.replicate_zero, List.set_cons_zero, List.set_cons_succ, List.getElem?_cons_zero, List.getElem?_cons_succ, List.drop_zero, List.take_zero, List.take_succ_cons, List.take_nil, Option.getD_some, map_c, map_n, List.length_cons, List.length_nil, Nat.reduceAdd, Nat.reduceSub, Nat.reduceLeDiff, Nat.reduceEqDiff, Nat.zero_add, List.cons_append, List.nil_append, bin_sub, bin_eql, w64, if_true, if_false, Bool.false_eq_true, decide_true, hx.len, h1]
    obtain ⟨r, H, hc, hp, ws, hnl, hli⟩ := c_groups hu hx hn hk hl
    refine CallK.of hc ?_
    have hwl : ws.length = comps P (ks.map (rdx rs)) := by
      have := congrArg List.length hli
      rw [grp_len] at this
      simpa using this
    have hlen := hnl.ll.ls.len
    rw [hwl] at hlen
    simp (maxSteps := 4000000) -implicitDefEqProofs -dsimp (disch := omega) only [↓AW_ret, ↓AOps_nil, ↓AOps_pu, ↓AOps_guard, on_some, extK_false, guardB_tt, ↓then_normal, ↓Fin_ret, pval, rd_S, rd_C, put_S, resV, resL, eq_self, List.replicate_succ, List.replicate_zero, List.set_cons_zero, List.set_cons_succ, List.getElem?_cons_zero, List.getElem?_cons_succ, Option.getD_some, Nat.reduceSub, List.cons_append, List.nil_append, bin_eql, if_true, hlen]
    refine gc_val hp ?_
    show AV.bool _ = _
    congr 1
    rw [decide_eq_decide]
    unfold Tree
    omega
  · dsimp only [m60]
    simp (maxSteps := 4000000) -implicitDefEqProofs -dsimp (disch := omega) only [↓AW_ops, ↓AW_seq, ↓AW_ret, ↓AOps_nil, ↓AOps_pu, ↓AOps_guard, on_some, guardB_ft, skipS_some, ↓then_normal, ↓Fin_ret, pval, rd_S, rd_C, put_S, resV, resL, chkd, isAdr, bgot, AV.cells?, partA, eq_self, List.replicate_succ, List.replicate_zero, List.set_cons_zero, List.set_cons_succ, List.getElem?_cons_zero, List.getElem?_cons_succ, List.drop_zero, List.take_zero, List.take_succ_cons, Option.getD_some, List.length_cons, List.length_nil, Nat.reduceAdd, Nat.reduceSub, Nat.reduceLeDiff, Nat.zero_add, List.cons_append, List.nil_append, bin_sub, bin_eql, w64, if_true, if_false, Bool.false_eq_true, decide_false, hx.len, h1]
    exact gc_same (by rw [decide_eq_false (fun hh => h1 (by have := hh.1; omega))])
end
end Go.Proofs.Ytkgfcdpckfhknaa

namespace Go.Proofs.Ytkgfcdpckfhknaa
open Go Go.Eng
def eb (b : Bool) : List AV := [.bool b]
def bl (P : Nat) (g : Int → Bool) : List AV := ((plc P).map g).flatMap eb
def updB (g : Int → Bool) (k : Int) (x : Bool) : Int → Bool := fun p => if p = k then x else g p
theorem bl_eq (P : Nat) (g : Int → Bool) : bl P g = (plc P).map (fun p => .bool (g p)) := by
  unfold bl
  induction plc P with
  | nil => rfl
  | cons x xs ih => rw [List.map_cons, List.flatMap_cons, ih]; rfl
theorem bl_len (P : Nat) (g : Int → Bool) : (bl P g).length = P := by rw [bl_eq, List.length_map, plc_len]
theorem bl_get {P : Nat} {g : Int → Bool} {k : Int} (h0 : 0 ≤ k) (h1 : k < P) : (bl P g)[k.toNat]? = some (.bool (g k)) := by
  rw [bl_eq, List.getElem?_map, plc_get (by omega)]
  show some (AV.bool (g ((k.toNat : Nat) : Int))) = _
  rw [Int.toNat_of_nonneg h0]
theorem bl_set {P : Nat} {g : Int → Bool} {k : Int} {x : Bool} (h0 : 0 ≤ k) (h1 : k < P) : (bl P g).set k.toNat (.bool x) = bl P (updB g k x) := by
  rw [bl_eq, bl_eq]
  apply List.ext_getElem?
  intro i
  rw [List.getElem?_set]
  by_cases hi : i < P
  · rw [List.getElem?_map, List.getElem?_map, plc_get hi]
    by_cases he : k.toNat = i
    · rw [if_pos he, if_pos (by rw [List.length_map, plc_len]; omega)]
      show _ = some (AV.bool (updB g k x (i : Int)))
      unfold updB
      rw [if_pos (by omega)]
    · rw [if_neg he]
      show some (AV.bool (g (i : Int))) = some (AV.bool (updB g k x (i : Int)))
      unfold updB
      rw [if_neg (by omega)]
  · have hn : ∀ f : Int → AV, ((plc P).map f)[i]? = none := fun f => List.getElem?_eq_none (by rw [List.length_map, plc_len]; omega)
    rw [hn, hn, if_neg (by omega)]
theorem bl_congr {P : Nat} {f g : Int → Bool} (h : ∀ p : Int, 0 ≤ p → p < P → f p = g p) : bl P f = bl P g := by
  rw [bl_eq, bl_eq]
  exact List.map_congr_left (fun p hp => by
    have := mem_plc.1 hp
    rw [h p this.1 this.2])
theorem bl_repl (P : Nat) : repl [.bool false] P = bl P (fun _ => false) := by
  rw [bl_eq]
  have : ∀ n, repl [.bool false] n = List.replicate n (AV.bool false) := by
    intro n
    induction n with
    | zero => rfl
    | succ n ih => rw [repl, ih]; rfl
  rw [this, List.map_const', plc_len]
theorem idxB {n P : Nat} {full : Bool} {k : Int} (h0 : 0 ≤ k) (h1 : k < P) : idxA 1 (.sl 1 n 0 P full) (I k) = some (.ptr n k.toNat) := by
  simp only [idxA]
  rw [if_pos ⟨h0, h1⟩, Nat.zero_add, Nat.mul_one]
theorem ldB {H : AHeap} {n P : Nat} {rw : Bool} {g : Int → Bool} (h : H[n]? = some (.cells rw (bl P g))) {k : Int} (h0 : 0 ≤ k) (h1 : k < P) : ldA 1 false (.ptr n k.toNat) H = some (.bool (g k)) := by
  unfold ldA
  simp only [h]
  unfold partA
  rw [if_pos (by rw [bl_len]; omega)]
  simp only [Bool.false_eq_true, if_false, if_true]
  exact bl_get h0 h1
theorem splice_one {l : List AV} {i : Nat} (h : i < l.length) (x : AV) : splice l i [x] = l.set i x := by
  unfold splice
  rw [List.set_eq_take_append_cons_drop, if_pos h]
  simp
theorem stB {H : AHeap} {n P : Nat} {g : Int → Bool} (h : H[n]? = some (.cells true (bl P g))) {k : Int} (h0 : 0 ≤ k) (h1 : k < P) (x : Bool) : stA 1 (.ptr n k.toNat) (.bool x) H = some (H.set n (.cells true (bl P (updB g k x)))) := by
  unfold stA
  simp only [cells_bool, h]
  rw [if_pos ⟨rfl, by rw [bl_len]; omega⟩, splice_one (by rw [bl_len]; omega), bl_set h0 h1]
def bst (g : Int → Bool) (r : Rd) : Int → Bool := if g r.1 = true ∨ g r.2.1 = true then (fun p => if p = r.2.1 then true else if p = r.1 then true else g p) else g
def brnd (S : List Rd) : Nat → (Int → Bool) → Int → Bool
  | 0, g => g
  | n + 1, g => S.foldl bst (brnd S n g)
theorem bst_mono {g : Int → Bool} {r : Rd} {p : Int} (h : g p = true) : bst g r p = true := by
  unfold bst
  split
  · simp only
    split
    · rfl
    · split
      · rfl
      · exact h
  · exact h
theorem bfold_mono : ∀ (L : List Rd) {g : Int → Bool} {p : Int}, g p = true → L.foldl bst g p = true
  | [], _, _, h => h
  | r :: L, g, p, h => bfold_mono L (bst_mono h)
theorem bfold_next : ∀ (L : List Rd) {g : Int → Bool} {p q : Int}, (∃ r ∈ L, (r.1 = p ∧ r.2.1 = q) ∨ (r.1 = q ∧ r.2.1 = p)) → g p = true → L.foldl bst g q = true
  | [], _, _, _, ⟨r, hr, _⟩, _ => by simp at hr
  | e :: L, g, p, q, ⟨r, hr, hpq⟩, h => by
    rcases List.mem_cons.1 hr with rfl | hr
    · refine bfold_mono L ?_
      unfold bst
      rcases hpq with ⟨rfl, rfl⟩ | ⟨rfl, rfl⟩
      · rw [if_pos (.inl h)]; simp
      · rw [if_pos (.inr h)]
        simp only
        split
        · rfl
        · simp
    · exact bfold_next L ⟨r, hr, hpq⟩ (bst_mono h)
theorem bfold_cn {S : List Rd} {s : Int} : ∀ (L : List Rd) {g : Int → Bool}, (∀ r ∈ L, r ∈ S) → (∀ p, g p = true → Cn S s p) → ∀ p, L.foldl bst g p = true → Cn S s p
  | [], _, _, h => h
  | r :: L, g, hL, h => by
    refine bfold_cn L (fun x hx => hL x (by simp [hx])) (fun p hp => ?_)
    have hab : Cn S r.1 r.2.1 := Cn.one (hL r (by simp))
    unfold bst at hp
    split at hp
    · rename_i hg
      simp only at hp
      have ha : Cn S s r.1 := by
        rcases hg with hg | hg
        · exact h _ hg
        · exact (h _ hg).trans hab.symm
      split at hp
      · rename_i e; rw [e]; exact ha.trans hab
      · split at hp
        · rename_i e; rw [e]; exact ha
        · exact h p hp
    · exact h p hp
theorem brnd_cn {P : Nat} {S : List Rd} (hS : ∀ e ∈ S, InP P e) {s : Int} (s0 : 0 ≤ s) (s1 : s < P) {p : Int} (p0 : 0 ≤ p) (p1 : p < P) : brnd S P (updB (fun _ => false) s true) p = decide (Cn S s p) := by
  have h0 : updB (fun _ => false) s true s = true := by unfold updB; rw [if_pos rfl]
  by_cases hc : Cn S s p
  · rw [decide_eq_true hc]
    exact saturate hS (X := fun t q => brnd S t (updB (fun _ => false) s true) q = true) (fun t q h => bfold_mono S h) (fun t q r _ _ h hadj => bfold_next S hadj h) (s := s) h0 s0 s1 hc
  · rw [decide_eq_false hc, ← Bool.not_eq_true]
    intro h
    refine hc ?_
    have : ∀ n p, brnd S n (updB (fun _ => false) s true) p = true → Cn S s p := by
      intro n
      induction n with
      | zero =>
        intro p hp
        have hp : updB (fun _ => false) s true p = true := hp
        unfold updB at hp
        split at hp
        · rename_i e; rw [e]; exact .refl _
        · cases hp
      | succ n ih => exact bfold_cn S (fun _ h => h) ih
    exact this P p h
section
variable {P : Nat} {rs : List Rd} {ks : List Int} {u v : AV} {A : AHeap}
/-- Where the walk's truth values stand. -/
noncomputable def rchH (A : AHeap) (P : Nat) (S : List Rd) (s : Int) : AHeap := A ++ [.cells true (bl P (fun p => decide (Cn S s p)))]
set_option maxHeartbeats 8000000 in
theorem s66 (hu : L3 A u rs) (hx : L1 A v ks) (hn : Net P rs) (hk : Nos rs ks) (hl : ks.length ≤ 1000000) {s : Int} (s0 : 0 ≤ s) (s1 : s < P) : ACalls Try.prog 66 [.agg [I P, u], I s, v] A (.sl 1 A.length 0 P true) (rchH A P (ks.map (rdx rs)) s) := by
  refine acalls hmix Try.func66 (by kernel_rfl) t66 3 rfl (by decide) ?_
  have hP7 := hn.p7
  have hP1 := hn.p1
  have hS : ∀ e ∈ ks.map (rdx rs), InP P e := inP_map (hk.inP hn)
  have hlim : (P : Int) ≤ (lim : Nat) := by simp only [lim]; omega
  have hP0 : (0 : Int) ≤ P := by omega
  dsimp only [m66]
  simp (maxSteps := 4000000) -implicitDefEqProofs -dsimp (disch := omega) only [↓AW_ops, ↓AW_seq, ↓AW_block, ↓AOps_nil, ↓AOps_pu, ↓AOps_ha, on_some, extK_false, extK_app, ↓then_normal, pval, hval_st, hval_mks, rd_S, rd_C, put_S, putS_none, ↓AW_toLoop, chkd, isAdr, bgot, cells_agg, partA, beq_self_eq_true, eq_self, List.replicate_succ, List.replicate_zero, List.set_cons_zero, List.set_cons_succ, List.getElem?_cons_zero, List.getElem?_cons_succ, List.drop_zero, List.take_zero, List.take_succ_cons, Option.getD_some, Option.map_some, List.length_cons, List.length_nil, Nat.reduceAdd, Nat.reduceSub, Nat.reduceLeDiff, Nat.zero_add, List.cons_append, List.nil_append, if_true, if_false, Bool.false_eq_true, and_true, hP0, bl_repl, Int.toNat_natCast, hlim, Int.le_refl, idxB, stB (mp_new A (.cells true (bl P (fun _ => false)))), mp_set]
  refine LoopK.by 58 (fun t : Nat => t ≤ P) (fun t => [(2, v), (3, .agg [I P, u]), (7, .sl 1 A.length 0 P true), (8, I t)]) (fun t => A ++ [.cells true (bl P (brnd (ks.map (rdx rs)) t (updB (fun _ => false) s true)))]) (fun t => P - t) 0 (by omega) rfl (by simp [Has, rd_s]) rfl ?_
  intro t ht
  by_cases htl : t < P
  · have htl' : (t : Int) < P := by omega
    simp (maxSteps := 4000000) -implicitDefEqProofs -dsimp (disch := omega) only [↓AW_skip, ↓AW_ops, ↓AW_seq, ↓AW_cond, ↓AW_block, ↓AOps_nil, ↓AOps_pu, on_some, condB_t, ↓then_normal, pval, rd_S, rd_C, put_S, ↓AW_toLoop, chkd, isAdr, bgot, cells_agg, partA, eq_self, mk, List.foldl_cons, List.foldl_nil, List.replicate_succ, List.replicate_zero, List.set_cons_zero, List.set_cons_succ, List.getElem?_cons_zero, List.getElem?_cons_succ, List.drop_zero, List.take_zero, List.take_succ_cons, Option.getD_some, List.length_cons, List.length_nil, Nat.reduceAdd, Nat.reduceLeDiff, Nat.zero_add, bin_lss, if_true, if_false, Bool.false_eq_true, decide_true, htl']
    refine LoopK.by 58 (fun j : Nat => j ≤ ks.length) (fun j => [(2, v), (3, .agg [I P, u]), (7, .sl 1 A.length 0 P true), (8, I t), (9, I j)]) (fun j => A ++ [.cells true (bl P (((ks.map (rdx rs)).take j).foldl bst (brnd (ks.map (rdx rs)) t (updB (fun _ => false) s true))))]) (fun j => ks.length - j) 0 (by omega) rfl (by simp [Has, rd_s]) rfl ?_
    intro j hj
    generalize hg : ((ks.map (rdx rs)).take j).foldl bst (brnd (ks.map (rdx rs)) t (updB (fun _ => false) s true)) = g
    have hxm := hx.mono (pre_app A [.cells true (bl P g)])
    have hum := hu.mono (pre_app A [.cells true (bl P g)])
    by_cases hlt : j < ks.length
    · obtain ⟨z, hz⟩ : ∃ z, ks[j]? = some z := ⟨_, List.getElem?_eq_getElem hlt⟩
      have hlt' : (j : Int) < ks.length := by omega
      obtain ⟨k0, k1⟩ := hk z (List.mem_of_getElem? hz)
      obtain ⟨hr, _⟩ := rdx_at k0 k1
      obtain ⟨⟨a0, a1⟩, ⟨b0, b1⟩⟩ := hn.inP k0 k1
      have hri := hum.idxI (k := .i64) k0 (show z < (rs.length : Int) by omega)
      have hld1 := ldB (mp_new A (.cells true (bl P g))) a0 a1
      have hld2 := ldB (mp_new A (.cells true (bl P g))) b0 b1
      have hst1 := stB (mp_new A (.cells true (bl P g))) a0 a1 true
      rw [mp_set] at hst1
      have hst2 := stB (mp_new A (.cells true (bl P (updB g (rdx rs z).1 true)))) b0 b1 true
      rw [mp_set] at hst2
      have done : ∀ g', g' = bst g (rdx rs z) → (∃ y, y ≤ ks.length ∧ A ++ [AObj.cells true (bl P g')] = A ++ [AObj.cells true (bl P (((ks.map (rdx rs)).take y).foldl bst (brnd (ks.map (rdx rs)) t (updB (fun _ => false) s true))))] ∧ y = j + 1) := by
        rintro g' rfl
        refine ⟨j + 1, hlt, ?_, rfl⟩
        rw [map_take_snoc _ hz, List.foldl_append, hg]
        rfl
      by_cases ga : g (rdx rs z).1 = true
      · obtain ⟨y, y1, y2, y3⟩ := done (updB (updB g (rdx rs z).1 true) (rdx rs z).2.1 true) (by unfold bst; rw [if_pos (.inl ga)]; rfl)
        simp (maxSteps := 4000000) -implicitDefEqProofs -dsimp (disch := omega) only [↓AW_skip, ↓AW_ops, ↓AW_seq, ↓AW_cond, ↓AW_block, ↓AOps_nil, ↓AOps_pu, ↓AOps_ld, ↓AOps_ha, ↓AOps_guard, on_some, extK_false, guardB_tf, skipS_some, condB_t, ↓then_normal, ↓inBlock_normal, pval, lval, hval_st, rd_S, rd_C, put_S, putS_none, chkd, isAdr, bput, bgot, cells_agg, splice, partA, eq_self, mk, List.foldl_cons, List.foldl_nil, List.replicate_succ, List.replicate_zero, List.set_cons_zero, List.set_cons_succ, List.getElem?_cons_zero, List.getElem?_cons_succ, List.drop_zero, List.drop_succ_cons, List.drop_nil, List.take_zero, List.take_succ_cons, List.take_nil, Option.getD_some, Option.map_some, List.length_cons, List.length_nil, Nat.reduceAdd, Nat.reduceLeDiff, Nat.reduceEqDiff, Nat.zero_add, List.nil_append, List.append_nil, bin_add, bin_lss, w64, if_true, if_false, Bool.false_eq_true, decide_true, Go.Eng.e1, true_and, ne_eq, not_true_eq_false, hlt', hxm.len, hxm.idx hlt, hxm.ld0 hz 1 false (by decide), hri, hum.ld0 hr 3 true (by decide), e3, idxB, hld1, ga, hst1, hst2]
        exact ⟨y, y1, by simp [Has, rd_s, y3], y2, by omega⟩
      · have ga' : g (rdx rs z).1 = false := by simpa using ga
        by_cases gb : g (rdx rs z).2.1 = true
        · obtain ⟨y, y1, y2, y3⟩ := done (updB (updB g (rdx rs z).1 true) (rdx rs z).2.1 true) (by unfold bst; rw [if_pos (.inr gb)]; rfl)
          simp (maxSteps := 4000000) -implicitDefEqProofs -dsimp (disch := omega) only [↓AW_skip, ↓AW_ops, ↓AW_seq, ↓AW_cond, ↓AW_block, ↓AOps_nil, ↓AOps_pu, ↓AOps_ld, ↓AOps_ha, ↓AOps_guard, on_some, extK_false, guardB_ff, condB_t, ↓then_normal, ↓inBlock_normal, pval, lval, hval_st, rd_S, rd_C, put_S, putS_none, chkd, isAdr, bput, bgot, cells_agg, splice, partA, eq_self, mk, List.foldl_cons, List.foldl_nil, List.replicate_succ, List.replicate_zero, List.set_cons_zero, List.set_cons_succ, List.getElem?_cons_zero, List.getElem?_cons_succ, List.drop_zero, List.drop_succ_cons, List.drop_nil, List.take_zero, List.take_succ_cons, List.take_nil, Option.getD_some, Option.map_some, List.length_cons, List.length_nil, Nat.reduceAdd, Nat.reduceLeDiff, Nat.reduceEqDiff, Nat.zero_add, List.nil_append, List.append_nil, bin_add, bin_lss, w64, if_true, if_false, Bool.false_eq_true, decide_true, Go.Eng.e1, true_and, ne_eq, not_true_eq_false, hlt', hxm.len, hxm.idx hlt, hxm.ld0 hz 1 false (by decide), hri, hum.ld0 hr 3 true (by decide), e3, idxB, hld1, hld2, ga', gb, hst1, hst2]
          exact ⟨y, y1, by simp [Has, rd_s, y3], y2, by omega⟩
        · have gb' : g (rdx rs z).2.1 = false := by simpa using gb
          obtain ⟨y, y1, y2, y3⟩ := done g (by unfold bst; rw [if_neg (by rw [ga', gb']; simp)])
          simp (maxSteps := 4000000) -implicitDefEqProofs -dsimp (disch := omega) only [↓AW_skip, ↓AW_ops, ↓AW_seq, ↓AW_cond, ↓AW_block, ↓AOps_nil, ↓AOps_pu, ↓AOps_ld, ↓AOps_guard, on_some, guardB_ff, condB_t, condB_f, ↓then_normal, ↓inBlock_normal, pval, lval, rd_S, rd_C, put_S, chkd, isAdr, bput, bgot, cells_agg, splice, partA, eq_self, mk, List.foldl_cons, List.foldl_nil, List.replicate_succ, List.replicate_zero, List.set_cons_zero, List.set_cons_succ, List.getElem?_cons_zero, List.getElem?_cons_succ, List.drop_zero, List.drop_succ_cons, List.drop_nil, List.take_zero, List.take_succ_cons, List.take_nil, Option.getD_some, List.length_cons, List.length_nil, Nat.reduceAdd, Nat.reduceLeDiff, Nat.reduceEqDiff, Nat.zero_add, List.nil_append, List.append_nil, bin_add, bin_lss, w64, if_true, if_false, Bool.false_eq_true, decide_true, Go.Eng.e1, true_and, ne_eq, not_true_eq_false, hlt', hxm.len, hxm.idx hlt, hxm.ld0 hz 1 false (by decide), hri, hum.ld0 hr 3 true (by decide), e3, idxB, hld1, hld2, ga', gb']
          exact ⟨y, y1, by simp [Has, rd_s, y3], y2, by omega⟩
    · have hlt' : ¬ ((j : Int) < ks.length) := by omega
      simp (maxSteps := 4000000) -implicitDefEqProofs -dsimp (disch := omega) only [↓AW_ops, ↓AW_seq, ↓AW_cond, ↓AW_exit, ↓AW_ret, ↓AOps_nil, ↓AOps_pu, on_some, condB_f, ↓then_normal, ↓then_exit, ↓inBlock_normal, ↓inBlock_exit, ↓Fin_ret, pval, rd_S, rd_C, put_S, resV, resL, eq_self, mk, List.foldl_cons, List.foldl_nil, List.replicate_succ, List.replicate_zero, List.set_cons_zero, List.set_cons_succ, List.getElem?_cons_zero, List.getElem?_cons_succ, Option.getD_some, List.length_cons, List.length_nil, Nat.reduceAdd, Nat.reduceEqDiff, Nat.zero_add, bin_add, bin_lss, w64, if_true, if_false, decide_false, true_and, reduceCtorEq, hlt', hxm.len]
      refine ⟨t + 1, htl, by simp [Has, rd_s], ?_⟩
      rw [List.take_of_length_le (by simp; omega)] at hg
      rw [← hg]
      exact ⟨rfl, by omega⟩
  · have htl' : ¬ (t : Int) < P := by omega
    have hti : t = P := by omega
    subst hti
    simp (maxSteps := 4000000) -implicitDefEqProofs -dsimp (disch := omega) only [↓AW_ops, ↓AW_seq, ↓AW_cond, ↓AW_exit, ↓AW_ret, ↓AOps_nil, ↓AOps_pu, on_some, condB_f, ↓then_normal, ↓then_exit, ↓inBlock_exit, ↓Fin_ret, pval, rd_S, put_S, resV, resL, chkd, isAdr, bgot, cells_agg, partA, eq_self, mk, List.foldl_cons, List.foldl_nil, List.replicate_succ, List.replicate_zero, List.set_cons_zero, List.set_cons_succ, List.getElem?_cons_zero, List.getElem?_cons_succ, List.drop_zero, List.take_zero, List.take_succ_cons, Option.getD_some, List.length_cons, List.length_nil, Nat.reduceAdd, Nat.reduceLeDiff, Nat.zero_add, bin_lss, if_true, if_false, Bool.false_eq_true, decide_false, htl']
    refine gc_same_all rfl ?_
    unfold rchH
    rw [bl_congr (fun p p0 p1 => brnd_cn hS s0 s1 p0 p1)]
theorem s87 (hu : L3 A u rs) (hx : L1 A v ks) (hn : Net P rs) (hk : Nos rs ks) (hl : ks.length ≤ 1000000) : ACalls Try.prog 87 [.agg [I P, u], v] A (B (decide (Tree P (rdx rs) ks))) A := by
  refine acalls hmix Try.func87 (by kernel_rfl) t87 2 rfl (by decide) ?_
  have hP7 := hn.p7
  have hP1 := hn.p1
  by_cases h1 : (ks.length : Int) = P - 1
  case neg =>
    dsimp only [m87]
    simp (maxSteps := 4000000) -implicitDefEqProofs -dsimp (disch := omega) only [↓AW_ops, ↓AW_seq, ↓AW_cond, ↓AW_ret, ↓AOps_nil, ↓AOps_pu, on_some, condB_t, ↓then_normal, ↓then_ret, ↓Fin_ret, pval, rd_S, rd_C, put_S, resV, resL, chkd, isAdr, bgot, AV.cells?, partA, eq_self, List.replicate_succ, List.replicate_zero, List.set_cons_zero, List.set_cons_succ, List.getElem?_cons_zero, List.getElem?_cons_succ, List.drop_zero, List.take_zero, List.take_succ_cons, Option.getD_some, List.length_cons, List.length_nil, Nat.reduceAdd, Nat.reduceSub, Nat.reduceLeDiff, Nat.zero_add, List.cons_append, List.nil_append, bin_sub, bin_neq, w64, if_true, if_false, Bool.false_eq_true, decide_true, not_false_eq_true, hx.len, h1]
    exact gc_same (by rw [decide_eq_false (fun hh => h1 (by have := hh.1; omega))])
  dsimp only [m87]
  simp (maxSteps := 4000000) -implicitDefEqProofs -dsimp (disch := omega) only [↓AW_skip, ↓AW_ops, ↓AW_seq, ↓AW_cond, ↓AOps_nil, ↓AOps_pu, ↓AOps_call, on_some, condB_f, ↓then_normal, pval, rd_S, rd_C, put_S, chkd, isAdr, bgot, AV.cells?, partA, eq_self, List.replicate_succ, List.replicate_zero, List.set_cons_zero, List.set_cons_succ, List.getElem?_cons_zero, List.getElem?_cons_succ, List.drop_zero, List.take_zero, List.take_succ_cons, List.take_nil, Option.getD_some, map_c, map_n, List.length_cons, List.length_nil, Nat.reduceAdd, Nat.reduceSub, Nat.reduceLeDiff, Nat.reduceEqDiff, Nat.zero_add, List.cons_append, List.nil_append, bin_sub, bin_neq, w64, if_true, if_false, Bool.false_eq_true, decide_false, not_true_eq_false, hx.len, h1]
  refine CallK.of (s66 hu hx hn hk hl (s := 0) (by omega) (by omega)) ?_
  have hp : A <+: rchH A P (ks.map (rdx rs)) 0 := pre_app _ _
  have hm : (rchH A P (ks.map (rdx rs)) 0)[A.length]? = some (.cells true (bl P (fun p => decide (Cn (ks.map (rdx rs)) 0 p)))) := mp_new _ _
  generalize rchH A P (ks.map (rdx rs)) 0 = A1 at *
  simp (maxSteps := 4000000) -implicitDefEqProofs -dsimp (disch := omega) only [↓AW_ops, ↓AW_seq, ↓AW_block, ↓AOps_nil, ↓AOps_pu, on_some, extK_false, ↓then_normal, pval, rd_S, rd_C, put_S, ↓AW_toLoop, List.replicate_succ, List.replicate_zero, List.set_cons_zero, List.set_cons_succ, List.getElem?_cons_zero, List.getElem?_cons_succ, Option.getD_some, Nat.reduceSub, List.cons_append, List.nil_append]
  refine LoopK.by 27 (fun i : Nat => i ≤ P ∧ ∀ p : Int, 0 ≤ p → p < i → Cn (ks.map (rdx rs)) 0 p) (fun i => [(2, .agg [I P, u]), (5, .sl 1 A.length 0 P true), (6, I i)]) (fun _ => A1) (fun i => P - i) 0 ⟨by omega, fun p _ _ => by omega⟩ rfl (by simp [Has, rd_s]) rfl ?_
  rintro i ⟨hi, he⟩
  by_cases hlt : i < P
  · have hlt' : (i : Int) < P := by omega
    have hld := ldB hm (k := (i : Int)) (by omega) hlt'
    by_cases hc : Cn (ks.map (rdx rs)) 0 (i : Int)
    · rw [decide_eq_true hc] at hld
      simp (maxSteps := 4000000) -implicitDefEqProofs -dsimp (disch := omega) only [↓AW_skip, ↓AW_ops, ↓AW_seq, ↓AW_cond, ↓AW_block, ↓AOps_nil, ↓AOps_pu, ↓AOps_ld, on_some, condB_t, condB_f, ↓then_normal, ↓inBlock_normal, pval, lval, rd_S, rd_C, put_S, chkd, isAdr, bgot, AV.cells?, partA, eq_self, mk, List.foldl_cons, List.foldl_nil, List.replicate_succ, List.replicate_zero, List.set_cons_zero, List.set_cons_succ, List.getElem?_cons_zero, List.getElem?_cons_succ, List.drop_zero, List.take_zero, List.take_succ_cons, Option.getD_some, List.length_cons, List.length_nil, Nat.reduceAdd, Nat.reduceLeDiff, Nat.zero_add, bin_add, bin_lss, w64, if_true, if_false, Bool.false_eq_true, Bool.not_true, decide_true, true_and, hlt', idxB, hld]
      refine ⟨i + 1, ⟨hlt, fun p p0 p1 => ?_⟩, by simp [Has, rd_s], by omega⟩
      by_cases hpi : p = (i : Int)
      · rw [hpi]; exact hc
      · exact he p p0 (by omega)
    · rw [decide_eq_false hc] at hld
      simp (maxSteps := 4000000) -implicitDefEqProofs -dsimp (disch := omega) only [↓AW_skip, ↓AW_ops, ↓AW_seq, ↓AW_cond, ↓AW_block, ↓AW_ret, ↓AOps_nil, ↓AOps_pu, ↓AOps_ld, on_some, condB_t, ↓then_normal, ↓then_ret, ↓inBlock_ret, ↓Fin_ret, pval, lval, rd_S, rd_C, put_S, resV, resL, chkd, isAdr, bgot, AV.cells?, partA, eq_self, mk, List.foldl_cons, List.foldl_nil, List.replicate_succ, List.replicate_zero, List.set_cons_zero, List.set_cons_succ, List.getElem?_cons_zero, List.getElem?_cons_succ, List.drop_zero, List.take_zero, List.take_succ_cons, Option.getD_some, List.length_cons, List.length_nil, Nat.reduceAdd, Nat.reduceLeDiff, Nat.zero_add, bin_lss, if_true, if_false, Bool.false_eq_true, Bool.not_false, decide_true, hlt', idxB, hld]
      exact gc_val hp (by
        rw [decide_eq_false (fun hh : Tree P (rdx rs) ks => hc ((comps_one (by omega)).1 hh.2 _ (by omega) hlt'))]
        rfl)
  · have hlt' : ¬ ((i : Int) < P) := by omega
    simp (maxSteps := 4000000) -implicitDefEqProofs -dsimp (disch := omega) only [↓AW_ops, ↓AW_seq, ↓AW_cond, ↓AW_exit, ↓AW_ret, ↓AOps_nil, ↓AOps_pu, on_some, condB_f, ↓then_normal, ↓then_exit, ↓inBlock_exit, ↓Fin_ret, pval, rd_S, rd_C, put_S, resV, resL, chkd, isAdr, bgot, AV.cells?, partA, eq_self, mk, List.foldl_cons, List.foldl_nil, List.replicate_succ, List.replicate_zero, List.set_cons_zero, List.set_cons_succ, List.getElem?_cons_zero, List.getElem?_cons_succ, List.drop_zero, List.take_zero, List.take_succ_cons, Option.getD_some, List.length_cons, List.length_nil, Nat.reduceAdd, Nat.reduceLeDiff, Nat.zero_add, bin_lss, if_true, if_false, Bool.false_eq_true, decide_false, hlt']
    refine gc_val hp ?_
    rw [decide_eq_true (show Tree P (rdx rs) ks from ⟨by omega, (comps_one (by omega)).2 (fun p p0 p1 => he p p0 (by omega))⟩)]
    rfl
end
end Go.Proofs.Ytkgfcdpckfhknaa

namespace Go.Proofs.Ytkgfcdpckfhknaa
open Go Go.Eng
/-- A road's cost. -/
def wct (rs : List Rd) (k : Int) : Int := (rdx rs k).2.2
theorem Net.wb {P : Int} {rs : List Rd} (h : Net P rs) {k : Int} (h0 : 0 ≤ k) (h1 : k ≤ (rs.length : Int) - 1) : 0 ≤ wct rs k ∧ wct rs k ≤ 99 := by
  have := h.r _ (rdx_at h0 h1).2
  exact this.2.2
theorem cst_snoc {w : Int → Int} {ks : List Int} {i : Nat} {z : Int} (h : ks[i]? = some z) : cst w (ks.take (i + 1)) = cst w (ks.take i) + w z := by
  unfold cst
  rw [List.take_add_one, h, List.map_append, List.sum_append]
  simp
theorem cst_bd {w : Int → Int} {M : Int} : ∀ {ks : List Int}, (∀ k ∈ ks, 0 ≤ w k ∧ w k ≤ M) → 0 ≤ cst w ks ∧ cst w ks ≤ M * ks.length
  | [], _ => by simp [cst]
  | k :: ks, h => by
    have ih := cst_bd (fun x hx => h x (List.mem_cons_of_mem k hx))
    have hk := h k (by simp)
    rw [cst_cons]
    simp only [List.length_cons, Int.natCast_add, Int.cast_ofNat_Int, Int.mul_add, Int.mul_one]
    omega
theorem Net.nat {P : Int} {rs : List Rd} (h : Net P rs) : ∃ p : Nat, P = p := ⟨P.toNat, by have := h.p1; omega⟩
section
variable {P : Nat} {rs : List Rd} {ks : List Int} {u v : AV} {A : AHeap}
theorem s79 (hu : L3 A u rs) (hx : L1 A v ks) (hn : Net P rs) (hk : Nos rs ks) (hl : ks.length ≤ 1000000) : ACalls Try.prog 79 [.agg [I P, u], v] A (I (cst (wct rs) ks)) A := by
  refine acalls hmix Try.func79 (by kernel_rfl) t79 2 rfl (by decide) ?_
  dsimp only [m79]
  simp (maxSteps := 4000000) -implicitDefEqProofs -dsimp (disch := omega) only [↓AW_ops, ↓AW_seq, ↓AW_block, ↓AOps_nil, ↓AOps_pu, on_some, ↓then_normal, pval, rd_S, rd_C, put_S, ↓AW_toLoop, AV.cells?, List.replicate_succ, List.replicate_zero, List.set_cons_zero, List.set_cons_succ, List.getElem?_cons_zero, List.getElem?_cons_succ, Option.getD_some, Nat.reduceSub, List.cons_append, List.nil_append, hx.len]
  refine LoopK.by 24 (fun i : Nat => i ≤ ks.length) (fun i => [(2, .agg [I P, u]), (5, I (cst (wct rs) (ks.take i))), (8, v), (9, I ks.length), (10, I i)]) (fun _ => A) (fun i => ks.length - i) 0 (by omega) rfl (by simp [Has, rd_s, cst]) rfl ?_
  intro i hi
  by_cases hlt : i < ks.length
  · obtain ⟨z, hz⟩ : ∃ z, ks[i]? = some z := ⟨_, List.getElem?_eq_getElem hlt⟩
    have hlt' : (i : Int) < ks.length := by omega
    obtain ⟨k0, k1⟩ := hk z (List.mem_of_getElem? hz)
    obtain ⟨hr, _⟩ := rdx_at k0 k1
    have hri := hu.idxI (k := .i64) k0 (show z < (rs.length : Int) by omega)
    have hw := hn.wb k0 k1
    have hwe : (rdx rs z).2.2 = wct rs z := rfl
    have hb := cst_bd (w := wct rs) (M := 99) (ks := ks.take i) (fun k hk2 => hn.wb (hk k (List.mem_of_mem_take hk2)).1 (hk k (List.mem_of_mem_take hk2)).2)
    have hb2 : (ks.take i).length ≤ 1000000 := by rw [List.length_take]; omega
    simp (maxSteps := 4000000) -implicitDefEqProofs -dsimp (disch := omega) only [↓AW_skip, ↓AW_ops, ↓AW_seq, ↓AW_cond, ↓AW_block, ↓AOps_nil, ↓AOps_pu, ↓AOps_ld, on_some, condB_t, ↓then_normal, ↓inBlock_normal, pval, lval, rd_S, rd_C, put_S, chkd, isAdr, bgot, AV.cells?, partA, eq_self, mk, List.foldl_cons, List.foldl_nil, List.replicate_succ, List.replicate_zero, List.set_cons_zero, List.set_cons_succ, List.getElem?_cons_zero, List.getElem?_cons_succ, List.drop_zero, List.drop_succ_cons, List.take_succ_cons, List.take_nil, Option.getD_some, List.length_cons, List.length_nil, Nat.reduceAdd, Nat.reduceLeDiff, Nat.zero_add, bin_add, bin_lss, w64, if_true, if_false, Bool.false_eq_true, decide_true, Go.Eng.e1, true_and, hlt', hx.idx hlt, hx.ld0 hz 1 false (by decide), hri, hu.ld hr 1 2 false (by decide), e3, hwe]
    exact ⟨i + 1, hlt, by simp [Has, rd_s, cst_snoc hz], by omega⟩
  · have hlt' : ¬ ((i : Int) < ks.length) := by omega
    simp (maxSteps := 4000000) -implicitDefEqProofs -dsimp (disch := omega) only [↓AW_ops, ↓AW_seq, ↓AW_cond, ↓AW_exit, ↓AW_ret, ↓AOps_nil, ↓AOps_pu, on_some, condB_f, ↓then_normal, ↓then_exit, ↓inBlock_exit, ↓Fin_ret, pval, rd_S, put_S, resV, resL, eq_self, mk, List.foldl_cons, List.foldl_nil, List.replicate_succ, List.replicate_zero, List.set_cons_zero, List.set_cons_succ, List.getElem?_cons_zero, List.getElem?_cons_succ, Option.getD_some, bin_lss, if_true, decide_false, hlt']
    rw [List.take_of_length_le (by omega)]
    exact gc_same rfl
theorem s70 (hu : L3 A u rs) (hx : L1 A v ks) (hn : Net P rs) (hk : Nos rs ks) (hl : ks.length ≤ 1000000) : ACalls Try.prog 70 [.agg [I P, u], v] A (I (cst (wct rs) ks)) A := by
  refine acalls hmix Try.func70 (by kernel_rfl) t70 2 rfl (by decide) ?_
  dsimp only [m70]
  simp (maxSteps := 4000000) -implicitDefEqProofs -dsimp (disch := omega) only [↓AW_ops, ↓AW_seq, ↓AW_block, ↓AOps_nil, ↓AOps_pu, on_some, ↓then_normal, pval, rd_S, rd_C, put_S, ↓AW_toLoop, AV.cells?, List.replicate_succ, List.replicate_zero, List.set_cons_zero, List.set_cons_succ, List.getElem?_cons_zero, Option.getD_some, Nat.reduceSub, List.cons_append, List.nil_append]
  refine LoopK.by 25 (fun i : Nat => i ≤ ks.length) (fun i => [(1, v), (2, .agg [I P, u]), (5, I (cst (wct rs) (ks.take i))), (6, I i)]) (fun _ => A) (fun i => ks.length - i) 0 (by omega) rfl (by simp [Has, rd_s, cst]) rfl ?_
  intro i hi
  by_cases hlt : i < ks.length
  · obtain ⟨z, hz⟩ : ∃ z, ks[i]? = some z := ⟨_, List.getElem?_eq_getElem hlt⟩
    have hlt' : (i : Int) < ks.length := by omega
    obtain ⟨k0, k1⟩ := hk z (List.mem_of_getElem? hz)
    obtain ⟨hr, _⟩ := rdx_at k0 k1
    have hri := hu.idxI (k := .i64) k0 (show z < (rs.length : Int) by omega)
    have hw := hn.wb k0 k1
    have hwe : (rdx rs z).2.2 = wct rs z := rfl
    have hb := cst_bd (w := wct rs) (M := 99) (ks := ks.take i) (fun k hk2 => hn.wb (hk k (List.mem_of_mem_take hk2)).1 (hk k (List.mem_of_mem_take hk2)).2)
    have hb2 : (ks.take i).length ≤ 1000000 := by rw [List.length_take]; omega
    simp (maxSteps := 4000000) -implicitDefEqProofs -dsimp (disch := omega) only [↓AW_skip, ↓AW_ops, ↓AW_seq, ↓AW_cond, ↓AW_block, ↓AOps_nil, ↓AOps_pu, ↓AOps_ld, on_some, condB_t, ↓then_normal, ↓inBlock_normal, pval, lval, rd_S, rd_C, put_S, chkd, isAdr, bgot, AV.cells?, partA, eq_self, mk, List.foldl_cons, List.foldl_nil, List.replicate_succ, List.replicate_zero, List.set_cons_zero, List.set_cons_succ, List.getElem?_cons_zero, List.getElem?_cons_succ, List.drop_zero, List.drop_succ_cons, List.take_succ_cons, List.take_nil, Option.getD_some, List.length_cons, List.length_nil, Nat.reduceAdd, Nat.reduceLeDiff, Nat.zero_add, bin_add, bin_lss, w64, if_true, if_false, Bool.false_eq_true, decide_true, Go.Eng.e1, true_and, hlt', hx.len, hx.idx hlt, hx.ld0 hz 1 false (by decide), hri, hu.ld hr 1 2 false (by decide), e3, hwe]
    exact ⟨i + 1, hlt, by simp [Has, rd_s, cst_snoc hz], by omega⟩
  · have hlt' : ¬ ((i : Int) < ks.length) := by omega
    simp (maxSteps := 4000000) -implicitDefEqProofs -dsimp (disch := omega) only [↓AW_ops, ↓AW_seq, ↓AW_cond, ↓AW_exit, ↓AW_ret, ↓AOps_nil, ↓AOps_pu, on_some, condB_f, ↓then_normal, ↓then_exit, ↓inBlock_exit, ↓Fin_ret, pval, rd_S, put_S, resV, resL, eq_self, mk, List.foldl_cons, List.foldl_nil, List.replicate_succ, List.replicate_zero, List.set_cons_zero, List.set_cons_succ, List.getElem?_cons_zero, List.getElem?_cons_succ, Option.getD_some, bin_lss, if_true, decide_false, hx.len, hlt']
    rw [List.take_of_length_le (by omega)]
    exact gc_same rfl
end
section
variable {Q : Int} {rs : List Rd} {ks : List Int} {u v : AV} {A : AHeap}
theorem s51 (hx : L1 A v ks) (hl : ks.length ≤ 1000000) (p : Int) : ACalls Try.prog 51 [v, I p] A (B (decide (p ∈ ks))) A := by
  refine acalls hmix Try.func51 (by kernel_rfl) t51 2 rfl (by decide) ?_
  dsimp only [m51]
  simp (maxSteps := 4000000) -implicitDefEqProofs -dsimp (disch := omega) only [↓AW_ops, ↓AW_seq, ↓AW_block, ↓AOps_nil, ↓AOps_pu, on_some, ↓then_normal, pval, rd_C, put_S, ↓AW_toLoop, List.replicate_succ, List.replicate_zero, List.set_cons_zero, List.set_cons_succ, Nat.reduceSub, List.cons_append, List.nil_append]
  refine LoopK.by 18 (fun i : Nat => i ≤ ks.length ∧ ∀ x ∈ ks.take i, ¬ x = p) (fun i => [(0, v), (1, I p), (5, I i)]) (fun _ => A) (fun i => ks.length - i) 0 ⟨by omega, by simp⟩ rfl (by simp [Has, rd_s]) rfl ?_
  rintro i ⟨hi, he⟩
  by_cases hlt : i < ks.length
  · obtain ⟨z, hz⟩ : ∃ z, ks[i]? = some z := ⟨_, List.getElem?_eq_getElem hlt⟩
    have hlt' : (i : Int) < ks.length := by omega
    by_cases h : z = p
    · simp (maxSteps := 4000000) -implicitDefEqProofs -dsimp (disch := omega) only [↓AW_skip, ↓AW_ops, ↓AW_seq, ↓AW_cond, ↓AW_block, ↓AW_ret, ↓AOps_nil, ↓AOps_pu, ↓AOps_ld, on_some, condB_t, ↓then_normal, ↓then_ret, ↓inBlock_ret, ↓Fin_ret, pval, lval, rd_S, rd_C, put_S, resV, resL, partA, eq_self, mk, List.foldl_cons, List.foldl_nil, List.replicate_succ, List.replicate_zero, List.set_cons_zero, List.set_cons_succ, List.getElem?_cons_zero, List.getElem?_cons_succ, List.drop_zero, List.take_succ_cons, List.take_nil, Option.getD_some, List.length_cons, List.length_nil, Nat.reduceLeDiff, Nat.zero_add, bin_eql, bin_lss, if_true, if_false, Bool.false_eq_true, decide_true, Go.Eng.e1, hlt', hx.len, hx.idx hlt, hx.ld0 hz 1 false (by decide), h]
      exact gc_same (by rw [decide_eq_true (h ▸ List.mem_of_getElem? hz)])
    · simp (maxSteps := 4000000) -implicitDefEqProofs -dsimp (disch := omega) only [↓AW_skip, ↓AW_ops, ↓AW_seq, ↓AW_cond, ↓AW_block, ↓AOps_nil, ↓AOps_pu, ↓AOps_ld, on_some, condB_t, condB_f, ↓then_normal, ↓inBlock_normal, pval, lval, rd_S, rd_C, put_S, partA, eq_self, mk, List.foldl_cons, List.foldl_nil, List.replicate_succ, List.replicate_zero, List.set_cons_zero, List.set_cons_succ, List.getElem?_cons_zero, List.getElem?_cons_succ, List.drop_zero, List.take_succ_cons, List.take_nil, Option.getD_some, List.length_cons, List.length_nil, Nat.reduceAdd, Nat.reduceLeDiff, Nat.zero_add, bin_add, bin_eql, bin_lss, w64, if_true, if_false, Bool.false_eq_true, decide_true, decide_false, Go.Eng.e1, true_and, hlt', hx.len, hx.idx hlt, hx.ld0 hz 1 false (by decide), h]
      exact ⟨i + 1, ⟨hlt, all_take he hz h⟩, by simp [Has, rd_s], by omega⟩
  · have hlt' : ¬ ((i : Int) < ks.length) := by omega
    simp (maxSteps := 4000000) -implicitDefEqProofs -dsimp (disch := omega) only [↓AW_ops, ↓AW_seq, ↓AW_cond, ↓AW_exit, ↓AW_ret, ↓AOps_nil, ↓AOps_pu, on_some, condB_f, ↓then_normal, ↓then_exit, ↓inBlock_exit, ↓Fin_ret, pval, rd_S, rd_C, put_S, resV, resL, eq_self, mk, List.foldl_cons, List.foldl_nil, List.replicate_succ, List.replicate_zero, List.set_cons_zero, List.set_cons_succ, List.getElem?_cons_zero, List.getElem?_cons_succ, Option.getD_some, bin_lss, if_true, decide_false, hx.len, hlt']
    rw [List.take_of_length_le (by omega)] at he
    exact gc_same (by rw [decide_eq_false (fun hh => he p hh rfl)])
theorem take_succ_eq {α : Type} {xs ys : List α} {i : Nat} {z w : α} (hz : xs[i]? = some z) (hw : ys[i]? = some w) : xs.take (i + 1) = ys.take (i + 1) ↔ xs.take i = ys.take i ∧ z = w := by
  rw [List.take_add_one, List.take_add_one, hz, hw]
  have h1 := (List.getElem?_eq_some_iff.1 hz).1
  have h2 := (List.getElem?_eq_some_iff.1 hw).1
  constructor
  · intro h
    have := List.append_inj h (by rw [List.length_take, List.length_take]; omega)
    exact ⟨this.1, by simpa using this.2⟩
  · rintro ⟨h, rfl⟩
    rw [h]
theorem s49 {xs ys : List Int} {v u : AV} {A : AHeap} (hx : L1 A v xs) (hy : L1 A u ys) (hl : xs.length ≤ 1000000) : ACalls Try.prog 49 [v, u] A (B (decide (xs = ys))) A := by
  refine acalls hmix Try.func49 (by kernel_rfl) t49 2 rfl (by decide) ?_
  by_cases hle : xs.length = ys.length
  · have hle' : (xs.length : Int) = ys.length := by omega
    dsimp only [m49]
    simp (maxSteps := 4000000) -implicitDefEqProofs -dsimp (disch := omega) only [↓AW_skip, ↓AW_ops, ↓AW_seq, ↓AW_cond, ↓AW_block, ↓AOps_nil, ↓AOps_pu, on_some, condB_f, ↓then_normal, pval, rd_S, rd_C, put_S, ↓AW_toLoop, eq_self, List.replicate_succ, List.replicate_zero, List.set_cons_zero, List.set_cons_succ, List.getElem?_cons_zero, List.getElem?_cons_succ, Option.getD_some, Nat.reduceSub, List.cons_append, List.nil_append, bin_neq, decide_false, not_true_eq_false, hx.len, hy.len, hle']
    refine LoopK.by 26 (fun i : Nat => i ≤ xs.length ∧ xs.take i = ys.take i) (fun i => [(0, v), (1, u), (5, I i)]) (fun _ => A) (fun i => xs.length - i) 0 ⟨by omega, rfl⟩ rfl (by simp [Has, rd_s]) rfl ?_
    rintro i ⟨hi, he⟩
    by_cases hlt : i < xs.length
    · obtain ⟨z, hz⟩ : ∃ z, xs[i]? = some z := ⟨_, List.getElem?_eq_getElem hlt⟩
      have hlt' : (i : Int) < xs.length := by omega
      have hlt2 : i < ys.length := by omega
      obtain ⟨w, hw⟩ : ∃ w, ys[i]? = some w := ⟨_, List.getElem?_eq_getElem hlt2⟩
      by_cases hzw : z = w
      · subst hzw
        simp (maxSteps := 4000000) -implicitDefEqProofs -dsimp (disch := omega) only [↓AW_skip, ↓AW_ops, ↓AW_seq, ↓AW_cond, ↓AW_block, ↓AOps_nil, ↓AOps_pu, ↓AOps_ld, on_some, condB_t, condB_f, ↓then_normal, ↓inBlock_normal, pval, lval, rd_S, rd_C, put_S, partA, eq_self, mk, List.foldl_cons, List.foldl_nil, List.replicate_succ, List.replicate_zero, List.set_cons_zero, List.set_cons_succ, List.getElem?_cons_zero, List.getElem?_cons_succ, List.drop_zero, List.take_succ_cons, List.take_nil, Option.getD_some, List.length_cons, List.length_nil, Nat.reduceAdd, Nat.reduceLeDiff, Nat.zero_add, bin_add, bin_neq, bin_lss, w64, if_true, if_false, Bool.false_eq_true, decide_true, decide_false, Go.Eng.e1, true_and, not_true_eq_false, hlt', hx.len, hx.idx hlt, hx.ld0 hz 1 false (by decide), hy.idx hlt2, hy.ld0 hw 1 false (by decide)]
        exact ⟨i + 1, ⟨hlt, (take_succ_eq hz hw).2 ⟨he, rfl⟩⟩, by simp [Has, rd_s], by omega⟩
      · simp (maxSteps := 4000000) -implicitDefEqProofs -dsimp (disch := omega) only [↓AW_skip, ↓AW_ops, ↓AW_seq, ↓AW_cond, ↓AW_block, ↓AW_ret, ↓AOps_nil, ↓AOps_pu, ↓AOps_ld, on_some, condB_t, ↓then_normal, ↓then_ret, ↓inBlock_ret, ↓Fin_ret, pval, lval, rd_S, rd_C, put_S, resV, resL, partA, eq_self, mk, List.foldl_cons, List.foldl_nil, List.replicate_succ, List.replicate_zero, List.set_cons_zero, List.set_cons_succ, List.getElem?_cons_zero, List.getElem?_cons_succ, List.drop_zero, List.take_succ_cons, List.take_nil, Option.getD_some, List.length_cons, List.length_nil, Nat.reduceLeDiff, Nat.zero_add, bin_neq, bin_lss, if_true, if_false, Bool.false_eq_true, decide_true, Go.Eng.e1, not_false_eq_true, hlt', hx.len, hx.idx hlt, hx.ld0 hz 1 false (by decide), hy.idx hlt2, hy.ld0 hw 1 false (by decide), hzw]
        refine gc_same ?_
        have : ¬ xs = ys := by rintro rfl; rw [hz] at hw; exact hzw (Option.some.inj hw)
        simp [this]
    · have hlt' : ¬ ((i : Int) < xs.length) := by omega
      simp (maxSteps := 4000000) -implicitDefEqProofs -dsimp (disch := omega) only [↓AW_ops, ↓AW_seq, ↓AW_cond, ↓AW_exit, ↓AW_ret, ↓AOps_nil, ↓AOps_pu, on_some, condB_f, ↓then_normal, ↓then_exit, ↓inBlock_exit, ↓Fin_ret, pval, rd_S, rd_C, put_S, resV, resL, eq_self, mk, List.foldl_cons, List.foldl_nil, List.replicate_succ, List.replicate_zero, List.set_cons_zero, List.set_cons_succ, List.getElem?_cons_zero, List.getElem?_cons_succ, Option.getD_some, bin_lss, if_true, decide_false, hlt', hx.len]
      rw [List.take_of_length_le (by omega), List.take_of_length_le (by omega)] at he
      exact gc_same (by simp [he])
  · have hle' : ¬ (xs.length : Int) = ys.length := by omega
    dsimp only [m49]
    simp (maxSteps := 4000000) -implicitDefEqProofs -dsimp (disch := omega) only [↓AW_ops, ↓AW_seq, ↓AW_cond, ↓AW_ret, ↓AOps_nil, ↓AOps_pu, on_some, condB_t, ↓then_normal, ↓then_ret, ↓Fin_ret, pval, rd_S, rd_C, put_S, resV, resL, List.replicate_succ, List.replicate_zero, List.set_cons_zero, List.set_cons_succ, List.getElem?_cons_zero, List.getElem?_cons_succ, Option.getD_some, Nat.reduceSub, List.cons_append, List.nil_append, bin_neq, decide_true, not_false_eq_true, hx.len, hy.len, hle']
    have : ¬ xs = ys := by rintro rfl; exact hle rfl
    exact gc_same (by simp [this])
theorem ws_get {ws : List (AV × List Int)} {i : Nat} {x : AV × List Int} (hz : ws[i]? = some x) : (lists ws)[i]? = some x.2 := by
  rw [List.getElem?_map, hz]; rfl
theorem s17 (hu : L3 A u rs) (P : Int) : ACalls Try.prog 17 [.agg [I P, u]] A (B (decide ((100 : Int) < rs.length))) A := by
  refine acalls hmix Try.func17 (by kernel_rfl) t17 1 rfl (by decide) ?_
  dsimp only [m17]
  simp (maxSteps := 4000000) -implicitDefEqProofs -dsimp (disch := omega) only [↓AW_ops, ↓AW_seq, ↓AW_ret, ↓AOps_nil, ↓AOps_pu, on_some, ↓then_normal, ↓Fin_ret, pval, rd_S, rd_C, put_S, resV, resL, chkd, isAdr, bgot, AV.cells?, partA, eq_self, List.replicate_succ, List.replicate_zero, List.set_cons_zero, List.set_cons_succ, List.getElem?_cons_zero, List.getElem?_cons_succ, List.drop_zero, List.drop_succ_cons, List.take_succ_cons, List.take_nil, Option.getD_some, List.length_cons, List.length_nil, Nat.reduceAdd, Nat.reduceSub, Nat.reduceLeDiff, Nat.zero_add, List.cons_append, List.nil_append, bin_gtr, if_true, if_false, Bool.false_eq_true, hu.len]
  exact gc_same rfl
end
end Go.Proofs.Ytkgfcdpckfhknaa

namespace Go.Proofs.Ytkgfcdpckfhknaa
open Go Go.Eng
/-- The first elements are in order. -/
def SU (w : Int → Int) (zs : List Int) (i : Nat) : Prop := ∀ (p q : Nat) (a b : Int), p < q → q < i → zs[p]? = some a → zs[q]? = some b → w a ≤ w b
theorem SU.one (w : Int → Int) (zs : List Int) : SU w zs 1 := fun p q a b h k => by omega
theorem SU.zero (w : Int → Int) (zs : List Int) : SU w zs 0 := fun p q a b h k => by omega
theorem SU.all {w : Int → Int} {zs : List Int} (h : SU w zs zs.length) : zs.Pairwise (fun a b => w a ≤ w b) := by
  rw [List.pairwise_iff_getElem]
  intro i j hi hj hij
  exact h i j _ _ hij hj (List.getElem?_eq_getElem hi) (List.getElem?_eq_getElem hj)
/-- An element that goes down to its place. -/
structure IS (w : Int → Int) (xs zs : List Int) (i j : Nat) : Prop where
  perm : zs.Perm xs
  a : ∀ (p q : Nat) (a b : Int), p < q → q ≤ i → p ≠ j → q ≠ j → zs[p]? = some a → zs[q]? = some b → w a ≤ w b
  b : ∀ (q : Nat) (x y : Int), j < q → q ≤ i → zs[j]? = some x → zs[q]? = some y → w x ≤ w y
theorem IS.start {w : Int → Int} {xs zs : List Int} {i : Nat} (hp : zs.Perm xs) (h : SU w zs i) : IS w xs zs i i :=
  ⟨hp, fun p q a b h1 h2 _ h4 => h p q a b h1 (by omega), fun q x y h1 h2 => by omega⟩
theorem IS.zero {w : Int → Int} {xs zs : List Int} {i : Nat} (h : IS w xs zs i 0) : SU w zs (i + 1) := by
  intro p q a b h1 h2 h3 h4
  by_cases hp : p = 0
  · subst hp
    exact h.b q a b h1 (by omega) h3 h4
  · exact h.a p q a b h1 (by omega) hp (by omega) h3 h4
theorem IS.stop {w : Int → Int} {xs zs : List Int} {i j : Nat} {x y : Int} (h : IS w xs zs i (j + 1)) (hx : zs[j + 1]? = some x) (hy : zs[j]? = some y) (hxy : ¬ w x < w y) : SU w zs (i + 1) := by
  intro p q a b h1 h2 h3 h4
  by_cases hq : q = j + 1
  · subst hq
    have hbx : b = x := by rw [hx] at h4; exact (Option.some.inj h4).symm
    subst hbx
    by_cases hp : p = j
    · subst hp
      have e : a = y := by rw [hy] at h3; exact (Option.some.inj h3).symm
      rw [e]
      omega
    · have := h.a p j a y (by omega) (by omega) (by omega) (by omega) h3 hy
      omega
  · by_cases hp : p = j + 1
    · subst hp
      exact h.b q a b h1 (by omega) h3 h4
    · exact h.a p q a b h1 (by omega) hp hq h3 h4
theorem swap_get {zs : List Int} {j : Nat} {x y : Int} (hj : j + 1 < zs.length) (k : Nat) : ((zs.set (j + 1) y).set j x)[k]? = if k = j then some x else if k = j + 1 then some y else zs[k]? := by
  rw [List.getElem?_set, List.getElem?_set]
  by_cases h1 : k = j
  · subst h1
    rw [if_pos rfl, if_pos rfl, if_pos (by simp; omega)]
  · rw [if_neg (Ne.symm h1), if_neg h1]
    by_cases h2 : k = j + 1
    · subst h2
      rw [if_pos rfl, if_pos rfl, if_pos hj]
    · rw [if_neg (Ne.symm h2), if_neg h2]
theorem IS.swap {w : Int → Int} {xs zs : List Int} {i j : Nat} {x y : Int} (h : IS w xs zs i (j + 1)) (hi : j + 1 ≤ i) (hx : zs[j + 1]? = some x) (hy : zs[j]? = some y) (hxy : w x < w y) : IS w xs ((zs.set (j + 1) y).set j x) i j := by
  obtain ⟨h1, rfl⟩ := List.getElem?_eq_some_iff.1 hx
  obtain ⟨h2, rfl⟩ := List.getElem?_eq_some_iff.1 hy
  refine ⟨(List.set_set_perm h1 h2).trans h.perm, fun p q a b hpq hqi hp hq ha hb => ?_, fun q a b hjq hqi ha hb => ?_⟩
  · rw [swap_get h1] at ha hb
    rw [if_neg hp] at ha
    rw [if_neg hq] at hb
    by_cases hq1 : q = j + 1
    · rw [if_pos hq1] at hb
      rw [if_neg (by omega)] at ha
      have := h.a p j a zs[j] (by omega) (by omega) (by omega) (by omega) ha hy
      have e := Option.some.inj hb
      rw [← e]
      omega
    · rw [if_neg hq1] at hb
      by_cases hp1 : p = j + 1
      · rw [if_pos hp1] at ha
        have := h.a j q zs[j] b (by omega) hqi (by omega) hq1 hy hb
        have e := Option.some.inj ha
        rw [← e]
        omega
      · rw [if_neg hp1] at ha
        exact h.a p q a b hpq hqi hp1 hq1 ha hb
  · rw [swap_get h1] at ha hb
    rw [if_pos rfl] at ha
    rw [if_neg (by omega)] at hb
    have ha := Option.some.inj ha
    by_cases hq1 : q = j + 1
    · rw [if_pos hq1] at hb
      have e := Option.some.inj hb
      rw [← e, ← ha]
      omega
    · rw [if_neg hq1] at hb
      have := h.b q _ b (by omega) hqi hx hb
      rw [← ha]
      omega
section
variable {P : Nat} {rs : List Rd} {ks : List Int} {u v : AV} {A : AHeap}
theorem s98 {H : AHeap} {q : Nat} (hq : ldA 1 false (.ptr q 1) H = some u) (hu : L3 H u rs) (hn : Net P rs) {i k : Int} (i0 : 0 ≤ i) (i1 : i ≤ (rs.length : Int) - 1) (k0 : 0 ≤ k) (k1 : k ≤ (rs.length : Int) - 1) :
    ACalls Try.prog 98 [I i, I k, .ptr q 0] H (I (wct rs i - wct rs k)) H := by
  refine acalls hmix Try.func98 (by kernel_rfl) t98 3 rfl (by decide) ?_
  obtain ⟨hi, _⟩ := rdx_at i0 i1
  obtain ⟨hk, _⟩ := rdx_at k0 k1
  have wi := hn.wb i0 i1
  have wk := hn.wb k0 k1
  have hii := hu.idxI (k := .i64) i0 (show i < (rs.length : Int) by omega)
  have hki := hu.idxI (k := .i64) k0 (show k < (rs.length : Int) by omega)
  have e1 : (rdx rs i).2.2 = wct rs i := rfl
  have e2 : (rdx rs k).2.2 = wct rs k := rfl
  dsimp only [m98]
  simp (maxSteps := 4000000) -implicitDefEqProofs -dsimp (disch := omega) only [↓AW_ops, ↓AW_seq, ↓AW_ret, ↓AOps_nil, ↓AOps_pu, ↓AOps_ld, on_some, ↓then_normal, ↓Fin_ret, pval, lval, rd_S, rd_C, put_S, resV, resL, partA, eq_self, List.replicate_succ, List.replicate_zero, List.set_cons_zero, List.set_cons_succ, List.getElem?_cons_zero, List.getElem?_cons_succ, List.drop_zero, List.drop_succ_cons, List.take_succ_cons, List.take_nil, Option.getD_some, List.length_cons, List.length_nil, Nat.reduceAdd, Nat.reduceSub, Nat.reduceLeDiff, Nat.zero_add, List.cons_append, List.nil_append, bin_sub, w64, if_true, if_false, Bool.false_eq_true, hq, hii, hki, hu.ld hi 1 2 false (by decide), hu.ld hk 1 2 false (by decide), e3, e1, e2]
  exact gc_same rfl
/-- Comparing two of a list's numbers, wherever they stand. -/
def CmpOK (w : Int → Int) (H : AHeap) (n q : Nat) (xs : List Int) : Prop := ∀ zs : List Int, zs.Perm xs → ∀ x ∈ xs, ∀ y ∈ xs, ACalls Try.prog 98 [I x, I y, .ptr q 0] (H.set n (.cells true (zs.flatMap e1))) (I (w x - w y)) (H.set n (.cells true (zs.flatMap e1)))
set_option maxHeartbeats 8000000 in
theorem c_insC {w : Int → Int} {xs : List Int} {H : AHeap} {n q : Nat} (h : OL 1 e1 A H n v xs) (hl : xs.length ≤ 1000) (hc : CmpOK w H n q xs) : ∃ zs : List Int, ACalls Try.prog 112 [v, I 0, I xs.length, .fn 98 [.ptr q 0]] H (.tuple []) (H.set n (.cells true (zs.flatMap e1))) ∧ zs.Perm xs ∧ zs.Pairwise (fun a b => w a ≤ w b) := by
  have key : ∃ r H', ACalls Try.prog 112 [v, I 0, I xs.length, .fn 98 [.ptr q 0]] H r H' ∧ ∃ zs : List Int, r = .tuple [] ∧ H' = H.set n (.cells true (zs.flatMap e1)) ∧ zs.Perm xs ∧ zs.Pairwise (fun a b => w a ≤ w b) := by
    refine acallsR hmix Try.func112 (by kernel_rfl) t112 _ 4 rfl (by decide) ?_
    dsimp only [m112]
    simp (maxSteps := 4000000) -implicitDefEqProofs -dsimp (disch := omega) only [↓AW_ops, ↓AW_seq, ↓AW_block, ↓AOps_nil, ↓AOps_pu, on_some, ↓then_normal, pval, rd_S, rd_C, put_S, ↓AW_toLoop, List.replicate_succ, List.replicate_zero, List.set_cons_zero, List.set_cons_succ, List.getElem?_cons_zero, List.getElem?_cons_succ, Option.getD_some, Nat.reduceSub, List.cons_append, List.nil_append, bin_add, w64, Int.reduceAdd]
    refine LoopK.by 53 (fun x : Nat × List Int => (1 ≤ x.1 ∧ x.1 ≤ xs.length + 1) ∧ x.2.Perm xs ∧ SU w x.2 x.1) (fun x => [(0, v), (1, I 0), (2, I xs.length), (3, .fn 98 [.ptr q 0]), (8, I x.1)]) (fun x => H.set n (.cells true (x.2.flatMap e1))) (fun x => xs.length + 1 - x.1) (1, xs) ⟨by simp only; omega, List.Perm.refl _, SU.one _ _⟩ rfl (by simp [Has, rd_s]) (by simp only; rw [set_same h.ob]) ?_
    rintro ⟨i, zs⟩ ⟨hi, hpz, hz⟩
    simp only at hi hpz hz
    by_cases hlt : i < xs.length
    · have hlt' : (i : Int) < xs.length := by omega
      simp (maxSteps := 4000000) -implicitDefEqProofs -dsimp (disch := omega) only [↓AW_skip, ↓AW_ops, ↓AW_seq, ↓AW_cond, ↓AW_block, ↓AOps_nil, ↓AOps_pu, on_some, condB_t, ↓then_normal, pval, rd_S, put_S, ↓AW_toLoop, mk, List.foldl_cons, List.foldl_nil, List.replicate_succ, List.replicate_zero, List.set_cons_zero, List.set_cons_succ, List.getElem?_cons_zero, List.getElem?_cons_succ, Option.getD_some, bin_lss, decide_true, hlt']
      refine LoopK.by 53 (fun x : Nat × List Int => x.1 ≤ i ∧ IS w xs x.2 i x.1) (fun x => [(0, v), (1, I 0), (2, I xs.length), (3, .fn 98 [.ptr q 0]), (8, I i), (9, I x.1)]) (fun x => H.set n (.cells true (x.2.flatMap e1))) (fun x => x.1) (i, zs) ⟨by simp only; omega, IS.start hpz hz⟩ rfl (by simp [Has, rd_s]) rfl ?_
      rintro ⟨j, ws⟩ ⟨hj, hs⟩
      simp only at hj hs
      have hlen := hs.perm.length_eq
      have ho := OL_setAll h ws hlen
      cases j with
      | zero =>
        simp (maxSteps := 4000000) -implicitDefEqProofs -dsimp (disch := omega) only [↓AW_ops, ↓AW_seq, ↓AW_cond, ↓AW_exit, ↓AOps_nil, ↓AOps_pu, ↓AOps_guard, on_some, guardB_ft, skipS_some, condB_f, ↓then_normal, ↓then_exit, ↓inBlock_normal, ↓inBlock_exit, ↓FinR_normal, pval, rd_S, rd_C, put_S, resV, resL, eq_self, mk, List.foldl_cons, List.foldl_nil, List.replicate_succ, List.replicate_zero, List.set_cons_zero, List.set_cons_succ, List.getElem?_cons_zero, List.getElem?_cons_succ, Option.getD_some, List.length_cons, List.length_nil, Nat.reduceAdd, Nat.reduceEqDiff, Nat.zero_add, bin_add, bin_gtr, w64, if_true, if_false, Bool.false_eq_true, decide_false, true_and, reduceCtorEq, Int.reduceLT, Int.ofNat_zero]
        exact ⟨(i + 1, ws), ⟨by simp only; omega, hs.perm, hs.zero⟩, by simp [Has, rd_s], rfl, by simp only; omega⟩
      | succ k =>
        have hk1 : k + 1 < ws.length := by omega
        have hk0 : k < ws.length := by omega
        have hjp : (0 : Int) < ((k + 1 : Nat) : Int) := by omega
        have hjm : ((k + 1 : Nat) : Int) - 1 = (k : Int) := by omega
        obtain ⟨x, hx⟩ : ∃ x, ws[k + 1]? = some x := ⟨_, List.getElem?_eq_getElem hk1⟩
        obtain ⟨y, hy⟩ : ∃ y, ws[k]? = some y := ⟨_, List.getElem?_eq_getElem hk0⟩
        have h1 := ho.st hk1 (I y) y rfl
        rw [List.set_set] at h1
        have ho2 := OL_setAll h (ws.set (k + 1) y) (by simp [hlen])
        have h2 := ho2.st (i := k) (by simp; omega) (I x) x rfl
        rw [List.set_set] at h2
        have hswap := hs.swap (x := x) (y := y) hj hx hy
        have hstop := hs.stop hx hy
        generalize hJ : ((k + 1 : Nat) : Int) = J at *
        have hidx1 : idxA 1 v (.int .i64 J) = some (.ptr (nm v) (of v + (k + 1) * 1)) := by rw [← hJ]; exact ho.ls.idx hk1
        simp (maxSteps := 4000000) -implicitDefEqProofs -dsimp (disch := omega) only [↓AW_ops, ↓AW_seq, ↓AOps_pu, ↓AOps_ld, ↓AOps_callv, ↓AOps_guard, on_some, CallF_fn, guardB_tt, pval, lval, rd_S, rd_C, put_S, partA, eq_self, mk, List.foldl_cons, List.foldl_nil, List.replicate_succ, List.replicate_zero, List.set_cons_zero, List.set_cons_succ, List.getElem?_cons_zero, List.getElem?_cons_succ, List.drop_zero, List.take_succ_cons, List.take_nil, Option.getD_some, map_c, map_n, List.length_cons, List.length_nil, Nat.reduceLeDiff, Nat.zero_add, List.cons_append, List.nil_append, bin_sub, bin_gtr, w64, if_true, if_false, Bool.false_eq_true, decide_true, Go.Eng.e1, hjp, hjm, hidx1, ho.ls.ld0 hx 1 false (by decide), ho.ls.idx hk0, ho.ls.ld0 hy 1 false (by decide)]
        refine CallK.of (hc ws hs.perm x (hs.perm.mem_iff.1 (List.mem_of_getElem? hx)) y (hs.perm.mem_iff.1 (List.mem_of_getElem? hy))) ?_
        by_cases hxy : w x < w y
        · have hxy' : w x - w y < 0 := by omega
          simp (maxSteps := 4000000) -implicitDefEqProofs -dsimp (disch := omega) only [↓AW_skip, ↓AW_ops, ↓AW_seq, ↓AW_cond, ↓AW_block, ↓AOps_nil, ↓AOps_pu, ↓AOps_ld, ↓AOps_ha, ↓AOps_guard, on_some, extK_false, extK_same, guardB_tt, condB_t, ↓then_normal, ↓inBlock_normal, pval, lval, hval_st, rd_S, rd_C, put_S, putS_none, partA, eq_self, mk, List.foldl_cons, List.foldl_nil, List.replicate_succ, List.replicate_zero, List.set_cons_zero, List.set_cons_succ, List.getElem?_cons_zero, List.getElem?_cons_succ, List.drop_zero, List.take_succ_cons, List.take_nil, Option.getD_some, Option.map_some, List.length_cons, List.length_nil, Nat.reduceAdd, Nat.reduceLeDiff, Nat.zero_add, bin_sub, bin_lss, w64, if_true, if_false, Bool.false_eq_true, decide_true, Go.Eng.e1, true_and, hxy', hjm, hidx1, ho.ls.ld0 hx 1 false (by decide), ho.ls.idx hk0, ho.ls.ld0 hy 1 false (by decide), h1, h2]
          exact ⟨(k, (ws.set (k + 1) y).set k x), ⟨by simp only; omega, hswap hxy⟩, by simp [Has, rd_s], rfl, by simp only; omega⟩
        · have hxy' : ¬ w x - w y < 0 := by omega
          simp (maxSteps := 4000000) -implicitDefEqProofs -dsimp (disch := omega) only [↓AW_ops, ↓AW_cond, ↓AW_exit, ↓AOps_nil, ↓AOps_pu, ↓AOps_guard, on_some, extK_same, guardB_tt, condB_f, ↓then_normal, ↓then_exit, ↓inBlock_normal, ↓inBlock_exit, ↓FinR_normal, pval, rd_S, rd_C, put_S, resV, resL, eq_self, mk, List.foldl_cons, List.foldl_nil, List.replicate_succ, List.replicate_zero, List.set_cons_zero, List.set_cons_succ, List.getElem?_cons_zero, List.getElem?_cons_succ, Option.getD_some, List.length_cons, List.length_nil, Nat.reduceAdd, Nat.reduceEqDiff, Nat.zero_add, bin_add, bin_lss, w64, if_true, if_false, decide_false, true_and, reduceCtorEq, hxy']
          exact ⟨(i + 1, ws), ⟨by simp only; omega, hs.perm, hstop hxy⟩, by simp [Has, rd_s], rfl, by simp only; omega⟩
    · have hlt' : ¬ (i : Int) < xs.length := by omega
      simp (maxSteps := 4000000) -implicitDefEqProofs -dsimp (disch := omega) only [↓AW_ops, ↓AW_seq, ↓AW_cond, ↓AW_exit, ↓AOps_nil, ↓AOps_pu, on_some, condB_f, ↓then_normal, ↓then_exit, ↓inBlock_exit, ↓FinR_normal, pval, rd_S, put_S, resV, resL, eq_self, mk, List.foldl_cons, List.foldl_nil, List.replicate_succ, List.replicate_zero, List.set_cons_zero, List.set_cons_succ, List.getElem?_cons_zero, List.getElem?_cons_succ, Option.getD_some, bin_lss, if_true, decide_false, hlt']
      have hle := hpz.length_eq
      exact ⟨_, _, gc_all, zs, rfl, rfl, hpz, SU.all (fun p q a b h1 h2 => hz p q a b h1 (by omega))⟩
  obtain ⟨r, H', h1, zs, rfl, rfl, h2, h3⟩ := key
  exact ⟨zs, h1, h2, h3⟩
theorem c_stable {w : Int → Int} {xs : List Int} {H : AHeap} {n q : Nat} (h : OL 1 e1 A H n v xs) (hl : xs.length ≤ 19) (hc : CmpOK w H n q xs) : ∃ zs : List Int, ACalls Try.prog 97 [v, .fn 98 [.ptr q 0]] H (.tuple []) (H.set n (.cells true (zs.flatMap e1))) ∧ zs.Perm xs ∧ zs.Pairwise (fun a b => w a ≤ w b) := by
  obtain ⟨zs, h1, h2, h3⟩ := c_insC h (by omega) hc
  refine ⟨zs, ?_, h2, h3⟩
  have hst : ACalls Try.prog 109 [v, I xs.length, .fn 98 [.ptr q 0]] H (.tuple []) (H.set n (.cells true (zs.flatMap e1))) := by
    refine acalls hmix Try.func109 (by kernel_rfl) t109 3 rfl (by decide) ?_
    have hb : ¬ (20 : Int) ≤ xs.length := by omega
    have hb2 : ¬ (20 : Int) < xs.length := by omega
    dsimp only [m109]
    simp (maxSteps := 4000000) -implicitDefEqProofs -dsimp (disch := omega) only [↓AW_ops, ↓AW_seq, ↓AW_block, ↓AOps_nil, ↓AOps_pu, on_some, ↓then_normal, pval, rd_S, rd_C, put_S, ↓AW_toLoop, List.replicate_succ, List.replicate_zero, List.set_cons_zero, List.set_cons_succ, List.getElem?_cons_zero, List.getElem?_cons_succ, Option.getD_some, Nat.reduceSub, List.cons_append, List.nil_append]
    refine LoopK.by 63 (fun _ : Unit => True) (fun _ => [(0, v), (1, I xs.length), (2, .fn 98 [.ptr q 0]), (6, I 20), (7, I 0), (8, I 20)]) (fun _ => H) (fun _ => 0) () trivial rfl (by simp [Has, rd_s]) rfl ?_
    rintro _ _
    simp (maxSteps := 4000000) -implicitDefEqProofs -dsimp (disch := omega) only [↓AW_ops, ↓AW_seq, ↓AW_cond, ↓AW_exit, ↓AOps_nil, ↓AOps_pu, ↓AOps_call, on_some, condB_f, ↓then_normal, ↓then_exit, ↓inBlock_exit, pval, rd_S, put_S, eq_self, mk, List.foldl_cons, List.foldl_nil, List.replicate_succ, List.replicate_zero, List.set_cons_zero, List.set_cons_succ, List.getElem?_cons_zero, List.getElem?_cons_succ, Option.getD_some, map_c, map_n, bin_leq, if_true, decide_false, hb]
    refine CallK.of h1 ?_
    simp (maxSteps := 4000000) -implicitDefEqProofs -dsimp (disch := omega) only [↓AW_block, ↓AOps_nil, extK_false, ↓then_normal, put_S, ↓AW_toLoop, mk, List.foldl_cons, List.foldl_nil, List.replicate_succ, List.replicate_zero, List.set_cons_zero, List.set_cons_succ]
    refine LoopK.by 63 (fun _ : Unit => True) (fun _ => [(0, v), (1, I xs.length), (2, .fn 98 [.ptr q 0]), (6, I 20)]) (fun _ => H.set n (.cells true (zs.flatMap e1))) (fun _ => 0) () trivial rfl (by simp [Has, rd_s]) rfl ?_
    rintro _ _
    simp (maxSteps := 4000000) -implicitDefEqProofs -dsimp (disch := omega) only [↓AW_ops, ↓AW_seq, ↓AW_cond, ↓AW_exit, ↓AOps_nil, ↓AOps_pu, on_some, condB_f, ↓then_normal, ↓then_exit, ↓inBlock_exit, ↓Fin_normal, pval, rd_S, put_S, resV, resL, eq_self, mk, List.foldl_cons, List.foldl_nil, List.replicate_succ, List.replicate_zero, List.set_cons_zero, List.set_cons_succ, List.getElem?_cons_zero, List.getElem?_cons_succ, Option.getD_some, bin_lss, if_true, decide_false, hb2]
    exact gc_same_all rfl rfl
  refine acalls hmix Try.func97 (by kernel_rfl) t97 2 rfl (by decide) ?_
  dsimp only [m97]
  simp (maxSteps := 4000000) -implicitDefEqProofs -dsimp (disch := omega) only [↓AW_ops, ↓AOps_pu, ↓AOps_call, on_some, pval, rd_S, put_S, List.replicate_succ, List.replicate_zero, List.set_cons_zero, List.set_cons_succ, List.getElem?_cons_zero, List.getElem?_cons_succ, Option.getD_some, map_c, map_n, Nat.reduceSub, List.cons_append, List.nil_append, h.ls.len]
  refine CallK.of hst ?_
  simp (maxSteps := 4000000) -implicitDefEqProofs -dsimp (disch := omega) only [↓AOps_nil, on_some, extK_false, ↓Fin_normal, resV, resL]
  exact gc_same_all rfl rfl
/-- The numbers of all roads. -/
abbrev nums (rs : List Rd) : List Int := plc rs.length
/-- The numbers of all roads, the cheapest first. -/
structure Ord (rs : List Rd) (L : List Int) : Prop where
  p : L.Perm (nums rs)
  s : L.Pairwise (fun a b => wct rs a ≤ wct rs b)
theorem Ord.mem {L : List Int} (h : Ord rs L) {k : Int} : k ∈ L ↔ 0 ≤ k ∧ k ≤ (rs.length : Int) - 1 := by
  rw [h.p.mem_iff, mem_plc]
  omega
theorem Ord.nos {L : List Int} (h : Ord rs L) : Nos rs L := fun k hk => h.mem.1 hk
theorem Ord.nodup {L : List Int} (h : Ord rs L) : L.Nodup := h.p.nodup_iff.2 (plc_nodup _)
theorem Ord.len {L : List Int} (h : Ord rs L) : L.length = rs.length := by rw [h.p.length_eq, plc_len]
set_option maxHeartbeats 8000000 in
theorem c_all (hu : L3 A u rs) (hn : Net P rs) : ∃ r H, ACalls Try.prog 59 [.agg [I P, u]] A r H ∧ A <+: H ∧ ∃ L, L1 H r L ∧ Ord rs L := by
  refine acallsR hmix Try.func59 (by kernel_rfl) t59 _ 1 rfl (by decide) ?_
  have hl14 := hn.l
  have hpA := pre_app A [.cells true [I P, u]]
  have hld1 : ldA 1 false (.ptr A.length 1) (A ++ [.cells true [I P, u]]) = some u := by simp [ldA, partA]
  have hu1 := hu.mono hpA
  dsimp only [m59]
  simp (maxSteps := 4000000) -implicitDefEqProofs -dsimp (disch := omega) only [↓AW_ops, ↓AW_seq, ↓AOps_nil, ↓AOps_pu, ↓AOps_ld, ↓AOps_ha, on_some, extK_app, ↓then_normal, pval, lval, hval_newv, rd_S, rd_C, put_S, cells_agg, List.replicate_succ, List.replicate_zero, List.set_cons_zero, List.set_cons_succ, List.getElem?_cons_zero, List.getElem?_cons_succ, Option.getD_some, Nat.reduceSub, Nat.zero_add, List.cons_append, List.nil_append]
  generalize hA1 : A ++ [.cells true [I P, u]] = A1 at *
  simp (maxSteps := 4000000) -implicitDefEqProofs -dsimp (disch := omega) only [↓AW_block, ↓AOps_nil, ↓AOps_pu, on_some, ↓then_normal, pval, rd_S, rd_C, put_S, ↓AW_toLoop, List.replicate_succ, List.replicate_zero, List.set_cons_zero, List.set_cons_succ, List.getElem?_cons_zero, List.getElem?_cons_succ, Option.getD_some, Nat.reduceSub, List.cons_append, List.nil_append, hld1, hu1.len]
  refine LoopK.by 20 (fun x : Nat × AV × AHeap => x.1 ≤ rs.length ∧ AccL 1 e1 A1 x.2.2 x.2.1 (plc x.1)) (fun x => [(1, .ptr A.length 0), (3, x.2.1), (7, I rs.length), (8, I x.1)]) (fun x => x.2.2) (fun x => rs.length - x.1) (0, .nilS, A1) ⟨by simp only; omega, AccL.nil (List.prefix_refl _)⟩ rfl (by simp [Has, rd_s]) rfl ?_
  rintro ⟨i, z, H⟩ ⟨hi, hac⟩
  simp only at hi hac
  by_cases hlt : i < rs.length
  · have hlt' : (i : Int) < rs.length := by omega
    obtain ⟨v', H2, happ, hacc, _, n, len, rfl, _⟩ := AccL_push2 hac e1_len (by omega) (i : Int) (by rw [plc_len]; simp only [lim]; omega)
    simp only [Go.Eng.e1] at happ
    simp (maxSteps := 4000000) -implicitDefEqProofs -dsimp (disch := omega) only [↓AW_skip, ↓AW_ops, ↓AW_seq, ↓AW_cond, ↓AW_block, ↓AOps_nil, ↓AOps_pu, ↓AOps_ha, on_some, extK_false, extK_app, condB_t, ↓then_normal, ↓inBlock_normal, pval, hval_blds, hval_app, rd_S, rd_C, put_S, cells_int, splice, fillA, repl, eq_self, mk, List.foldl_cons, List.foldl_nil, List.replicate_succ, List.replicate_zero, List.set_cons_zero, List.set_cons_succ, List.getElem?_cons_zero, List.getElem?_cons_succ, List.drop_succ_cons, List.drop_nil, List.take_zero, Option.getD_some, map_c, map_n, List.length_cons, List.length_nil, Nat.reduceAdd, Nat.reduceLeDiff, Nat.zero_add, List.nil_append, List.append_nil, bin_add, bin_lss, w64, if_true, decide_true, true_and, and_true, hlt', happ, List.replicate_zero, repl]
    refine ⟨(i + 1, .sl 1 n 0 len false, H2), ⟨hlt, ?_⟩, by simp [Has, rd_s], rfl, by simp only; omega⟩
    simp only
    rw [plc_succ]
    exact hacc
  · have hlt' : ¬ (i : Int) < rs.length := by omega
    have hil : i = rs.length := by omega
    subst hil
    simp (maxSteps := 4000000) -implicitDefEqProofs -dsimp (disch := omega) only [↓AW_ops, ↓AW_seq, ↓AW_cond, ↓AW_exit, ↓AOps_nil, ↓AOps_pu, ↓AOps_call, on_some, condB_f, ↓then_normal, ↓then_exit, ↓inBlock_exit, pval, rd_S, put_S, eq_self, mk, List.foldl_cons, List.foldl_nil, List.replicate_succ, List.replicate_zero, List.set_cons_zero, List.set_cons_succ, List.getElem?_cons_zero, List.getElem?_cons_succ, Option.getD_some, map_c, map_n, bin_lss, if_true, decide_false, hlt']
    by_cases h0 : rs.length = 0
    · -- there is none
      have hz0 : z = .nilS := by
        rcases hac.2.2 with ⟨_, h4⟩ | ⟨h3, _⟩
        · exact h4
        · rw [plc_len] at h3; omega
      have hpl : plc rs.length = [] := by rw [h0]; rfl
      have hnil : ∀ H : AHeap, ACalls Try.prog 97 [.nilS, .fn 98 [.ptr A.length 0]] H (.tuple []) H := by
        intro H
        have h112 : ACalls Try.prog 112 [.nilS, I 0, I 0, .fn 98 [.ptr A.length 0]] H (.tuple []) H := by
          refine acalls hmix Try.func112 (by kernel_rfl) t112 4 rfl (by decide) ?_
          dsimp only [m112]
          simp (maxSteps := 4000000) -implicitDefEqProofs -dsimp (disch := omega) only [↓AW_ops, ↓AW_seq, ↓AW_block, ↓AOps_nil, ↓AOps_pu, on_some, ↓then_normal, pval, rd_S, rd_C, put_S, ↓AW_toLoop, List.replicate_succ, List.replicate_zero, List.set_cons_zero, List.set_cons_succ, List.getElem?_cons_zero, List.getElem?_cons_succ, Option.getD_some, Nat.reduceSub, List.cons_append, List.nil_append, bin_add, w64, Int.reduceAdd]
          refine LoopK.by 53 (fun _ : Unit => True) (fun _ => [(0, .nilS), (1, I 0), (2, I 0), (3, .fn 98 [.ptr A.length 0]), (8, I 1)]) (fun _ => H) (fun _ => 0) () trivial rfl (by simp [Has, rd_s]) rfl ?_
          rintro _ _
          simp (maxSteps := 4000000) -implicitDefEqProofs -dsimp (disch := omega) only [↓AW_ops, ↓AW_seq, ↓AW_cond, ↓AW_exit, ↓AOps_nil, ↓AOps_pu, on_some, condB_f, ↓then_normal, ↓then_exit, ↓inBlock_exit, ↓Fin_normal, pval, rd_S, put_S, resV, resL, eq_self, mk, List.foldl_cons, List.foldl_nil, List.replicate_succ, List.replicate_zero, List.set_cons_zero, List.set_cons_succ, List.getElem?_cons_zero, List.getElem?_cons_succ, Option.getD_some, bin_lss, if_true, decide_false, Int.reduceLT]
          exact gc_same rfl
        have h109 : ACalls Try.prog 109 [.nilS, I 0, .fn 98 [.ptr A.length 0]] H (.tuple []) H := by
          refine acalls hmix Try.func109 (by kernel_rfl) t109 3 rfl (by decide) ?_
          dsimp only [m109]
          simp (maxSteps := 4000000) -implicitDefEqProofs -dsimp (disch := omega) only [↓AW_ops, ↓AW_seq, ↓AW_block, ↓AOps_nil, ↓AOps_pu, on_some, ↓then_normal, pval, rd_S, rd_C, put_S, ↓AW_toLoop, List.replicate_succ, List.replicate_zero, List.set_cons_zero, List.set_cons_succ, List.getElem?_cons_zero, List.getElem?_cons_succ, Option.getD_some, Nat.reduceSub, List.cons_append, List.nil_append]
          refine LoopK.by 63 (fun _ : Unit => True) (fun _ => [(0, .nilS), (1, I 0), (2, .fn 98 [.ptr A.length 0]), (6, I 20), (7, I 0), (8, I 20)]) (fun _ => H) (fun _ => 0) () trivial rfl (by simp [Has, rd_s]) rfl ?_
          rintro _ _
          simp (maxSteps := 4000000) -implicitDefEqProofs -dsimp (disch := omega) only [↓AW_ops, ↓AW_seq, ↓AW_cond, ↓AW_exit, ↓AOps_nil, ↓AOps_pu, ↓AOps_call, on_some, condB_f, ↓then_normal, ↓then_exit, ↓inBlock_exit, pval, rd_S, put_S, eq_self, mk, List.foldl_cons, List.foldl_nil, List.replicate_succ, List.replicate_zero, List.set_cons_zero, List.set_cons_succ, List.getElem?_cons_zero, List.getElem?_cons_succ, Option.getD_some, map_c, map_n, bin_leq, if_true, decide_false, Int.reduceLE]
          refine CallK.of h112 ?_
          simp (maxSteps := 4000000) -implicitDefEqProofs -dsimp (disch := omega) only [↓AW_block, ↓AOps_nil, extK_same, ↓then_normal, put_S, ↓AW_toLoop, mk, List.foldl_cons, List.foldl_nil, List.replicate_succ, List.replicate_zero, List.set_cons_zero, List.set_cons_succ]
          refine LoopK.by 63 (fun _ : Unit => True) (fun _ => [(0, .nilS), (1, I 0), (2, .fn 98 [.ptr A.length 0]), (6, I 20)]) (fun _ => H) (fun _ => 0) () trivial rfl (by simp [Has, rd_s]) rfl ?_
          rintro _ _
          simp (maxSteps := 4000000) -implicitDefEqProofs -dsimp (disch := omega) only [↓AW_ops, ↓AW_seq, ↓AW_cond, ↓AW_exit, ↓AOps_nil, ↓AOps_pu, on_some, condB_f, ↓then_normal, ↓then_exit, ↓inBlock_exit, ↓Fin_normal, pval, rd_S, put_S, resV, resL, eq_self, mk, List.foldl_cons, List.foldl_nil, List.replicate_succ, List.replicate_zero, List.set_cons_zero, List.set_cons_succ, List.getElem?_cons_zero, List.getElem?_cons_succ, Option.getD_some, bin_lss, if_true, decide_false, Int.reduceLT]
          exact gc_same rfl
        refine acalls hmix Try.func97 (by kernel_rfl) t97 2 rfl (by decide) ?_
        dsimp only [m97]
        simp (maxSteps := 4000000) -implicitDefEqProofs -dsimp (disch := omega) only [↓AW_ops, ↓AOps_pu, ↓AOps_call, on_some, pval, rd_S, put_S, List.replicate_succ, List.replicate_zero, List.set_cons_zero, List.set_cons_succ, List.getElem?_cons_zero, List.getElem?_cons_succ, Option.getD_some, map_c, map_n, Nat.reduceSub, List.cons_append, List.nil_append, lenA]
        refine CallK.of h109 ?_
        simp (maxSteps := 4000000) -implicitDefEqProofs -dsimp (disch := omega) only [↓AOps_nil, on_some, extK_same, ↓Fin_normal, resV, resL]
        exact gc_same rfl
      subst hz0
      refine CallK.of (hnil H) ?_
      simp (maxSteps := 4000000) -implicitDefEqProofs -dsimp (disch := omega) only [↓AW_ops, ↓AW_seq, ↓AW_ret, ↓AOps_nil, ↓AOps_pu, on_some, extK_same, ↓then_normal, ↓FinR_ret, pval, rd_S, put_S, resV, resL, mk, List.foldl_cons, List.foldl_nil, List.replicate_succ, List.replicate_zero, List.set_cons_zero, List.set_cons_succ, List.getElem?_cons_zero, List.getElem?_cons_succ, Option.getD_some]
      exact ⟨_, _, gc_all, hpA.trans hac.1, [], L1_nil _, by rw [show nums rs = [] from hpl], .nil⟩
    · obtain ⟨n, ho, hzv⟩ := AccL_ol hac e1_len (by rw [plc_len]; omega)
      have hcmp : CmpOK (wct rs) H n A.length (plc rs.length) := by
        intro zs hzs x hx y hy
        have ho2 := OL_setAll ho zs hzs.length_eq
        have hx' := mem_plc.1 hx
        have hy' := mem_plc.1 hy
        exact s98 (ld_mono ho2.pre hld1) (hu1.mono ho2.pre) hn hx'.1 (by omega) hy'.1 (by omega)
      obtain ⟨zs, hcs, hp, hs⟩ := c_stable ho (by rw [plc_len]; omega) hcmp
      refine CallK.of hcs ?_
      simp (maxSteps := 4000000) -implicitDefEqProofs -dsimp (disch := omega) only [↓AW_ops, ↓AW_seq, ↓AW_ret, ↓AOps_nil, ↓AOps_pu, on_some, extK_false, ↓then_normal, ↓FinR_ret, pval, rd_S, put_S, resV, resL, mk, List.foldl_cons, List.foldl_nil, List.replicate_succ, List.replicate_zero, List.set_cons_zero, List.set_cons_succ, List.getElem?_cons_zero, List.getElem?_cons_succ, Option.getD_some]
      have ho2 := OL_setAll ho zs hp.length_eq
      exact ⟨_, _, gc_all, hpA.trans ho2.pre, zs, ho2.ls, hp, hs⟩
end
end Go.Proofs.Ytkgfcdpckfhknaa

namespace Go.Proofs.Ytkgfcdpckfhknaa
open Go Go.Eng
/-- Numbers in ascending order. -/
def srt (xs : List Int) : List Int := xs.mergeSort (fun a b => decide (a ≤ b))
theorem srt_perm (xs : List Int) : (srt xs).Perm xs := List.mergeSort_perm xs _
theorem srt_pw (xs : List Int) : (srt xs).Pairwise (· ≤ ·) := by
  have := List.pairwise_mergeSort (le := fun a b : Int => decide (a ≤ b)) (fun a b c h k => by simp at *; omega) (fun a b => by simp; omega) xs
  exact this.imp (fun h => by simpa using h)
theorem srt_len (xs : List Int) : (srt xs).length = xs.length := (srt_perm xs).length_eq
theorem srt_uniq {zs xs : List Int} (hp : zs.Perm xs) (h : zs.Pairwise (· ≤ ·)) : zs = srt xs :=
  List.Perm.eq_of_pairwise (le := fun a b : Int => a ≤ b) (fun a b _ _ h1 h2 => by omega) h (srt_pw xs) (hp.trans (srt_perm xs).symm)
theorem SU.srt {zs xs : List Int} (hp : zs.Perm xs) {i : Nat} (h : SU (fun a => a) zs i) (hi : xs.length ≤ i) : zs = srt xs := by
  refine srt_uniq hp (SU.all (w := fun a => a) (fun p q a b h1 h2 => h p q a b h1 ?_))
  have := hp.length_eq
  omega
theorem s131 (a : Int) (A : AHeap) : ACalls Try.prog 131 [I a] A (B false) A := by
  refine acalls hmix Try.func131 (by kernel_rfl) t131 1 rfl (by decide) ?_
  dsimp only [m131]
  simp (maxSteps := 4000000) -implicitDefEqProofs -dsimp (disch := omega) only [↓AW_ops, ↓AW_seq, ↓AW_ret, ↓AOps_nil, ↓AOps_pu, on_some, ↓then_normal, ↓Fin_ret, pval, rd_S, rd_C, put_S, resV, resL, eq_self, List.replicate_succ, List.replicate_zero, List.set_cons_zero, List.set_cons_succ, List.getElem?_cons_zero, List.getElem?_cons_succ, Option.getD_some, Nat.reduceSub, List.cons_append, List.nil_append, bin_neq, decide_false, not_true_eq_false]
  exact gc_same rfl
theorem sLess (a b : Int) (A : AHeap) : ACalls Try.prog 120 [I a, I b] A (B (decide (a < b))) A := by
  refine acalls hmix Try.func120 (by kernel_rfl) t120 2 rfl (by decide) ?_
  dsimp only [m120]
  simp (maxSteps := 4000000) -implicitDefEqProofs -dsimp (disch := omega) only [↓AW_ops, ↓AW_seq, ↓AOps_nil, ↓AOps_pu, ↓AOps_call, on_some, ↓then_normal, pval, rd_S, rd_C, put_S, List.replicate_succ, List.replicate_zero, List.set_cons_zero, List.set_cons_succ, List.getElem?_cons_zero, List.getElem?_cons_succ, Option.getD_some, map_c, map_n, Nat.reduceSub, List.cons_append, List.nil_append]
  refine CallK.of (s131 a A) ?_
  simp (maxSteps := 4000000) -implicitDefEqProofs -dsimp (disch := omega) only [↓AW_ret, ↓AOps_nil, ↓AOps_pu, ↓AOps_guard, on_some, extK_same, guardB_ft, guardB_ff, skipS_some, ↓then_normal, ↓Fin_ret, pval, rd_S, rd_C, put_S, resV, resL, List.replicate_succ, List.replicate_zero, List.set_cons_zero, List.set_cons_succ, List.getElem?_cons_zero, List.getElem?_cons_succ, Option.getD_some, Nat.reduceSub, List.cons_append, List.nil_append, bin_lss, if_false, Bool.false_eq_true]
  exact gc_same rfl
theorem c_ins {xs : List Int} {v : AV} {A H : AHeap} {n : Nat} (h : OL 1 e1 A H n v xs) (hl : xs.length ≤ 1000) : ACalls Try.prog 114 [v, I 0, I xs.length] H (.tuple []) (H.set n (.cells true ((srt xs).flatMap e1))) := by
  refine acalls hmix Try.func114 (by kernel_rfl) t114 3 rfl (by decide) ?_
  dsimp only [m114]
  simp (maxSteps := 4000000) -implicitDefEqProofs -dsimp (disch := omega) only [↓AW_ops, ↓AW_seq, ↓AW_block, ↓AOps_nil, ↓AOps_pu, on_some, ↓then_normal, pval, rd_S, rd_C, put_S, ↓AW_toLoop, List.replicate_succ, List.replicate_zero, List.set_cons_zero, List.set_cons_succ, List.getElem?_cons_zero, List.getElem?_cons_succ, Option.getD_some, Nat.reduceSub, List.cons_append, List.nil_append, bin_add, w64, Int.reduceAdd]
  refine LoopK.by 49 (fun x : Nat × List Int => (1 ≤ x.1 ∧ x.1 ≤ xs.length + 1) ∧ x.2.Perm xs ∧ SU (fun a => a) x.2 x.1) (fun x => [(0, v), (1, I 0), (2, I xs.length), (6, I x.1)]) (fun x => H.set n (.cells true (x.2.flatMap e1))) (fun x => xs.length + 1 - x.1) (1, xs) ⟨by simp only; omega, List.Perm.refl _, SU.one _ _⟩ rfl (by simp [Has, rd_s]) (by simp only; rw [set_same h.ob]) ?_
  rintro ⟨i, zs⟩ ⟨hi, hpz, hz⟩
  simp only at hi hpz hz
  by_cases hlt : i < xs.length
  · have hlt' : (i : Int) < xs.length := by omega
    simp (maxSteps := 4000000) -implicitDefEqProofs -dsimp (disch := omega) only [↓AW_skip, ↓AW_ops, ↓AW_seq, ↓AW_cond, ↓AW_block, ↓AOps_nil, ↓AOps_pu, on_some, condB_t, ↓then_normal, pval, rd_S, put_S, ↓AW_toLoop, mk, List.foldl_cons, List.foldl_nil, List.replicate_succ, List.replicate_zero, List.set_cons_zero, List.set_cons_succ, List.getElem?_cons_zero, List.getElem?_cons_succ, Option.getD_some, bin_lss, decide_true, hlt']
    refine LoopK.by 49 (fun x : Nat × List Int => x.1 ≤ i ∧ IS (fun a => a) xs x.2 i x.1) (fun x => [(0, v), (1, I 0), (2, I xs.length), (6, I i), (7, I x.1)]) (fun x => H.set n (.cells true (x.2.flatMap e1))) (fun x => x.1) (i, zs) ⟨by simp only; omega, IS.start hpz hz⟩ rfl (by simp [Has, rd_s]) rfl ?_
    rintro ⟨j, ws⟩ ⟨hj, hs⟩
    simp only at hj hs
    have hlen := hs.perm.length_eq
    have ho := OL_setAll h ws hlen
    cases j with
    | zero =>
      have hz0 : ¬ ((0 : Nat) : Int) > 0 := by omega
      simp (maxSteps := 4000000) -implicitDefEqProofs -dsimp (disch := omega) only [↓AW_ops, ↓AW_seq, ↓AW_cond, ↓AW_exit, ↓AOps_nil, ↓AOps_pu, ↓AOps_guard, on_some, guardB_ft, skipS_some, condB_f, ↓then_normal, ↓then_exit, ↓inBlock_normal, ↓inBlock_exit, ↓Fin_normal, pval, rd_S, rd_C, put_S, resV, resL, eq_self, mk, List.foldl_cons, List.foldl_nil, List.replicate_succ, List.replicate_zero, List.set_cons_zero, List.set_cons_succ, List.getElem?_cons_zero, List.getElem?_cons_succ, Option.getD_some, List.length_cons, List.length_nil, Nat.reduceAdd, Nat.reduceEqDiff, Nat.zero_add, bin_add, bin_gtr, w64, if_true, if_false, Bool.false_eq_true, decide_false, true_and, reduceCtorEq, Int.reduceLT, Int.ofNat_zero]
      exact ⟨(i + 1, ws), ⟨by simp only; omega, hs.perm, hs.zero⟩, by simp [Has, rd_s], rfl, by simp only; omega⟩
    | succ k =>
      have hk1 : k + 1 < ws.length := by omega
      have hk0 : k < ws.length := by omega
      have hjp : (0 : Int) < ((k + 1 : Nat) : Int) := by omega
      have hjm : ((k + 1 : Nat) : Int) - 1 = (k : Int) := by omega
      obtain ⟨x, hx⟩ : ∃ x, ws[k + 1]? = some x := ⟨_, List.getElem?_eq_getElem hk1⟩
      obtain ⟨y, hy⟩ : ∃ y, ws[k]? = some y := ⟨_, List.getElem?_eq_getElem hk0⟩
      have h1 := ho.st hk1 (I y) y rfl
      rw [List.set_set] at h1
      have ho2 := OL_setAll h (ws.set (k + 1) y) (by simp [hlen])
      have h2 := ho2.st (i := k) (by simp; omega) (I x) x rfl
      rw [List.set_set] at h2
      have hswap := hs.swap (x := x) (y := y) hj hx hy
      have hstop := hs.stop hx hy
      generalize hJ : ((k + 1 : Nat) : Int) = J at *
      have hidx1 : idxA 1 v (.int .i64 J) = some (.ptr (nm v) (of v + (k + 1) * 1)) := by rw [← hJ]; exact ho.ls.idx hk1
      simp (maxSteps := 4000000) -implicitDefEqProofs -dsimp (disch := omega) only [↓AW_ops, ↓AW_seq, ↓AOps_pu, ↓AOps_ld, ↓AOps_call, ↓AOps_guard, on_some, guardB_tt, pval, lval, rd_S, rd_C, put_S, partA, eq_self, mk, List.foldl_cons, List.foldl_nil, List.replicate_succ, List.replicate_zero, List.set_cons_zero, List.set_cons_succ, List.getElem?_cons_zero, List.getElem?_cons_succ, List.drop_zero, List.take_succ_cons, List.take_nil, Option.getD_some, map_c, map_n, List.length_cons, List.length_nil, Nat.reduceLeDiff, Nat.zero_add, bin_sub, bin_gtr, w64, if_true, if_false, Bool.false_eq_true, decide_true, Go.Eng.e1, hjp, hjm, hidx1, ho.ls.ld0 hx 1 false (by decide), ho.ls.idx hk0, ho.ls.ld0 hy 1 false (by decide)]
      refine CallK.of (sLess x y _) ?_
      by_cases hxy : x < y
      · simp (maxSteps := 4000000) -implicitDefEqProofs -dsimp (disch := omega) only [↓AW_skip, ↓AW_ops, ↓AW_seq, ↓AW_cond, ↓AW_block, ↓AOps_nil, ↓AOps_pu, ↓AOps_ld, ↓AOps_ha, on_some, extK_false, extK_same, condB_t, ↓then_normal, ↓inBlock_normal, pval, lval, hval_st, rd_S, rd_C, put_S, putS_none, partA, eq_self, mk, List.foldl_cons, List.foldl_nil, List.replicate_succ, List.replicate_zero, List.set_cons_zero, List.set_cons_succ, List.getElem?_cons_zero, List.getElem?_cons_succ, List.drop_zero, List.take_succ_cons, List.take_nil, Option.getD_some, Option.map_some, List.length_cons, List.length_nil, Nat.reduceAdd, Nat.reduceLeDiff, Nat.zero_add, bin_sub, w64, if_true, if_false, Bool.false_eq_true, decide_true, Go.Eng.e1, true_and, hxy, hjm, hidx1, ho.ls.ld0 hx 1 false (by decide), ho.ls.idx hk0, ho.ls.ld0 hy 1 false (by decide), h1, h2]
        exact ⟨(k, (ws.set (k + 1) y).set k x), ⟨by simp only; omega, hswap hxy⟩, by simp [Has, rd_s], rfl, by simp only; omega⟩
      · simp (maxSteps := 4000000) -implicitDefEqProofs -dsimp (disch := omega) only [↓AW_ops, ↓AW_cond, ↓AW_exit, ↓AOps_nil, ↓AOps_pu, on_some, extK_same, condB_f, ↓then_normal, ↓then_exit, ↓inBlock_normal, ↓inBlock_exit, ↓Fin_normal, pval, rd_S, rd_C, put_S, resV, resL, eq_self, mk, List.foldl_cons, List.foldl_nil, List.replicate_succ, List.replicate_zero, List.set_cons_zero, List.set_cons_succ, List.getElem?_cons_zero, List.getElem?_cons_succ, Option.getD_some, List.length_cons, List.length_nil, Nat.reduceAdd, Nat.reduceEqDiff, Nat.zero_add, bin_add, w64, if_true, if_false, decide_false, true_and, reduceCtorEq, hxy]
        exact ⟨(i + 1, ws), ⟨by simp only; omega, hs.perm, hstop hxy⟩, by simp [Has, rd_s], rfl, by simp only; omega⟩
  · have hlt' : ¬ (i : Int) < xs.length := by omega
    have he := SU.srt hpz hz (by omega)
    simp (maxSteps := 4000000) -implicitDefEqProofs -dsimp (disch := omega) only [↓AW_ops, ↓AW_seq, ↓AW_cond, ↓AW_exit, ↓AOps_nil, ↓AOps_pu, on_some, condB_f, ↓then_normal, ↓then_exit, ↓inBlock_exit, ↓Fin_normal, pval, rd_S, put_S, resV, resL, eq_self, mk, List.foldl_cons, List.foldl_nil, List.replicate_succ, List.replicate_zero, List.set_cons_zero, List.set_cons_succ, List.getElem?_cons_zero, List.getElem?_cons_succ, Option.getD_some, bin_lss, if_true, decide_false, hlt']
    rw [he]
    exact gc_same_all rfl rfl
theorem c_pdq {xs : List Int} {v : AV} {A H : AHeap} {n : Nat} (h : OL 1 e1 A H n v xs) (hl : xs.length ≤ 12) (k : Int) : ACalls Try.prog 110 [v, I 0, I xs.length, I k] H (.tuple []) (H.set n (.cells true ((srt xs).flatMap e1))) := by
  refine acalls hmix Try.func110 (by kernel_rfl) t110 4 rfl (by decide) ?_
  dsimp only [m110]
  simp (maxSteps := 4000000) -implicitDefEqProofs -dsimp (disch := omega) only [↓AW_ops, ↓AW_seq, ↓AW_block, ↓AOps_nil, ↓AOps_pu, on_some, ↓then_normal, pval, rd_C, put_S, ↓AW_toLoop, List.replicate_succ, List.replicate_zero, List.set_cons_zero, List.set_cons_succ, Nat.reduceSub, List.cons_append, List.nil_append]
  refine LoopK.by 134 (fun _ : Unit => True) (fun _ => [(0, v), (1, I 0), (2, I xs.length), (3, I k), (8, B true), (9, B true)]) (fun _ => H) (fun _ => 0) () trivial rfl (by simp [Has, rd_s]) rfl ?_
  rintro _ _
  have h12 : (xs.length : Int) ≤ 12 := by omega
  have h0 : (xs.length : Int) - 0 = xs.length := by omega
  simp (maxSteps := 4000000) -implicitDefEqProofs -dsimp (disch := omega) only [↓AW_ops, ↓AW_seq, ↓AW_cond, ↓AW_block, ↓AOps_nil, ↓AOps_pu, ↓AOps_call, on_some, condB_t, ↓then_normal, pval, rd_S, rd_C, put_S, mk, List.foldl_cons, List.foldl_nil, List.replicate_succ, List.replicate_zero, List.set_cons_zero, List.set_cons_succ, List.getElem?_cons_zero, List.getElem?_cons_succ, Option.getD_some, map_c, map_n, bin_sub, bin_leq, w64, decide_true, h0, h12]
  refine CallK.of (c_ins h (by omega)) ?_
  simp (maxSteps := 4000000) -implicitDefEqProofs -dsimp (disch := omega) only [↓AW_ret, ↓AOps_nil, on_some, extK_false, ↓then_normal, ↓then_ret, ↓inBlock_ret, ↓Fin_ret, resV, resL]
  exact gc_same_all rfl rfl
def isI : Option (AV × AHeap) → Bool
  | some (.int .i64 _, _) => true
  | _ => false
set_option maxRecDepth 100000 in
theorem len_run : (List.range 13).all (fun k => isI (runF tab 300 14 111 [.int .u64 (k : Int)] [])) = true := by kernel_rfl
theorem c_Len {k : Nat} (hk : k ≤ 12) (A : AHeap) : ∃ n : Int, ACalls Try.prog 111 [.int .u64 (k : Int)] A (I n) A := by
  have h := List.all_eq_true.1 len_run k (List.mem_range.2 (by omega))
  cases hr : runF tab 300 14 111 [.int .u64 (k : Int)] [] with
  | none => rw [hr] at h; cases h
  | some p =>
    obtain ⟨v, A'⟩ := p
    rw [hr] at h
    have h2 : ∃ n, v = I n := by
      unfold isI at h
      split at h
      · rename_i m _ e; cases e; exact ⟨m, rfl⟩
      · cases h
    obtain ⟨n, rfl⟩ := h2
    exact ⟨n, (runF_ok hmix tabOK 300 14 111 [.int .u64 (k : Int)] [] _ _ hr).lift (by simp [flat]) rfl A⟩
theorem wu64 {n : Int} (h0 : 0 ≤ n) (h1 : n < 18446744073709551616) : IntKind.u64.wrap n = n := by
  have : (2 : Int) ^ IntKind.u64.bits = 18446744073709551616 := by decide
  unfold IntKind.wrap
  simp only [this, IntKind.signed, Bool.false_and, Bool.false_eq_true, if_false]
  exact Int.emod_eq_of_lt h0 h1
theorem c_Sort {xs : List Int} {v : AV} {A H : AHeap} {n : Nat} (h : OL 1 e1 A H n v xs) (hl : xs.length ≤ 12) : ACalls Try.prog 100 [v] H (.tuple []) (H.set n (.cells true ((srt xs).flatMap e1))) := by
  refine acalls hmix Try.func100 (by kernel_rfl) t100 1 rfl (by decide) ?_
  obtain ⟨k, hk⟩ := c_Len hl H
  have hw := wu64 (n := (xs.length : Int)) (by omega) (by omega)
  dsimp only [m100]
  simp (maxSteps := 4000000) -implicitDefEqProofs -dsimp (disch := omega) only [↓AW_ops, ↓AW_seq, ↓AOps_nil, ↓AOps_pu, ↓AOps_call, on_some, ↓then_normal, pval, rd_S, put_S, List.replicate_succ, List.replicate_zero, List.set_cons_zero, List.set_cons_succ, List.getElem?_cons_zero, List.getElem?_cons_succ, Option.getD_some, map_c, map_n, Nat.reduceSub, List.cons_append, List.nil_append, h.ls.len, hw]
  refine CallK.of hk ?_
  simp (maxSteps := 4000000) -implicitDefEqProofs -dsimp (disch := omega) only [↓AOps_call, extK_same, rd_S, rd_C, put_S, List.replicate_succ, List.replicate_zero, List.set_cons_zero, List.set_cons_succ, List.getElem?_cons_zero, List.getElem?_cons_succ, Option.getD_some, map_c, map_n, Nat.reduceSub, List.cons_append, List.nil_append]
  refine CallK.of (c_pdq h hl k) ?_
  simp (maxSteps := 4000000) -implicitDefEqProofs -dsimp (disch := omega) only [↓AOps_nil, on_some, extK_false, ↓Fin_normal, resV, resL]
  exact gc_same_all rfl rfl
theorem c_SortNil (A : AHeap) : ACalls Try.prog 100 [.nilS] A (.tuple []) A := by
  have h114 : ACalls Try.prog 114 [.nilS, I 0, I 0] A (.tuple []) A := by
    refine acalls hmix Try.func114 (by kernel_rfl) t114 3 rfl (by decide) ?_
    dsimp only [m114]
    simp (maxSteps := 4000000) -implicitDefEqProofs -dsimp (disch := omega) only [↓AW_ops, ↓AW_seq, ↓AW_block, ↓AOps_nil, ↓AOps_pu, on_some, ↓then_normal, pval, rd_S, rd_C, put_S, ↓AW_toLoop, List.replicate_succ, List.replicate_zero, List.set_cons_zero, List.set_cons_succ, List.getElem?_cons_zero, List.getElem?_cons_succ, Option.getD_some, Nat.reduceSub, List.cons_append, List.nil_append, bin_add, w64, Int.reduceAdd]
    refine LoopK.by 49 (fun _ : Unit => True) (fun _ => [(0, .nilS), (1, I 0), (2, I 0), (6, I 1)]) (fun _ => A) (fun _ => 0) () trivial rfl (by simp [Has, rd_s]) rfl ?_
    rintro _ _
    simp (maxSteps := 4000000) -implicitDefEqProofs -dsimp (disch := omega) only [↓AW_ops, ↓AW_seq, ↓AW_cond, ↓AW_exit, ↓AOps_nil, ↓AOps_pu, on_some, condB_f, ↓then_normal, ↓then_exit, ↓inBlock_exit, ↓Fin_normal, pval, rd_S, put_S, resV, resL, eq_self, mk, List.foldl_cons, List.foldl_nil, List.replicate_succ, List.replicate_zero, List.set_cons_zero, List.set_cons_succ, List.getElem?_cons_zero, List.getElem?_cons_succ, Option.getD_some, bin_lss, if_true, decide_false, Int.reduceLT]
    exact gc_same rfl
  have h110 : ∀ k : Int, ACalls Try.prog 110 [.nilS, I 0, I 0, I k] A (.tuple []) A := by
    intro k
    refine acalls hmix Try.func110 (by kernel_rfl) t110 4 rfl (by decide) ?_
    dsimp only [m110]
    simp (maxSteps := 4000000) -implicitDefEqProofs -dsimp (disch := omega) only [↓AW_ops, ↓AW_seq, ↓AW_block, ↓AOps_nil, ↓AOps_pu, on_some, ↓then_normal, pval, rd_C, put_S, ↓AW_toLoop, List.replicate_succ, List.replicate_zero, List.set_cons_zero, List.set_cons_succ, Nat.reduceSub, List.cons_append, List.nil_append]
    refine LoopK.by 134 (fun _ : Unit => True) (fun _ => [(0, .nilS), (1, I 0), (2, I 0), (3, I k), (8, B true), (9, B true)]) (fun _ => A) (fun _ => 0) () trivial rfl (by simp [Has, rd_s]) rfl ?_
    rintro _ _
    simp (maxSteps := 4000000) -implicitDefEqProofs -dsimp (disch := omega) only [↓AW_ops, ↓AW_seq, ↓AW_cond, ↓AW_block, ↓AOps_nil, ↓AOps_pu, ↓AOps_call, on_some, condB_t, ↓then_normal, pval, rd_S, rd_C, put_S, mk, List.foldl_cons, List.foldl_nil, List.replicate_succ, List.replicate_zero, List.set_cons_zero, List.set_cons_succ, List.getElem?_cons_zero, List.getElem?_cons_succ, Option.getD_some, map_c, map_n, bin_sub, bin_leq, w64, decide_true, Int.reduceLE, Int.reduceSub]
    refine CallK.of h114 ?_
    simp (maxSteps := 4000000) -implicitDefEqProofs -dsimp (disch := omega) only [↓AW_ret, ↓AOps_nil, on_some, extK_same, ↓then_normal, ↓then_ret, ↓inBlock_ret, ↓Fin_ret, resV, resL]
    exact gc_same rfl
  refine acalls hmix Try.func100 (by kernel_rfl) t100 1 rfl (by decide) ?_
  obtain ⟨k, hk⟩ := c_Len (k := 0) (by omega) A
  have hw := wu64 (n := 0) (by omega) (by omega)
  dsimp only [m100]
  simp (maxSteps := 4000000) -implicitDefEqProofs -dsimp (disch := omega) only [↓AW_ops, ↓AW_seq, ↓AOps_nil, ↓AOps_pu, ↓AOps_call, on_some, ↓then_normal, pval, rd_S, put_S, List.replicate_succ, List.replicate_zero, List.set_cons_zero, List.set_cons_succ, List.getElem?_cons_zero, List.getElem?_cons_succ, Option.getD_some, map_c, map_n, Nat.reduceSub, List.cons_append, List.nil_append, lenA, hw]
  refine CallK.of hk ?_
  simp (maxSteps := 4000000) -implicitDefEqProofs -dsimp (disch := omega) only [↓AOps_call, extK_same, rd_S, rd_C, put_S, List.replicate_succ, List.replicate_zero, List.set_cons_zero, List.set_cons_succ, List.getElem?_cons_zero, List.getElem?_cons_succ, Option.getD_some, map_c, map_n, Nat.reduceSub, List.cons_append, List.nil_append]
  refine CallK.of (h110 k) ?_
  simp (maxSteps := 4000000) -implicitDefEqProofs -dsimp (disch := omega) only [↓AOps_nil, on_some, extK_same, ↓Fin_normal, resV, resL]
  exact gc_same rfl
/-- A list that the call has made is sorted in place. -/
theorem c_SortAcc {A H : AHeap} {v : AV} {xs : List Int} (h : AccL 1 e1 A H v xs) (hl : xs.length ≤ 12) : ∃ H', ACalls Try.prog 100 [v] H (.tuple []) H' ∧ A <+: H' ∧ L1 H' v (srt xs) ∧ AccL 1 e1 A H' v (srt xs) := by
  by_cases h0 : xs.length = 0
  · have hz : v = .nilS := by
      rcases h.2.2 with ⟨_, h4⟩ | ⟨h3, _⟩
      · exact h4
      · omega
    have hx : xs = [] := List.eq_nil_of_length_eq_zero h0
    subst hz
    subst hx
    have hs : srt [] = [] := by simp [srt]
    rw [hs]
    exact ⟨H, c_SortNil H, h.1, L1_nil _, h⟩
  · obtain ⟨n, ho, hv⟩ := AccL_ol h e1_len (by omega)
    have ho2 := OL_setAll ho (srt xs) (srt_len xs)
    refine ⟨_, c_Sort ho hl, ho2.pre, ho2.ls, ?_⟩
    have := ho2.acc (by rw [srt_len]; omega)
    rw [srt_len] at this
    rw [hv]
    exact this
section
variable {P : Nat} {rs : List Rd} {ks : List Int} {u v : AV} {A : AHeap}
theorem grw_snoc {R : Int → Rd} {L : List Int} {i : Nat} {k : Int} (h : L[i]? = some k) : grw R [] (L.take (i + 1)) = if Cn ((grw R [] (L.take i)).map R) (R k).1 (R k).2.1 then grw R [] (L.take i) else grw R [] (L.take i) ++ [k] := by
  rw [List.take_add_one, h]
  show grw R [] (L.take i ++ [k]) = _
  rw [grw_append]
  rfl
theorem grw_nos {L : List Int} (h : Nos rs L) : Nos rs (grw (rdx rs) [] L) := fun k hk => h k ((grw_sub L).subset hk)
theorem grw_small (hn : Net P rs) {L : List Int} (h : Nos rs L) : (grw (rdx rs) [] L).length + 1 ≤ P := by
  have h1 := grw_len (P := P) (h.inP hn)
  have := hn.p1
  have h2 := comps_pos (P := P) (S := L.map (rdx rs)) (by omega)
  omega
theorem Nos.take {L : List Int} (h : Nos rs L) (i : Nat) : Nos rs (L.take i) := fun k hk => h k (List.mem_of_mem_take hk)
set_option maxHeartbeats 8000000 in
theorem c_grow {L : List Int} (hu : L3 A u rs) (hx : L1 A v L) (hn : Net P rs) (hk : Nos rs L) (hl : L.length ≤ 1000000) : ∃ r H, ACalls Try.prog 61 [.agg [I P, u], v] A r H ∧ A <+: H ∧ L1 H r (srt (grw (rdx rs) [] L)) := by
  refine acallsR hmix Try.func61 (by kernel_rfl) t61 _ 2 rfl (by decide) ?_
  have hP7 := hn.p7
  dsimp only [m61]
  simp (maxSteps := 4000000) -implicitDefEqProofs -dsimp (disch := omega) only [↓AW_ops, ↓AW_seq, ↓AW_block, ↓AOps_nil, ↓AOps_pu, on_some, ↓then_normal, pval, rd_S, rd_C, put_S, ↓AW_toLoop, cells_agg, List.replicate_succ, List.replicate_zero, List.set_cons_zero, List.set_cons_succ, List.getElem?_cons_zero, List.getElem?_cons_succ, Option.getD_some, Nat.reduceSub, List.cons_append, List.nil_append, hx.len]
  refine LoopK.by 43 (fun x : Nat × AV × AHeap => x.1 ≤ L.length ∧ AccL 1 e1 A x.2.2 x.2.1 (grw (rdx rs) [] (L.take x.1))) (fun x => [(2, .agg [I P, u]), (5, x.2.1), (9, v), (10, I L.length), (11, I x.1)]) (fun x => x.2.2) (fun x => L.length - x.1) (0, .nilS, A) ⟨by simp only; omega, by rw [List.take_zero]; exact AccL.nil (List.prefix_refl _)⟩ rfl (by simp [Has, rd_s]) rfl ?_
  rintro ⟨i, y, H⟩ ⟨hi, hac⟩
  simp only at hi hac
  have hxH := hx.mono hac.1
  have huH := hu.mono hac.1
  by_cases hlt : i < L.length
  · obtain ⟨z, hz⟩ : ∃ z, L[i]? = some z := ⟨_, List.getElem?_eq_getElem hlt⟩
    have hlt' : (i : Int) < L.length := by omega
    obtain ⟨k0, k1⟩ := hk z (List.mem_of_getElem? hz)
    obtain ⟨hr, _⟩ := rdx_at k0 k1
    obtain ⟨⟨a0, a1⟩, ⟨b0, b1⟩⟩ := hn.inP k0 k1
    have hsm := grw_small hn (hk.take i)
    have hs := grw_snoc (R := rdx rs) hz
    have hgn := grw_nos (hk.take i)
    generalize hg : grw (rdx rs) [] (L.take i) = xs at *
    simp (maxSteps := 4000000) -implicitDefEqProofs -dsimp (disch := omega) only [↓AW_skip, ↓AW_ops, ↓AW_seq, ↓AW_cond, ↓AW_block, ↓AOps_nil, ↓AOps_pu, ↓AOps_ld, ↓AOps_call, on_some, condB_t, ↓then_normal, pval, lval_ld, rd_S, put_S, chkd, bgot, partA, eq_self, mk, List.foldl_cons, List.foldl_nil, List.replicate_succ, List.replicate_zero, List.set_cons_zero, List.set_cons_succ, List.getElem?_cons_zero, List.getElem?_cons_succ, List.drop_zero, List.take_succ_cons, List.take_nil, Option.getD_some, map_c, map_n, List.length_cons, List.length_nil, Nat.reduceAdd, Nat.reduceLeDiff, Nat.reduceEqDiff, Nat.zero_add, bin_lss, if_true, if_false, Bool.false_eq_true, decide_true, Go.Eng.e1, hlt', hxH.idx hlt, hxH.ld0 hz 1 false (by decide)]
    refine CallK.of (s99 huH (AccL_ls hac e1_len) hn hgn (by omega)) ?_
    have hpm := pre_app H [.mp (mI P (lab (xs.map (rdx rs))))]
    have hm := mp_new H (.mp (mI P (lab (xs.map (rdx rs)))))
    have hacm := hac.mono hpm
    have hum := huH.mono hpm
    generalize H ++ [AObj.mp (mI P (lab (xs.map (rdx rs))))] = H1 at *
    have hri := hum.idxI (k := .i64) k0 (show z < (rs.length : Int) by omega)
    have hla := lkI' hm a0 a1
    have hlb := lkI' hm b0 b1
    by_cases hc : Cn (xs.map (rdx rs)) (rdx rs z).1 (rdx rs z).2.1
    · have hq : lab (xs.map (rdx rs)) (rdx rs z).1 = lab (xs.map (rdx rs)) (rdx rs z).2.1 := (lab_eq_iff a0 b0).2 hc
      rw [if_pos hc] at hs
      simp (maxSteps := 4000000) -implicitDefEqProofs -dsimp (disch := omega) only [↓AW_skip, ↓AW_ops, ↓AW_seq, ↓AW_cond, ↓AOps_nil, ↓AOps_pu, ↓AOps_ld, on_some, extK_false, condB_f, ↓then_normal, ↓inBlock_normal, pval, lval_ld, lval_look, rd_S, rd_C, put_S, chkd, isAdr, bgot, cells_agg, partA, eq_self, mk, List.foldl_cons, List.foldl_nil, List.replicate_succ, List.replicate_zero, List.set_cons_zero, List.set_cons_succ, List.getElem?_cons_zero, List.getElem?_cons_succ, List.drop_zero, List.drop_succ_cons, List.take_zero, List.take_succ_cons, List.take_nil, Option.getD_some, List.length_cons, List.length_nil, Nat.reduceAdd, Nat.reduceLeDiff, Nat.zero_add, Nat.add_zero, bin_add, bin_neq, w64, if_true, if_false, Bool.false_eq_true, decide_false, true_and, not_true_eq_false, hri, hum.ld0 hr 1 false (by decide), hum.ld hr 1 1 false (by decide), e3, hla, hlb, hq]
      exact ⟨(i + 1, y, H1), ⟨hlt, by rw [hs]; exact hacm⟩, by simp [Has, rd_s], rfl, by simp only; omega⟩
    · have hq : ¬ lab (xs.map (rdx rs)) (rdx rs z).1 = lab (xs.map (rdx rs)) (rdx rs z).2.1 := fun e => hc ((lab_eq_iff a0 b0).1 e)
      rw [if_neg hc] at hs
      obtain ⟨v', H2, happ, hacc, _, n, len, rfl, _⟩ := AccL_push2 hacm e1_len (by omega) z (by simp only [lim]; omega)
      simp only [Go.Eng.e1] at happ
      simp (maxSteps := 4000000) -implicitDefEqProofs -dsimp (disch := omega) only [↓AW_ops, ↓AW_seq, ↓AW_cond, ↓AOps_nil, ↓AOps_pu, ↓AOps_ld, ↓AOps_ha, on_some, extK_false, extK_app, condB_t, ↓then_normal, ↓inBlock_normal, pval, lval_ld, lval_look, hval_blds, hval_app, rd_S, rd_C, put_S, chkd, isAdr, bgot, cells_agg, cells_int, splice, partA, fillA, repl, eq_self, mk, List.foldl_cons, List.foldl_nil, List.replicate_succ, List.replicate_zero, List.set_cons_zero, List.set_cons_succ, List.getElem?_cons_zero, List.getElem?_cons_succ, List.drop_zero, List.drop_succ_cons, List.drop_nil, List.take_zero, List.take_succ_cons, List.take_nil, Option.getD_some, map_c, map_n, List.length_cons, List.length_nil, Nat.reduceAdd, Nat.reduceLeDiff, Nat.zero_add, Nat.add_zero, List.nil_append, List.append_nil, bin_add, bin_neq, w64, if_true, if_false, Bool.false_eq_true, decide_true, true_and, and_true, not_false_eq_true, hri, hum.ld0 hr 1 false (by decide), hum.ld hr 1 1 false (by decide), e3, hla, hlb, hq, happ, List.replicate_zero, repl]
      exact ⟨(i + 1, .sl 1 n 0 len false, H2), ⟨hlt, by rw [hs]; exact hacc⟩, by simp [Has, rd_s], rfl, by simp only; omega⟩
  · have hlt' : ¬ ((i : Int) < L.length) := by omega
    rw [List.take_of_length_le (by omega)] at hac
    have hsm := grw_small hn hk
    obtain ⟨H', hcs, hp, hl1, _⟩ := c_SortAcc hac (by omega)
    simp (maxSteps := 4000000) -implicitDefEqProofs -dsimp (disch := omega) only [↓AW_ops, ↓AW_seq, ↓AW_cond, ↓AW_exit, ↓AOps_nil, ↓AOps_pu, ↓AOps_call, on_some, condB_f, ↓then_normal, ↓then_exit, ↓inBlock_exit, pval, rd_S, put_S, eq_self, mk, List.foldl_cons, List.foldl_nil, List.replicate_succ, List.replicate_zero, List.set_cons_zero, List.set_cons_succ, List.getElem?_cons_zero, List.getElem?_cons_succ, Option.getD_some, map_c, map_n, bin_lss, if_true, decide_false, hlt']
    refine CallK.of hcs ?_
    simp (maxSteps := 4000000) -implicitDefEqProofs -dsimp (disch := omega) only [↓AW_ops, ↓AW_seq, ↓AW_ret, ↓AOps_nil, ↓AOps_pu, on_some, extK_false, ↓then_normal, ↓FinR_ret, pval, rd_S, put_S, resV, resL, mk, List.foldl_cons, List.foldl_nil, List.replicate_succ, List.replicate_zero, List.set_cons_zero, List.set_cons_succ, List.getElem?_cons_zero, List.getElem?_cons_succ, Option.getD_some]
    exact ⟨_, _, gc_all, hp, hl1⟩
end
end Go.Proofs.Ytkgfcdpckfhknaa

namespace Go.Proofs.Ytkgfcdpckfhknaa
open Go Go.Eng
def bset (m s : Nat) : List Int := (plc m).filter (fun i => s.testBit i.toNat)
theorem bset_succ (m s : Nat) : bset (m + 1) s = bset m s ++ (if s.testBit m = true then [(m : Int)] else []) := filt_succ _ m
theorem plc_sorted : ∀ m : Nat, (plc m).Pairwise (· < ·)
  | 0 => List.Pairwise.nil
  | m + 1 => by
    rw [plc_succ, List.pairwise_append]
    refine ⟨plc_sorted m, List.pairwise_singleton _ _, fun a ha b hb => ?_⟩
    have h1 := (mem_plc.1 ha).2
    have h2 : b = (m : Int) := by simpa using hb
    omega
theorem bset_okS (m s : Nat) : okS m (bset m s) := by
  refine ⟨fun x hx => ?_, (plc_sorted m).filter _⟩
  have := mem_plc.1 (List.mem_filter.1 hx).1
  omega
theorem okS_split {m : Nat} {l : List Int} (h : okS ((m + 1 : Nat) : Int) l) : okS m l ∨ ∃ l', l = l' ++ [(m : Int)] ∧ okS m l' := by
  by_cases hm : (m : Int) ∈ l
  · right
    obtain ⟨a, b, rfl⟩ := List.append_of_mem hm
    have hp := List.pairwise_append.1 h.2
    have hb : b = [] := by
      cases b with
      | nil => rfl
      | cons y b =>
        have h1 := (List.pairwise_cons.1 hp.2.1).1 y (by simp)
        have h2 := h.1 y (by simp)
        omega
    subst hb
    refine ⟨a, rfl, fun x hx => ?_, hp.1⟩
    have h1 := hp.2.2 x hx m (by simp)
    have h2 := h.1 x (by simp [hx])
    omega
  · left
    refine ⟨fun x hx => ?_, h.2⟩
    have h2 := h.1 x hx
    have h3 : x ≠ (m : Int) := fun e => hm (e ▸ hx)
    omega
theorem bset_congr {m s t : Nat} (h : ∀ i, i < m → s.testBit i = t.testBit i) : bset m s = bset m t := by
  unfold bset
  refine List.filter_congr (fun x hx => ?_)
  have := mem_plc.1 hx
  rw [h x.toNat (by omega)]
theorem bset_ex : ∀ {m : Nat} {l : List Int}, okS m l → ∃ s, s < 2 ^ m ∧ bset m s = l
  | 0, l, h => by
    refine ⟨0, by simp, ?_⟩
    cases l with
    | nil => rfl
    | cons x l => have := h.1 x (by simp); omega
  | m + 1, l, h => by
    have e2 : 2 ^ (m + 1) = 2 ^ m + 2 ^ m := by rw [Nat.pow_succ]; omega
    rcases okS_split h with h1 | ⟨l', rfl, h1⟩
    · obtain ⟨s, hs, rfl⟩ := bset_ex h1
      refine ⟨s, by omega, ?_⟩
      rw [bset_succ, Nat.testBit_lt_two_pow hs]
      simp
    · obtain ⟨s, hs, rfl⟩ := bset_ex h1
      refine ⟨2 ^ m + s, by omega, ?_⟩
      rw [bset_succ, Nat.testBit_two_pow_add_eq, Nat.testBit_lt_two_pow hs, bset_congr (t := s) (fun i hi => Nat.testBit_two_pow_add_gt hi s)]
      simp
/-- How many bits of a number are 1. -/
def popc (n : Nat) : Nat := if h : n = 0 then 0 else n % 2 + popc (n / 2)
termination_by n
theorem popc_0 : popc 0 = 0 := by rw [popc]; simp
theorem popc_pos {n : Nat} (h : n ≠ 0) : popc n = n % 2 + popc (n / 2) := by rw [popc, dif_neg h]
theorem filter_len_map (f : Nat → Bool) (m : Nat) : ((plc m).filter (fun i => f i.toNat)).length = ((List.range m).filter f).length := by
  unfold plc
  rw [List.filter_map, List.length_map]
  rfl
theorem bset_len : ∀ (m s : Nat), s < 2 ^ m → (bset m s).length = popc s
  | 0, s, h => by
    have : s = 0 := by simpa using h
    subst this
    rw [popc_0]; rfl
  | m + 1, s, h => by
    have e2 : 2 ^ (m + 1) = 2 ^ m * 2 := Nat.pow_succ 2 m
    have ih := bset_len m (s / 2) (by omega)
    unfold bset at *
    rw [filter_len_map (fun i => (s / 2).testBit i)] at ih
    rw [filter_len_map (fun i => s.testBit i), List.range_succ_eq_map, List.filter_cons]
    have e3 : ((List.range m).map Nat.succ).filter (fun i => s.testBit i) = ((List.range m).filter (fun i => (s / 2).testBit i)).map Nat.succ := by
      rw [List.filter_map]
      congr 1
      refine List.filter_congr (fun i _ => ?_)
      exact Nat.testBit_succ s i
    by_cases h0 : s = 0
    · subst h0
      rw [e3]
      simp only [Nat.zero_testBit, Bool.false_eq_true, if_false, List.length_map]
      rw [popc_0]
      simp
    · rw [popc_pos h0, e3, ← ih, Nat.testBit_zero]
      by_cases h1 : s % 2 = 1
      · rw [if_pos (by simpa using h1)]
        simp only [List.length_cons, List.length_map]
        omega
      · rw [if_neg (by simpa using h1)]
        simp only [List.length_map]
        omega
def subs (m : Nat) : List (List Int) := (List.range (2 ^ m)).map (bset m)
/-- All trees of a net. -/
noncomputable def trees (P : Nat) (rs : List Rd) : List (List Int) := (subs rs.length).filter (fun l => decide (Tree P (rdx rs) l))
theorem mem_subs {m : Nat} {l : List Int} : l ∈ subs m ↔ okS m l := by
  unfold subs
  rw [List.mem_map]
  constructor
  · rintro ⟨s, _, rfl⟩; exact bset_okS m s
  · intro h
    obtain ⟨s, hs, rfl⟩ := bset_ex h
    exact ⟨s, List.mem_range.2 hs, rfl⟩
theorem mem_trees {P : Nat} {rs : List Rd} {l : List Int} : l ∈ trees P rs ↔ okS rs.length l ∧ Tree P (rdx rs) l := by
  unfold trees
  rw [List.mem_filter, mem_subs, decide_eq_true_eq]
/-- One more: it is kept if none is cheaper; the dearer ones are thrown away. -/
def chst (c : List Int → Int) (out : List (List Int)) (l : List Int) : List (List Int) :=
  match out with
  | [] => [l]
  | x :: r => if c l < c x then [l] else if c l = c x then (x :: r) ++ [l] else x :: r
def chp (c : List Int → Int) (xs : List (List Int)) : List (List Int) := xs.foldl (chst c) []
theorem chp_snoc (c : List Int → Int) (xs : List (List Int)) (l : List Int) : chp c (xs ++ [l]) = chst c (chp c xs) l := by
  unfold chp
  rw [List.foldl_append]
  rfl
theorem chp_spec (c : List Int → Int) : ∀ xs : List (List Int), (∀ l, l ∈ chp c xs ↔ l ∈ xs ∧ ∀ y ∈ xs, c l ≤ c y) ∧ (xs ≠ [] → chp c xs ≠ []) := by
  intro xs
  have key : ∀ n (xs : List (List Int)), xs.length = n → (∀ l, l ∈ chp c xs ↔ l ∈ xs ∧ ∀ y ∈ xs, c l ≤ c y) ∧ (xs ≠ [] → chp c xs ≠ []) := by
    intro n
    induction n with
    | zero =>
      intro xs h
      have := List.eq_nil_of_length_eq_zero h
      subst this
      exact ⟨fun l => by simp [chp], fun h => absurd rfl h⟩
    | succ n ih =>
      intro xs h
      obtain ⟨ys, z, rfl⟩ : ∃ ys z, xs = ys ++ [z] := by
        rcases List.eq_nil_or_concat xs with e | ⟨ys, z, e⟩
        · subst e; simp at h
        · exact ⟨ys, z, by rw [e, List.concat_eq_append]⟩
      obtain ⟨h1, h2⟩ := ih ys (by simpa using h)
      rw [chp_snoc]
      unfold chst
      cases hc : chp c ys with
      | nil =>
        have hy : ys = [] := Classical.byContradiction (fun hn => h2 hn hc)
        subst hy
        simp
      | cons x r =>
        have hx : x ∈ chp c ys := by rw [hc]; simp
        have hx2 := (h1 x).1 hx
        simp only
        by_cases g1 : c z < c x
        · rw [if_pos g1]
          refine ⟨fun l => ?_, fun _ => by simp⟩
          rw [List.mem_singleton]
          constructor
          · rintro rfl
            refine ⟨by simp, fun y hy => ?_⟩
            rcases List.mem_append.1 hy with hy | hy
            · have := hx2.2 y hy; omega
            · have : y = l := by simpa using hy
              rw [this]; exact Int.le_refl _
          · rintro ⟨hl, hm⟩
            rcases List.mem_append.1 hl with hl | hl
            · have := hm z (by simp)
              have := hx2.2 l hl
              omega
            · simpa using hl
        · rw [if_neg g1]
          by_cases g2 : c z = c x
          · rw [if_pos g2]
            refine ⟨fun l => ?_, fun _ => by simp⟩
            rw [← hc, List.mem_append, List.mem_singleton, h1, List.mem_append, List.mem_singleton]
            constructor
            · rintro (⟨hl, hm⟩ | rfl)
              · refine ⟨.inl hl, fun y hy => ?_⟩
                rcases List.mem_append.1 hy with hy | hy
                · exact hm y hy
                · have e : y = z := by simpa using hy
                  rw [e, g2]
                  exact hm x hx2.1
              · refine ⟨.inr rfl, fun y hy => ?_⟩
                rcases List.mem_append.1 hy with hy | hy
                · have := hx2.2 y hy; omega
                · have e : y = l := by simpa using hy
                  rw [e]; exact Int.le_refl _
            · rintro ⟨hl, hm⟩
              rcases hl with hl | rfl
              · exact .inl ⟨hl, fun y hy => hm y (by simp [hy])⟩
              · exact .inr rfl
          · rw [if_neg g2]
            refine ⟨fun l => ?_, fun _ => by simp⟩
            rw [← hc, h1, List.mem_append, List.mem_singleton]
            constructor
            · rintro ⟨hl, hm⟩
              refine ⟨.inl hl, fun y hy => ?_⟩
              rcases List.mem_append.1 hy with hy | hy
              · exact hm y hy
              · have e : y = z := by simpa using hy
                rw [e]
                have := hm x hx2.1
                omega
            · rintro ⟨hl, hm⟩
              rcases hl with hl | rfl
              · exact ⟨hl, fun y hy => hm y (by simp [hy])⟩
              · have := hm x (by simp [hx2.1])
                omega
  exact key xs.length xs rfl
/-- All cheapest trees. -/
noncomputable def chl (P : Nat) (rs : List Rd) : List (List Int) := chp (cst (wct rs)) (trees P rs)
theorem mem_chl {P : Nat} {rs : List Rd} {l : List Int} : l ∈ chl P rs ↔ l ∈ trees P rs ∧ ∀ y ∈ trees P rs, cst (wct rs) l ≤ cst (wct rs) y := (chp_spec _ _).1 l
theorem chl_nil {P : Nat} {rs : List Rd} (h : trees P rs = []) : chl P rs = [] := by unfold chl; rw [h]; rfl
section
variable {P : Nat} {rs : List Rd}
/-- One order of the roads. -/
def ordL (rs : List Rd) : List Int := (nums rs).mergeSort (fun a b => decide (wct rs a ≤ wct rs b))
theorem ordL_ord (rs : List Rd) : Ord rs (ordL rs) := by
  refine ⟨List.mergeSort_perm _ _, ?_⟩
  have := List.pairwise_mergeSort (le := fun a b : Int => decide (wct rs a ≤ wct rs b)) (fun a b c h k => by simp at *; omega) (fun a b => by simp; omega) (nums rs)
  exact this.imp (fun h => by simpa using h)
theorem okS_nos {l : List Int} (h : okS rs.length l) : Nos rs l := fun k hk => by have := h.1 k hk; omega
theorem okS_nodup {b : Int} {l : List Int} (h : okS b l) : l.Nodup := h.2.imp (fun hh e => by omega)
theorem srt_okS {l : List Int} (hn : l.Nodup) (h : Nos rs l) : okS rs.length (srt l) := by
  refine ⟨fun x hx => by have := h x ((srt_perm l).mem_iff.1 hx); omega, ?_⟩
  have h1 := srt_pw l
  have h2 : (srt l).Nodup := (srt_perm l).nodup_iff.2 hn
  rw [List.nodup_iff_pairwise_ne] at h2
  exact (h1.and h2).imp (fun hh => by have := hh.1; have := hh.2; omega)
theorem Ord.wb {L : List Int} (h : Ord rs L) (hn : Net P rs) : ∀ k ∈ L, 0 ≤ wct rs k ∧ wct rs k ≤ (99 : Nat) := fun k hk => hn.wb (h.nos k hk).1 (h.nos k hk).2
theorem comps_ord {L M : List Int} (h : ∀ k, k ∈ L ↔ k ∈ M) : comps P (L.map (rdx rs)) = comps P (M.map (rdx rs)) := comps_mem (fun e => by
  rw [List.mem_map, List.mem_map]
  constructor
  · rintro ⟨k, hk, rfl⟩; exact ⟨k, (h k).1 hk, rfl⟩
  · rintro ⟨k, hk, rfl⟩; exact ⟨k, (h k).2 hk, rfl⟩)
/-- What the cheapest trees cost. -/
noncomputable def best (rs : List Rd) : Int := cst (wct rs) (grw (rdx rs) [] (ordL rs))
theorem best_of {L : List Int} (hn : Net P rs) (h : Ord rs L) : cst (wct rs) (grw (rdx rs) [] L) = best rs := by
  have h0 := ordL_ord rs
  have hL : ∀ k, k ∈ L ↔ k ∈ ordL rs := fun k => by rw [h.mem, h0.mem]
  have l1 := grw_len (P := P) (h.nos.inP hn)
  have l2 := grw_len (P := P) (h0.nos.inP hn)
  rw [comps_ord hL] at l1
  refine Int.le_antisymm ?_ ?_
  · exact grw_opt (M := 99) (h.nos.inP hn) h.s (h.wb hn) (fun k hk => (hL k).2 ((grw_sub _).subset hk)) (grw_cn (h0.nos.inP hn)).2 (by omega)
  · exact grw_opt (M := 99) (h0.nos.inP hn) h0.s (h0.wb hn) (fun k hk => (hL k).1 ((grw_sub _).subset hk)) (grw_cn (h.nos.inP hn)).2 (by omega)
theorem tree_best {T : List Int} (hn : Net P rs) (hT : Nos rs T) (h : Tree P (rdx rs) T) : best rs ≤ cst (wct rs) T := by
  have h0 := ordL_ord rs
  have hsub : ∀ k ∈ T, k ∈ ordL rs := fun k hk => h0.mem.2 (hT k hk)
  refine grw_opt (M := 99) (h0.nos.inP hn) h0.s (h0.wb hn) hsub h.ind ?_
  have hP1 := hn.p1
  have := (grw_tree (h0.nos.inP hn) (by omega)).2 (tree_all hsub h)
  have := this.1
  have := h.1
  omega
/-- All places can be joined. -/
def Jbl (P : Nat) (rs : List Rd) : Prop := comps P ((nums rs).map (rdx rs)) = 1
theorem jbl_of {L : List Int} (h : Ord rs L) : comps P (L.map (rdx rs)) = 1 ↔ Jbl P rs := by
  unfold Jbl
  rw [comps_ord (L := L) (M := nums rs) (fun k => by rw [h.mem, mem_plc]; omega)]
theorem jbl_grw {L : List Int} (hn : Net P rs) (h : Ord rs L) : Tree P (rdx rs) (srt (grw (rdx rs) [] L)) ↔ Jbl P rs := by
  have hP1 := hn.p1
  rw [← jbl_of h, ← grw_tree (h.nos.inP hn) (by omega)]
  exact ⟨fun k => k.perm (srt_perm _).symm, fun k => k.perm (srt_perm _)⟩
theorem jbl_trees (hn : Net P rs) : Jbl P rs ↔ trees P rs ≠ [] := by
  have h0 := ordL_ord rs
  constructor
  · intro h
    have hm : srt (grw (rdx rs) [] (ordL rs)) ∈ trees P rs := by
      rw [mem_trees]
      exact ⟨srt_okS (h0.nodup.sublist (grw_sub _)) (grw_nos h0.nos), (jbl_grw hn h0).2 h⟩
    intro e
    rw [e] at hm
    cases hm
  · intro h
    obtain ⟨T, hT⟩ := List.exists_mem_of_ne_nil _ h
    rw [mem_trees] at hT
    rw [← jbl_of h0]
    exact tree_all (fun k hk => h0.mem.2 (okS_nos hT.1 k hk)) hT.2
/-- A cheapest tree. -/
theorem chl_best (hn : Net P rs) {T : List Int} (hT : T ∈ trees P rs) : T ∈ chl P rs ↔ cst (wct rs) T = best rs := by
  have h0 := ordL_ord rs
  have hT2 := mem_trees.1 hT
  have hj : Jbl P rs := (jbl_trees hn).2 (fun e => by rw [e] at hT; cases hT)
  rw [mem_chl]
  constructor
  · rintro ⟨_, h⟩
    refine Int.le_antisymm ?_ (tree_best hn (okS_nos hT2.1) hT2.2)
    have hm : srt (grw (rdx rs) [] (ordL rs)) ∈ trees P rs := by
      rw [mem_trees]
      exact ⟨srt_okS (h0.nodup.sublist (grw_sub _)) (grw_nos h0.nos), (jbl_grw hn h0).2 hj⟩
    have := h _ hm
    rw [cst_perm (srt_perm _)] at this
    exact this
  · intro h
    refine ⟨hT, fun y hy => ?_⟩
    have hy2 := mem_trees.1 hy
    rw [h]
    exact tree_best hn (okS_nos hy2.1) hy2.2
end
end Go.Proofs.Ytkgfcdpckfhknaa

namespace Go.Proofs.Ytkgfcdpckfhknaa
open Go Go.Eng
section
variable {P : Nat} {rs : List Rd} {a b : Int}
/-- Roads of a list up to a cost join two places. -/
def cnT (rs : List Rd) (M : List Int) (t a b : Int) : Prop := Cn ((upTo (wct rs) M t).map (rdx rs)) a b
noncomputable instance cnTDec (rs : List Rd) (M : List Int) (t a b : Int) : Decidable (cnT rs M t a b) := Classical.propDecidable _
/-- The smallest cost up to which roads of a list join two places. -/
noncomputable def bt (rs : List Rd) (M : List Int) (a b : Int) : Option Int := if a = b then some 0 else ((List.range 100).find? (fun c : Nat => decide (cnT rs M (c : Int) a b))).map Int.ofNat
end
end Go.Proofs.Ytkgfcdpckfhknaa

namespace Go.Proofs.Ytkgfcdpckfhknaa
open Go Go.Eng
theorem shl_one {k : IntKind} {m : Nat} (h : m ≤ 14) : binI .shl (I 1) (.int k (m : Int)) = some (I ((2 ^ m : Nat) : Int)) := by
  have hp : 2 ^ m ≤ 2 ^ 14 := Nat.pow_le_pow_right (by omega) h
  have hp2 : (2 : Nat) ^ 14 = 16384 := rfl
  have hc : ((2 ^ m : Nat) : Int) = (2 : Int) ^ m := Int.natCast_pow 2 m
  have hz : (0 : Int) ≤ ((2 ^ m : Nat) : Int) := Int.natCast_nonneg _
  show (if (m : Int) < 0 then none else some (AV.int .i64 (IntKind.i64.wrap (1 * 2 ^ (min (m : Int).toNat IntKind.i64.bits))))) = _
  rw [if_neg (by omega), Int.toNat_natCast, show IntKind.i64.bits = 64 from rfl, Nat.min_eq_left (by omega), Int.one_mul, ← hc, w64 _ (by omega) (by omega)]
theorem shr_by {k : IntKind} {s j : Nat} (h : j ≤ 14) : binI .shr (I s) (.int k (j : Int)) = some (I ((s / 2 ^ j : Nat) : Int)) := by
  have hc : ((2 ^ j : Nat) : Int) = (2 : Int) ^ j := Int.natCast_pow 2 j
  have hz : (0 : Int) ≤ ((2 ^ j : Nat) : Int) := Int.natCast_nonneg _
  show (if (j : Int) < 0 then none else some (AV.int .i64 ((s : Int).fdiv (2 ^ (min (j : Int).toNat IntKind.i64.bits))))) = _
  rw [if_neg (by omega), Int.toNat_natCast, show IntKind.i64.bits = 64 from rfl, Nat.min_eq_left (by omega), ← hc, Int.fdiv_eq_ediv_of_nonneg _ (by omega), ← Int.natCast_ediv]
theorem and_one {n : Nat} (h : n ≤ 16384) : binI .and (I n) (I 1) = some (I ((n % 2 : Nat) : Int)) := by
  have e1 : (BitVec.ofInt 64 ((n : Nat) : Int) &&& BitVec.ofInt 64 1).toNat = n % 2 := by
    have h1 : BitVec.ofInt 64 ((n : Nat) : Int) = BitVec.ofNat 64 n := BitVec.ofInt_natCast 64 n
    have h2 : BitVec.ofInt 64 (1 : Int) = BitVec.ofNat 64 1 := BitVec.ofInt_natCast 64 1
    rw [h1, h2, BitVec.toNat_and, BitVec.toNat_ofNat, BitVec.toNat_ofNat]
    have h3 : n % 2 ^ 64 = n := Nat.mod_eq_of_lt (by omega)
    have h4 : 1 % 2 ^ 64 = 1 := rfl
    rw [h3, h4, Nat.and_one_is_mod]
  show some (AV.int .i64 (IntKind.i64.wrap (((BitVec.ofInt 64 ((n : Nat) : Int) &&& BitVec.ofInt 64 1).toNat : Nat) : Int))) = _
  rw [e1, w64 _ (by omega) (by omega)]
theorem bit_eq (s j : Nat) : (((s / 2 ^ j) % 2 : Nat) : Int) = 1 ↔ s.testBit j = true := by
  rw [Nat.testBit_eq_decide_div_mod_eq, decide_eq_true_eq]
  omega
theorem Ls.pos {α : Type} {es : Nat} {e : α → List AV} {A : AHeap} {v : AV} {xs : List α} (h : Ls es e A v xs) (h0 : 0 < xs.length) : 0 < A.length := by
  rcases h.inv with ⟨_, rfl⟩ | ⟨n, off, full, rw, l, _, h1, _, _⟩
  · simp at h0
  · have := (List.getElem?_eq_some_iff.1 h1).1
    omega
section
variable {P : Nat} {rs : List Rd} {ks : List Int} {u v : AV} {A : AHeap}
theorem s104 {n : Nat} (hn : n ≤ 16384) : ACalls Try.prog 104 [I n] A (I (popc n)) A := by
  refine acalls hmix Try.func104 (by kernel_rfl) t104 1 rfl (by decide) ?_
  dsimp only [m104]
  simp (maxSteps := 4000000) -implicitDefEqProofs -dsimp (disch := omega) only [↓AW_ops, ↓AW_seq, ↓AW_block, ↓AOps_nil, ↓AOps_pu, on_some, ↓then_normal, pval, rd_C, put_S, ↓AW_toLoop, List.replicate_succ, List.replicate_zero, List.set_cons_zero, List.set_cons_succ, Nat.reduceSub, List.cons_append, List.nil_append]
  refine LoopK.by 13 (fun x : Nat × Nat => x.1 ≤ 16384 ∧ x.2 + x.1 ≤ 32768 ∧ x.2 + popc x.1 = popc n) (fun x => [(0, I x.1), (3, I x.2)]) (fun _ => A) (fun x => x.1) (n, 0) ⟨hn, by simp only; omega, by simp⟩ rfl (by simp [Has, rd_s]) rfl ?_
  rintro ⟨k, o⟩ ⟨hk, hko, he⟩
  simp only at hk hko he
  by_cases h0 : k = 0
  · subst h0
    rw [popc_0] at he
    simp (maxSteps := 4000000) -implicitDefEqProofs -dsimp (disch := omega) only [↓AW_ops, ↓AW_seq, ↓AW_cond, ↓AW_exit, ↓AW_ret, ↓AOps_nil, ↓AOps_pu, on_some, condB_f, ↓then_normal, ↓then_exit, ↓inBlock_exit, ↓Fin_ret, pval, rd_S, rd_C, put_S, resV, resL, eq_self, mk, List.foldl_cons, List.foldl_nil, List.replicate_succ, List.replicate_zero, List.set_cons_zero, List.set_cons_succ, List.getElem?_cons_zero, List.getElem?_cons_succ, Option.getD_some, bin_gtr, if_true, decide_false, Int.reduceLT, c0]
    exact gc_same (by rw [← he]; simp)
  · have h0' : (0 : Int) < (k : Int) := by omega
    have e1 : (k : Int).tmod 2 = ((k % 2 : Nat) : Int) := by rw [Int.tmod_eq_emod_of_nonneg (by omega)]; omega
    have e2 : (k : Int).tdiv 2 = ((k / 2 : Nat) : Int) := by rw [Int.tdiv_eq_ediv_of_nonneg (by omega)]; omega
    have e3 : (o : Int) + ((k % 2 : Nat) : Int) = ((o + k % 2 : Nat) : Int) := by omega
    simp (maxSteps := 4000000) -implicitDefEqProofs -dsimp (disch := omega) only [↓AW_skip, ↓AW_ops, ↓AW_seq, ↓AW_cond, ↓AW_block, ↓AOps_nil, ↓AOps_pu, on_some, condB_t, ↓then_normal, ↓inBlock_normal, pval, rd_S, rd_C, put_S, eq_self, mk, List.foldl_cons, List.foldl_nil, List.replicate_succ, List.replicate_zero, List.set_cons_zero, List.set_cons_succ, List.getElem?_cons_zero, List.getElem?_cons_succ, Option.getD_some, List.length_cons, List.length_nil, Nat.reduceAdd, Nat.zero_add, bin_add, bin_quo, bin_rem, bin_gtr, w64, if_false, decide_true, true_and, Int.reduceEq, h0', e1, e2, e3]
    rw [popc_pos h0] at he
    refine ⟨(k / 2, o + k % 2), ⟨by simp only; omega, by simp only; omega, by simp only; omega⟩, by simp [Has, rd_s], by simp only; omega⟩
/-- The bits up to a number of a set. -/
theorem bset_step (j s : Nat) : (s.testBit j = true → bset (j + 1) s = bset j s ++ [(j : Int)]) ∧ (s.testBit j = false → bset (j + 1) s = bset j s) := by
  constructor
  · intro h; rw [bset_succ, if_pos h]
  · intro h; rw [bset_succ, if_neg (by rw [h]; simp), List.append_nil]
theorem bset_le (j s : Nat) : (bset j s).length ≤ j := filt_len _ j
theorem bset_nos {j : Nat} (s : Nat) (h : j ≤ rs.length) : Nos rs (bset j s) := fun k hk => by have := (bset_okS j s).1 k hk; omega
/-- A list that the call has made, as a row. -/
theorem row_of {A1 H G : AHeap} {y z : AV} {ws : List (AV × List Int)} {xs : List Int} (hnl : NL A1 H y ws) (hac : AccL 1 e1 H G z xs) (hA1 : xs = [] ∨ 0 < A1.length) (hl : ws.length + 1 ≤ lim) : z.cells? = some [z] ∧
    ∃ v' H2, appA 1 (G ++ [.cells true [z]]) y (.sl 1 G.length 0 1 true) = some (v', H2) ∧ NL A1 H2 v' (ws ++ [(z, xs)]) := by
  rcases hac.2.2 with ⟨h3, h4⟩ | ⟨h3, n, h4, h5, h6⟩
  · have hx : xs = [] := List.eq_nil_of_length_eq_zero h3
    subst hx
    rw [h4]
    refine ⟨rfl, ?_⟩
    exact (hnl.mono hac.1).push (.nilS, []) (.inl ⟨rfl, rfl, trivial⟩) hl
  · have hpos : 0 < A1.length := by
      rcases hA1 with e | e
      · rw [e] at h3; simp at h3
      · exact e
    refine ⟨by rw [h4]; rfl, ?_⟩
    exact (hnl.mono hac.1).push (z, xs) (.inr ⟨n, false, [], h4, Nat.le_trans hnl.acc.1.length_le h5, by rw [List.append_nil]; exact h6, nm_ne_nil hnl h5 hpos, fun y hy => (hnl.lt.1 y hy).imp id (fun h => by omega)⟩) hl
set_option maxHeartbeats 8000000 in
theorem c_Trees (hu : L3 A u rs) (hn : Net P rs) : ∃ r H, ACalls Try.prog 65 [.agg [I P, u]] A r H ∧ A <+: H ∧ ∃ ws, NL A H r ws ∧ lists ws = trees P rs := by
  refine acallsR hmix Try.func65 (by kernel_rfl) t65 _ 1 rfl (by decide) ?_
  have hP7 := hn.p7
  have hP1 := hn.p1
  have hl14 := hn.l
  have hshl := shl_one (k := .u64) hl14
  have hw : ∀ j : Nat, j ≤ 14 → IntKind.u64.wrap (j : Int) = (j : Int) := fun j hj => wu64 (by omega) (by omega)
  have hwl := hw rs.length hl14
  have hpw : 2 ^ rs.length ≤ 2 ^ 14 := Nat.pow_le_pow_right (by omega) hl14
  have hp2 : (2 : Nat) ^ 14 = 16384 := rfl
  unfold trees subs
  generalize hN : 2 ^ rs.length = N at *
  dsimp only [m65]
  simp (maxSteps := 4000000) -implicitDefEqProofs -dsimp (disch := omega) only [↓AW_ops, ↓AW_seq, ↓AW_block, ↓AOps_nil, ↓AOps_pu, on_some, ↓then_normal, pval, rd_S, rd_C, put_S, ↓AW_toLoop, cells_agg, List.replicate_succ, List.replicate_zero, List.set_cons_zero, List.set_cons_succ, List.getElem?_cons_zero, Option.getD_some, Nat.reduceSub, List.cons_append, List.nil_append]
  refine LoopK.by 47 (fun x : Nat × AV × AHeap × List (AV × List Int) => x.1 ≤ N ∧ NL A x.2.2.1 x.2.1 x.2.2.2 ∧ lists x.2.2.2 = ((List.range x.1).map (bset rs.length)).filter (fun l => decide (Tree P (rdx rs) l)))
    (fun z => [(1, .agg [I P, u]), (3, z.2.1), (4, I z.1)]) (fun z => z.2.2.1) (fun z => N - z.1) (0, .nilS, A, []) ⟨by simp only; omega, NL.nil (List.prefix_refl _), rfl⟩ rfl (by simp [Has, rd_s]) rfl ?_
  rintro ⟨s, y, H, ws⟩ ⟨hs, hnl, hli⟩
  simp only at hs hnl hli
  have huH := hu.mono hnl.acc.1
  by_cases hlt : s < N
  · have hlt' : (s : Int) < (N : Int) := by omega
    have hlen := bset_len rs.length s (by rw [hN]; exact hlt)
    have next : ((List.range (s + 1)).map (bset rs.length)).filter (fun l => decide (Tree P (rdx rs) l)) = ((List.range s).map (bset rs.length)).filter (fun l => decide (Tree P (rdx rs) l)) ++ (if Tree P (rdx rs) (bset rs.length s) then [bset rs.length s] else []) := by
      rw [List.range_succ, List.map_append, List.filter_append]
      congr 1
      by_cases ht : Tree P (rdx rs) (bset rs.length s)
      · rw [if_pos ht]; simp [ht]
      · rw [if_neg ht]; simp [ht]
    simp (maxSteps := 4000000) -implicitDefEqProofs -dsimp (disch := omega) only [↓AW_skip, ↓AW_ops, ↓AW_seq, ↓AW_cond, ↓AW_block, ↓AOps_nil, ↓AOps_pu, ↓AOps_call, on_some, condB_t, ↓then_normal, pval, rd_S, rd_C, put_S, chkd, isAdr, bgot, cells_agg, partA, eq_self, mk, List.foldl_cons, List.foldl_nil, List.replicate_succ, List.replicate_zero, List.set_cons_zero, List.set_cons_succ, List.getElem?_cons_zero, List.getElem?_cons_succ, List.drop_zero, List.drop_succ_cons, List.take_succ_cons, List.take_nil, Option.getD_some, map_c, map_n, List.length_cons, List.length_nil, Nat.reduceAdd, Nat.reduceLeDiff, Nat.zero_add, bin_lss, if_true, if_false, Bool.false_eq_true, decide_true, hwl, hshl, hlt', huH.len]
    refine CallK.of (s104 (by omega)) ?_
    by_cases hb : (popc s : Int) = P - 1
    case neg =>
      simp (maxSteps := 4000000) -implicitDefEqProofs -dsimp (disch := omega) only [↓AW_ops, ↓AW_seq, ↓AW_cond, ↓AW_exit, ↓AW_ret, ↓AOps_nil, ↓AOps_pu, on_some, extK_same, condB_t, ↓then_normal, ↓then_exit, ↓inBlock_exit, ↓FinR_ret, pval, rd_S, rd_C, put_S, resV, resL, chkd, isAdr, bgot, cells_agg, partA, eq_self, mk, List.foldl_cons, List.foldl_nil, List.replicate_succ, List.replicate_zero, List.set_cons_zero, List.set_cons_succ, List.getElem?_cons_zero, List.getElem?_cons_succ, List.drop_zero, List.take_zero, List.take_succ_cons, Option.getD_some, List.length_cons, List.length_nil, Nat.reduceAdd, Nat.reduceLeDiff, Nat.zero_add, bin_add, bin_sub, bin_neq, w64, if_true, if_false, Bool.false_eq_true, decide_true, true_and, reduceCtorEq, not_false_eq_true, hb]
      refine ⟨(s + 1, y, H, ws), ⟨hlt, hnl, ?_⟩, by simp [Has, rd_s], rfl, by simp only; omega⟩
      rw [next, if_neg (fun ht => hb (by have := ht.1; omega)), List.append_nil]
      exact hli
    simp (maxSteps := 4000000) -implicitDefEqProofs -dsimp (disch := omega) only [↓AW_skip, ↓AW_ops, ↓AW_seq, ↓AW_cond, ↓AW_block, ↓AOps_nil, ↓AOps_pu, on_some, extK_same, condB_f, ↓then_normal, pval, rd_S, rd_C, put_S, ↓AW_toLoop, chkd, isAdr, bgot, cells_agg, partA, eq_self, mk, List.foldl_cons, List.foldl_nil, List.replicate_succ, List.replicate_zero, List.set_cons_zero, List.set_cons_succ, List.getElem?_cons_zero, List.getElem?_cons_succ, List.drop_zero, List.take_zero, List.take_succ_cons, Option.getD_some, List.length_cons, List.length_nil, Nat.reduceAdd, Nat.reduceLeDiff, Nat.zero_add, bin_sub, bin_neq, w64, if_true, if_false, Bool.false_eq_true, decide_false, not_true_eq_false, hb]
    refine LoopK.by 47 (fun x : Nat × AV × AHeap => x.1 ≤ rs.length ∧ AccL 1 e1 H x.2.2 x.2.1 (bset x.1 s)) (fun z => [(1, .agg [I P, u]), (3, y), (4, I s), (5, z.2.1), (6, I z.1)]) (fun z => z.2.2) (fun z => rs.length - z.1) (0, .nilS, H) ⟨by simp only; omega, AccL.nil (List.prefix_refl _)⟩ rfl (by simp [Has, rd_s]) rfl ?_
    rintro ⟨j, z, G⟩ ⟨hj, hac⟩
    simp only at hj hac
    have huG := huH.mono hac.1
    by_cases hjl : j < rs.length
    · have hjl' : (j : Int) < rs.length := by omega
      have hwj := hw j (by omega)
      have hshr := shr_by (k := .u64) (s := s) (j := j) (by omega)
      have hle : s / 2 ^ j ≤ 16384 := Nat.le_trans (Nat.div_le_self _ _) (by omega)
      have hand := and_one hle
      have hbit := bit_eq s j
      by_cases ht : s.testBit j = true
      · have hb1 := hbit.2 ht
        obtain ⟨v', H2, happ, hacc, _, n, len, rfl, _⟩ := AccL_push2 hac e1_len (by omega) (j : Int) (by have := bset_le j s; simp only [lim]; omega)
        simp only [Go.Eng.e1] at happ
        simp (maxSteps := 4000000) -implicitDefEqProofs -dsimp (disch := omega) only [↓AW_skip, ↓AW_ops, ↓AW_seq, ↓AW_cond, ↓AW_block, ↓AOps_nil, ↓AOps_pu, ↓AOps_ha, on_some, extK_false, extK_app, condB_t, ↓then_normal, ↓inBlock_normal, pval, hval_blds, hval_app, rd_S, rd_C, put_S, chkd, isAdr, bgot, cells_agg, cells_int, splice, partA, fillA, repl, eq_self, mk, List.foldl_cons, List.foldl_nil, List.replicate_succ, List.replicate_zero, List.set_cons_zero, List.set_cons_succ, List.getElem?_cons_zero, List.getElem?_cons_succ, List.drop_zero, List.drop_succ_cons, List.drop_nil, List.take_zero, List.take_succ_cons, List.take_nil, Option.getD_some, map_c, map_n, List.length_cons, List.length_nil, Nat.reduceAdd, Nat.reduceLeDiff, Nat.zero_add, List.nil_append, List.append_nil, bin_add, bin_eql, bin_lss, w64, if_true, if_false, Bool.false_eq_true, decide_true, true_and, and_true, hjl', huG.len, hwj, hshr, hand, hb1, happ, List.replicate_zero, repl]
        exact ⟨(j + 1, .sl 1 n 0 len false, H2), ⟨hjl, by rw [(bset_step j s).1 ht]; exact hacc⟩, by simp [Has, rd_s], rfl, by simp only; omega⟩
      · have hb1 : ¬ (((s / 2 ^ j) % 2 : Nat) : Int) = 1 := fun e => ht (hbit.1 e)
        simp (maxSteps := 4000000) -implicitDefEqProofs -dsimp (disch := omega) only [↓AW_skip, ↓AW_ops, ↓AW_seq, ↓AW_cond, ↓AW_block, ↓AOps_nil, ↓AOps_pu, on_some, condB_t, condB_f, ↓then_normal, ↓inBlock_normal, pval, rd_S, rd_C, put_S, chkd, isAdr, bgot, cells_agg, partA, eq_self, mk, List.foldl_cons, List.foldl_nil, List.replicate_succ, List.replicate_zero, List.set_cons_zero, List.set_cons_succ, List.getElem?_cons_zero, List.getElem?_cons_succ, List.drop_zero, List.drop_succ_cons, List.take_succ_cons, List.take_nil, Option.getD_some, List.length_cons, List.length_nil, Nat.reduceAdd, Nat.reduceLeDiff, Nat.zero_add, bin_add, bin_eql, bin_lss, w64, if_true, if_false, Bool.false_eq_true, decide_true, decide_false, true_and, hjl', huG.len, hwj, hshr, hand, hb1]
        exact ⟨(j + 1, z, G), ⟨hjl, by rw [(bset_step j s).2 (by simpa using ht)]; exact hac⟩, by simp [Has, rd_s], rfl, by simp only; omega⟩
    · have hjl' : ¬ (j : Int) < rs.length := by omega
      have hje : j = rs.length := by omega
      subst hje
      simp (maxSteps := 4000000) -implicitDefEqProofs -dsimp (disch := omega) only [↓AW_ops, ↓AW_seq, ↓AW_cond, ↓AW_exit, ↓AW_ret, ↓AOps_nil, ↓AOps_pu, ↓AOps_call, on_some, condB_f, ↓then_normal, ↓then_exit, ↓inBlock_exit, ↓FinR_ret, pval, rd_S, rd_C, put_S, resV, resL, chkd, isAdr, bgot, cells_agg, partA, eq_self, mk, List.foldl_cons, List.foldl_nil, List.replicate_succ, List.replicate_zero, List.set_cons_zero, List.set_cons_succ, List.getElem?_cons_zero, List.getElem?_cons_succ, List.drop_zero, List.drop_succ_cons, List.take_succ_cons, List.take_nil, Option.getD_some, map_c, map_n, List.length_cons, List.length_nil, Nat.reduceAdd, Nat.reduceLeDiff, Nat.reduceEqDiff, Nat.zero_add, bin_add, bin_lss, w64, if_true, if_false, Bool.false_eq_true, decide_false, true_and, reduceCtorEq, hjl', huG.len]
      refine CallK.of (s87 huG (AccL_ls hac e1_len) hn (bset_nos s (by omega)) (by have := bset_le rs.length s; omega)) ?_
      by_cases ht : Tree P (rdx rs) (bset rs.length s)
      · have hwl : ws.length ≤ N := by
          have := congrArg List.length hli
          have h2 := List.length_filter_le (fun l => decide (Tree P (rdx rs) l)) ((List.range s).map (bset rs.length))
          simp only [List.length_map, List.length_range] at this h2
          omega
        have hA : bset rs.length s = [] ∨ 0 < A.length := by
          by_cases h0 : rs.length = 0
          · left
            refine List.eq_nil_of_length_eq_zero ?_
            have := bset_le rs.length s
            omega
          · exact .inr (Ls.pos hu (by omega))
        obtain ⟨hzc, v3, H4, happ, h3⟩ := row_of hnl hac hA (by simp only [lim]; omega)
        have hv3c : v3.cells? = some [v3] := Ls_cells (AccL_ls h3.acc e0_len)
        simp (maxSteps := 4000000) -implicitDefEqProofs -dsimp (disch := omega) only [↓AW_ops, ↓AW_cond, ↓AOps_nil, ↓AOps_pu, ↓AOps_ha, on_some, extK_false, extK_app, extK_same, condB_t, ↓then_normal, ↓inBlock_normal, pval, hval_blds, hval_app, rd_S, rd_C, put_S, splice, fillA, repl, eq_self, mk, List.foldl_cons, List.foldl_nil, List.replicate_succ, List.replicate_zero, List.set_cons_zero, List.set_cons_succ, List.getElem?_cons_zero, List.getElem?_cons_succ, List.drop_succ_cons, List.drop_nil, List.take_zero, Option.getD_some, map_c, map_n, List.length_cons, List.length_nil, Nat.reduceAdd, Nat.reduceLeDiff, Nat.zero_add, List.nil_append, List.append_nil, bin_add, w64, if_true, decide_true, true_and, and_true, ht, hzc, happ, List.replicate_zero, repl]
        refine ⟨(s + 1, v3, H4, ws ++ [(z, bset rs.length s)]), ⟨hlt, h3, ?_⟩, by simp [Has, rd_s], rfl, by simp only; omega⟩
        rw [next, if_pos ht, ← hli]
        simp [lists]
      · simp (maxSteps := 4000000) -implicitDefEqProofs -dsimp (disch := omega) only [↓AW_skip, ↓AW_ops, ↓AW_cond, ↓AOps_nil, ↓AOps_pu, on_some, extK_same, condB_f, ↓then_normal, ↓inBlock_normal, pval, rd_S, rd_C, put_S, eq_self, mk, List.foldl_cons, List.foldl_nil, List.replicate_succ, List.replicate_zero, List.set_cons_zero, List.set_cons_succ, List.getElem?_cons_zero, List.getElem?_cons_succ, Option.getD_some, List.length_cons, List.length_nil, Nat.reduceAdd, Nat.zero_add, bin_add, w64, decide_false, true_and, ht]
        refine ⟨(s + 1, y, G, ws), ⟨hlt, hnl.mono hac.1, ?_⟩, by simp [Has, rd_s], rfl, by simp only; omega⟩
        rw [next, if_neg ht, List.append_nil]
        exact hli
  · have hlt' : ¬ (s : Int) < (N : Int) := by omega
    have hse : s = N := by omega
    subst hse
    simp (maxSteps := 4000000) -implicitDefEqProofs -dsimp (disch := omega) only [↓AW_ops, ↓AW_seq, ↓AW_cond, ↓AW_exit, ↓AW_ret, ↓AOps_nil, ↓AOps_pu, on_some, condB_f, ↓then_normal, ↓then_exit, ↓inBlock_exit, ↓FinR_ret, pval, rd_S, rd_C, put_S, resV, resL, chkd, isAdr, bgot, cells_agg, partA, eq_self, mk, List.foldl_cons, List.foldl_nil, List.replicate_succ, List.replicate_zero, List.set_cons_zero, List.set_cons_succ, List.getElem?_cons_zero, List.getElem?_cons_succ, List.drop_zero, List.drop_succ_cons, List.take_succ_cons, List.take_nil, Option.getD_some, List.length_cons, List.length_nil, Nat.reduceAdd, Nat.reduceLeDiff, Nat.zero_add, bin_lss, if_true, if_false, Bool.false_eq_true, decide_false, hwl, hshl, hlt', huH.len]
    exact ⟨_, _, gc_all, hnl.acc.1, ws, hnl, hli⟩
end
section
variable {Q : Int} {rs : List Rd} {u : AV} {A : AHeap}
/-- How many trees there are. -/
noncomputable def tN (Q : Int) (rs : List Rd) : Int := if vE Q rs = 0 then (trees Q.toNat rs).length else 0
theorem s44 (hu : L3 A u rs) (hW : W Q) : ACalls Try.prog 44 [.agg [I Q, u]] A (.tuple [I (tN Q rs), I (vE Q rs)]) A := by
  refine acalls hmix Try.func44 (by kernel_rfl) t44 1 rfl (by decide) ?_
  dsimp only [m44]
  simp (maxSteps := 4000000) -implicitDefEqProofs -dsimp (disch := omega) only [↓AW_ops, ↓AW_seq, ↓AOps_nil, ↓AOps_pu, ↓AOps_call, on_some, ↓then_normal, pval, rd_S, rd_C, put_S, chkd, bgot, AV.cells?, partA, eq_self, List.replicate_succ, List.replicate_zero, List.set_cons_zero, List.set_cons_succ, List.getElem?_cons_zero, List.getElem?_cons_succ, List.drop_zero, List.take_succ_cons, List.take_nil, Option.getD_some, map_c, map_n, List.length_cons, List.length_nil, Nat.reduceAdd, Nat.reduceSub, Nat.reduceLeDiff, Nat.reduceEqDiff, Nat.zero_add, List.cons_append, List.nil_append, if_true, if_false]
  refine CallK.of (s22 hu hW) ?_
  by_cases h0 : vE Q rs = 0
  · have hn := vE_0.1 h0
    obtain ⟨P, rfl⟩ := hn.nat
    have hN : tN P rs = (trees P rs).length := if_pos h0
    rw [h0, hN]
    simp (maxSteps := 4000000) -implicitDefEqProofs -dsimp (disch := omega) only [↓AW_skip, ↓AW_ops, ↓AW_seq, ↓AW_cond, ↓AOps_nil, ↓AOps_pu, ↓AOps_call, on_some, extK_same, condB_f, ↓then_normal, pval, rd_S, rd_C, put_S, chkd, bgot, partA, eq_self, List.replicate_succ, List.replicate_zero, List.set_cons_zero, List.set_cons_succ, List.getElem?_cons_zero, List.getElem?_cons_succ, List.drop_zero, List.take_succ_cons, List.take_nil, Option.getD_some, map_c, map_n, List.length_cons, List.length_nil, Nat.reduceAdd, Nat.reduceSub, Nat.reduceLeDiff, Nat.reduceEqDiff, Nat.zero_add, List.cons_append, List.nil_append, bin_neq, if_true, if_false, decide_false, not_true_eq_false]
    obtain ⟨r, H, hc, hp, ws, hnl, hli⟩ := c_Trees hu hn
    refine CallK.of hc ?_
    have hlen := hnl.ll.ls.len
    have hwl : ws.length = (trees P rs).length := by rw [← hli]; simp
    rw [hwl] at hlen
    simp (maxSteps := 4000000) -implicitDefEqProofs -dsimp (disch := omega) only [↓AW_ret, ↓AOps_nil, ↓AOps_pu, on_some, extK_false, ↓then_normal, ↓Fin_ret, pval, rd_S, rd_C, put_S, resV, resL, List.replicate_succ, List.replicate_zero, List.set_cons_zero, List.set_cons_succ, List.getElem?_cons_zero, List.getElem?_cons_succ, Option.getD_some, Nat.reduceSub, List.cons_append, List.nil_append, hlen]
    exact gc_val hp rfl
  · have hN : tN Q rs = 0 := if_neg h0
    rw [hN]
    simp (maxSteps := 4000000) -implicitDefEqProofs -dsimp (disch := omega) only [↓AW_ops, ↓AW_seq, ↓AW_cond, ↓AW_ret, ↓AOps_nil, ↓AOps_pu, on_some, extK_same, condB_t, ↓then_normal, ↓then_ret, ↓Fin_ret, pval, rd_S, rd_C, put_S, resV, resL, List.replicate_succ, List.replicate_zero, List.set_cons_zero, List.set_cons_succ, List.getElem?_cons_zero, List.getElem?_cons_succ, Option.getD_some, Nat.reduceSub, List.cons_append, List.nil_append, bin_neq, decide_true, not_false_eq_true, h0]
    exact gc_same rfl
end
end Go.Proofs.Ytkgfcdpckfhknaa

namespace Go.Proofs.Ytkgfcdpckfhknaa
open Go Go.Eng
/-- Rows of another list, put together anew. -/
structure Sel (A H : AHeap) (v : AV) (ws : List (AV × List Int)) : Prop where
  acc : AccL 1 e0 A H v ws
  inn : ∀ x ∈ ws, L1 A x.1 x.2
theorem Sel.ll {A H : AHeap} {v : AV} {ws : List (AV × List Int)} (h : Sel A H v ws) : LL H v ws := ⟨AccL_ls h.acc e0_len, fun x hx => (h.inn x hx).mono h.acc.1⟩
theorem Sel.nil {A H : AHeap} (h : A <+: H) : Sel A H .nilS [] := ⟨AccL.nil h, by simp⟩
theorem Sel.push {A H : AHeap} {v : AV} {ws : List (AV × List Int)} (h : Sel A H v ws) {x : AV × List Int} (hx : L1 A x.1 x.2) (hl : ws.length + 1 ≤ lim) :
    ∃ v' H2, appA 1 (H ++ [.cells true [x.1]]) v (.sl 1 H.length 0 1 true) = some (v', H2) ∧ Sel A H2 v' (ws ++ [x]) ∧ v'.cells? = some [v'] := by
  obtain ⟨v', H2, happ, hacc⟩ := h.acc.push e0_len x hl
  refine ⟨v', H2, happ, ⟨hacc, fun y hy => ?_⟩, Ls_cells (AccL_ls hacc e0_len)⟩
  rcases List.mem_append.1 hy with hy | hy
  · exact h.inn y hy
  · have : y = x := by simpa using hy
    rw [this]; exact hx
theorem ll_at0 {A : AHeap} {v : AV} {ws : List (AV × List Int)} (h : Ls 1 e0 A v ws) {x : AV × List Int} (hx : ws[0]? = some x) : idxA 1 v (.int .i64 0) = some (.ptr (nm v) (of v)) ∧ ldA 1 false (.ptr (nm v) (of v)) A = some x.1 := by
  have h0 : 0 < ws.length := (List.getElem?_eq_some_iff.1 hx).1
  have h1 := h.idx (k := .i64) (i := 0) h0
  have h2 := h.ld0 hx 1 false (by decide)
  constructor
  · simpa using h1
  · simpa [e0, partA] using h2
section
variable {P : Nat} {rs : List Rd} {ks : List Int} {u v : AV} {A : AHeap}
theorem trees_len (hn : Net P rs) : (trees P rs).length ≤ 16384 := by
  have h1 := List.length_filter_le (fun l => decide (Tree P (rdx rs) l)) (subs rs.length)
  have h2 : (subs rs.length).length = 2 ^ rs.length := by simp [subs]
  have h3 : 2 ^ rs.length ≤ 2 ^ 14 := Nat.pow_le_pow_right (by omega) hn.l
  have h4 : (2 : Nat) ^ 14 = 16384 := rfl
  unfold trees
  omega
theorem tree_len {l : List Int} (h : l ∈ trees P rs) (hn : Net P rs) : l.length ≤ 1000000 := by
  have := (mem_trees.1 h).2.1
  have := hn.p7
  omega
theorem chp_len (c : List Int → Int) : ∀ (xs out : List (List Int)), (xs.foldl (chst c) out).length ≤ out.length + xs.length
  | [], out => by simp
  | x :: xs, out => by
    have := chp_len c xs (chst c out x)
    have h2 : (chst c out x).length ≤ out.length + 1 := by
      unfold chst
      split
      · simp
      · split
        · simp
        · split
          · simp
          · simp
    simp only [List.foldl_cons, List.length_cons]
    omega
set_option maxHeartbeats 8000000 in
theorem c_cheapest (hu : L3 A u rs) (hn : Net P rs) : ∃ r H, ACalls Try.prog 69 [.agg [I P, u]] A r H ∧ A <+: H ∧ ∃ ws, LL H r ws ∧ lists ws = chl P rs ∧ ws.length ≤ 16384 := by
  refine acallsR hmix Try.func69 (by kernel_rfl) t69 _ 1 rfl (by decide) ?_
  obtain ⟨v, A1, hc, hp1, ts, hnl, hts⟩ := c_Trees hu hn
  have hll := hnl.ll
  have hu1 := hu.mono hp1
  have htl := trees_len hn
  have hsl : ts.length = (trees P rs).length := by rw [← hts]; simp
  dsimp only [m69]
  simp (maxSteps := 4000000) -implicitDefEqProofs -dsimp (disch := omega) only [↓AW_ops, ↓AW_seq, ↓AOps_nil, ↓AOps_pu, ↓AOps_call, on_some, ↓then_normal, pval, rd_S, rd_C, put_S, chkd, bgot, cells_agg, partA, eq_self, List.replicate_succ, List.replicate_zero, List.set_cons_zero, List.set_cons_succ, List.getElem?_cons_zero, List.getElem?_cons_succ, List.drop_zero, List.take_succ_cons, List.take_nil, Option.getD_some, map_c, map_n, List.length_cons, List.length_nil, Nat.reduceAdd, Nat.reduceSub, Nat.reduceLeDiff, Nat.reduceEqDiff, Nat.zero_add, List.cons_append, List.nil_append, if_true, if_false]
  refine CallK.of hc ?_
  simp (maxSteps := 4000000) -implicitDefEqProofs -dsimp (disch := omega) only [↓AW_ops, ↓AW_seq, ↓AW_block, ↓AOps_nil, ↓AOps_pu, on_some, extK_false, ↓then_normal, pval, rd_S, rd_C, put_S, ↓AW_toLoop, List.replicate_succ, List.replicate_zero, List.set_cons_zero, List.set_cons_succ, List.getElem?_cons_zero, List.getElem?_cons_succ, Option.getD_some, Nat.reduceSub, List.cons_append, List.nil_append]
  refine LoopK.by 56 (fun x : Nat × AV × AHeap × List (AV × List Int) => x.1 ≤ ts.length ∧ Sel A1 x.2.2.1 x.2.1 x.2.2.2 ∧ lists x.2.2.2 = chp (cst (wct rs)) ((trees P rs).take x.1))
    (fun z => [(1, .agg [I P, u]), (3, v), (4, z.2.1), (5, I z.1)]) (fun z => z.2.2.1) (fun z => ts.length - z.1) (0, .nilS, A1, []) ⟨by simp only; omega, Sel.nil (List.prefix_refl _), by simp [chp]⟩ rfl (by simp [Has, rd_s]) rfl ?_
  rintro ⟨i, y, H, ws⟩ ⟨hi, hs, hli⟩
  simp only at hi hs hli
  have hvH := hll.mono hs.acc.1
  have huH := hu1.mono hs.acc.1
  have hsL := hs.ll
  have hwl : ws.length ≤ 16384 := by
    have h1 := chp_len (cst (wct rs)) ((trees P rs).take i) []
    have h2 := congrArg List.length hli
    simp only [List.length_map, List.length_nil, List.length_take] at h1 h2
    unfold chp at h2
    omega
  by_cases hlt : i < ts.length
  · obtain ⟨z, hz⟩ : ∃ z, ts[i]? = some z := ⟨_, List.getElem?_eq_getElem hlt⟩
    have hlt' : (i : Int) < ts.length := by omega
    have hm := List.mem_of_getElem? hz
    have hzt : (trees P rs)[i]? = some z.2 := by rw [← hts]; exact ws_get hz
    have hz2 : z.2 ∈ trees P rs := List.mem_of_getElem? hzt
    have hzk := okS_nos (mem_trees.1 hz2).1
    have hzc : z.1.cells? = some [z.1] := Ls_cells (hll.inn z hm)
    have hstep : chp (cst (wct rs)) ((trees P rs).take (i + 1)) = chst (cst (wct rs)) (lists ws) z.2 := by
      rw [List.take_add_one, hzt, hli]
      exact chp_snoc _ _ _
    cases ws with
    | nil =>
      obtain ⟨v', H2, happ, hs2, hc2⟩ := hs.push (hll.inn z hm) (by simp [lim])
      have hl0 : lenA y = some (I 0) := by have := hsL.ls.len; simpa using this
      simp (maxSteps := 4000000) -implicitDefEqProofs -dsimp (disch := omega) only [↓AW_skip, ↓AW_ops, ↓AW_seq, ↓AW_cond, ↓AW_block, ↓AOps_nil, ↓AOps_pu, ↓AOps_ld, ↓AOps_ha, ↓AOps_guard, on_some, extK_false, extK_app, guardB_tf, guardB_ft, skipS_some, condB_t, condB_f, ↓then_normal, ↓inBlock_normal, pval, lval, hval_blds, hval_app, rd_S, rd_C, put_S, splice, partA, fillA, repl, eq_self, mk, List.foldl_cons, List.foldl_nil, List.replicate_succ, List.replicate_zero, List.set_cons_zero, List.set_cons_succ, List.getElem?_cons_zero, List.getElem?_cons_succ, List.drop_zero, List.drop_succ_cons, List.drop_nil, List.take_zero, List.take_succ_cons, List.take_nil, Option.getD_some, map_c, map_n, List.length_cons, List.length_nil, Nat.reduceAdd, Nat.reduceLeDiff, Nat.zero_add, List.nil_append, List.append_nil, bin_add, bin_eql, bin_lss, bin_gtr, w64, if_true, if_false, Bool.false_eq_true, decide_true, decide_false, true_and, and_true, Int.reduceLT, hlt', hvH.ls.len, hvH.ls.idx hlt, hvH.ls.ld0 hz 1 false (by decide), e0, hl0, hzc, happ, List.replicate_zero, repl]
      refine ⟨(i + 1, v', H2, [] ++ [z]), ⟨hlt, hs2, ?_⟩, by simp [Has, rd_s], rfl, by simp only; omega⟩
      rw [hstep]
      simp [chst, lists]
    | cons x r =>
      have hx0 : (x :: r)[0]? = some x := rfl
      obtain ⟨hi0, hl0⟩ := ll_at0 hsL.ls hx0
      have hlen : lenA y = some (I ((x :: r).length : Nat)) := hsL.ls.len
      generalize hN : (x :: r).length = N at *
      have hNp : (0 : Int) < (N : Int) := by rw [← hN]; simp
      have hNz : ¬ (N : Int) = 0 := by omega
      have hxm : x.2 ∈ chl P rs ∨ True := .inr trivial
      have hxl : x.2 ∈ lists (x :: r) := by simp [lists]
      have hxt : x.2 ∈ trees P rs := by
        rw [hli] at hxl
        exact List.mem_of_mem_take (((chp_spec _ _).1 _).1 hxl).1
      have hxk := okS_nos (mem_trees.1 hxt).1
      have c1 := s70 huH (hvH.inn z hm) hn hzk (tree_len hz2 hn)
      have c2 := s70 huH (hsL.inn x (by simp)) hn hxk (tree_len hxt hn)
      by_cases g1 : cst (wct rs) z.2 < cst (wct rs) x.2
      · obtain ⟨v', H2, happ, hs2, hc2⟩ := (Sel.nil hs.acc.1).push (hll.inn z hm) (by simp [lim])
        simp (maxSteps := 4000000) -implicitDefEqProofs -dsimp (disch := omega) only [↓AW_skip, ↓AW_ops, ↓AW_seq, ↓AW_cond, ↓AW_block, ↓AOps_nil, ↓AOps_pu, ↓AOps_ld, ↓AOps_call, ↓AOps_guard, on_some, guardB_tt, condB_t, ↓then_normal, pval, lval, rd_S, rd_C, put_S, chkd, bgot, partA, eq_self, mk, List.foldl_cons, List.foldl_nil, List.replicate_succ, List.replicate_zero, List.set_cons_zero, List.set_cons_succ, List.getElem?_cons_zero, List.getElem?_cons_succ, List.drop_zero, List.take_succ_cons, List.take_nil, Option.getD_some, map_c, map_n, List.length_cons, List.length_nil, Nat.reduceAdd, Nat.reduceLeDiff, Nat.reduceEqDiff, Nat.zero_add, bin_lss, bin_gtr, if_true, if_false, Bool.false_eq_true, decide_true, hlt', hvH.ls.len, hvH.ls.idx hlt, hvH.ls.ld0 hz 1 false (by decide), e0, hlen, hNp]
        refine CallK.of c1 ?_
        simp (maxSteps := 4000000) -implicitDefEqProofs -dsimp (disch := omega) only [↓AOps_pu, ↓AOps_ld, ↓AOps_call, ↓AOps_guard, on_some, extK_same, guardB_tt, pval, lval, rd_S, rd_C, put_S, chkd, bgot, partA, eq_self, mk, List.foldl_cons, List.foldl_nil, List.replicate_succ, List.replicate_zero, List.set_cons_zero, List.set_cons_succ, List.getElem?_cons_zero, List.getElem?_cons_succ, List.drop_zero, List.take_succ_cons, List.take_nil, Option.getD_some, map_c, map_n, List.length_cons, List.length_nil, Nat.reduceAdd, Nat.reduceLeDiff, Nat.reduceEqDiff, Nat.zero_add, if_true, if_false, hi0, hl0]
        refine CallK.of c2 ?_
        simp (maxSteps := 4000000) -implicitDefEqProofs -dsimp (disch := omega) only [↓AW_ops, ↓AW_seq, ↓AW_cond, ↓AOps_nil, ↓AOps_pu, ↓AOps_ld, ↓AOps_ha, ↓AOps_guard, on_some, extK_false, extK_app, extK_same, guardB_tt, guardB_tf, skipS_some, condB_t, ↓then_normal, ↓inBlock_normal, pval, lval, hval_blds, hval_app, rd_S, rd_C, put_S, splice, partA, fillA, repl, eq_self, mk, List.foldl_cons, List.foldl_nil, List.replicate_succ, List.replicate_zero, List.set_cons_zero, List.set_cons_succ, List.getElem?_cons_zero, List.getElem?_cons_succ, List.drop_zero, List.drop_succ_cons, List.drop_nil, List.take_zero, List.take_succ_cons, List.take_nil, Option.getD_some, map_c, map_n, List.length_cons, List.length_nil, Nat.reduceAdd, Nat.reduceLeDiff, Nat.zero_add, List.nil_append, List.append_nil, bin_add, bin_eql, bin_lss, w64, if_true, if_false, Bool.false_eq_true, decide_true, true_and, and_true, g1, lenA, hvH.ls.idx hlt, hvH.ls.ld0 hz 1 false (by decide), e0, hzc, happ, List.replicate_zero, repl]
        refine ⟨(i + 1, v', H2, [] ++ [z]), ⟨hlt, hs2, ?_⟩, by simp [Has, rd_s], rfl, by simp only; omega⟩
        rw [hstep]
        simp [chst, lists, g1]
      · by_cases g2 : cst (wct rs) z.2 = cst (wct rs) x.2
        · obtain ⟨v', H2, happ, hs2, hc2⟩ := hs.push (hll.inn z hm) (by simp only [lim]; omega)
          have g1' : ¬ cst (wct rs) x.2 < cst (wct rs) x.2 := by omega
          simp (maxSteps := 4000000) -implicitDefEqProofs -dsimp (disch := omega) only [↓AW_skip, ↓AW_ops, ↓AW_seq, ↓AW_cond, ↓AW_block, ↓AOps_nil, ↓AOps_pu, ↓AOps_ld, ↓AOps_call, ↓AOps_guard, on_some, guardB_tt, condB_t, ↓then_normal, pval, lval, rd_S, rd_C, put_S, chkd, bgot, partA, eq_self, mk, List.foldl_cons, List.foldl_nil, List.replicate_succ, List.replicate_zero, List.set_cons_zero, List.set_cons_succ, List.getElem?_cons_zero, List.getElem?_cons_succ, List.drop_zero, List.take_succ_cons, List.take_nil, Option.getD_some, map_c, map_n, List.length_cons, List.length_nil, Nat.reduceAdd, Nat.reduceLeDiff, Nat.reduceEqDiff, Nat.zero_add, bin_lss, bin_gtr, if_true, if_false, Bool.false_eq_true, decide_true, hlt', hvH.ls.len, hvH.ls.idx hlt, hvH.ls.ld0 hz 1 false (by decide), e0, hlen, hNp]
          refine CallK.of c1 ?_
          simp (maxSteps := 4000000) -implicitDefEqProofs -dsimp (disch := omega) only [↓AOps_pu, ↓AOps_ld, ↓AOps_call, ↓AOps_guard, on_some, extK_same, guardB_tt, pval, lval, rd_S, rd_C, put_S, chkd, bgot, partA, eq_self, mk, List.foldl_cons, List.foldl_nil, List.replicate_succ, List.replicate_zero, List.set_cons_zero, List.set_cons_succ, List.getElem?_cons_zero, List.getElem?_cons_succ, List.drop_zero, List.take_succ_cons, List.take_nil, Option.getD_some, map_c, map_n, List.length_cons, List.length_nil, Nat.reduceAdd, Nat.reduceLeDiff, Nat.reduceEqDiff, Nat.zero_add, if_true, if_false, hi0, hl0]
          refine CallK.of c2 ?_
          simp (maxSteps := 4000000) -implicitDefEqProofs -dsimp (disch := omega) only [↓AW_skip, ↓AW_ops, ↓AW_seq, ↓AW_cond, ↓AOps_nil, ↓AOps_pu, ↓AOps_ld, ↓AOps_call, ↓AOps_guard, on_some, extK_same, guardB_tt, guardB_ff, condB_f, ↓then_normal, pval, lval, rd_S, rd_C, put_S, chkd, bgot, partA, eq_self, mk, List.foldl_cons, List.foldl_nil, List.replicate_succ, List.replicate_zero, List.set_cons_zero, List.set_cons_succ, List.getElem?_cons_zero, List.getElem?_cons_succ, List.drop_zero, List.take_succ_cons, List.take_nil, Option.getD_some, map_c, map_n, List.length_cons, List.length_nil, Nat.reduceAdd, Nat.reduceLeDiff, Nat.reduceEqDiff, Nat.zero_add, bin_eql, bin_lss, if_true, if_false, Bool.false_eq_true, decide_false, g2, g1', hlen, hNz, hvH.ls.idx hlt, hvH.ls.ld0 hz 1 false (by decide), e0]
          refine CallK.of c1 ?_
          simp (maxSteps := 4000000) -implicitDefEqProofs -dsimp (disch := omega) only [↓AOps_pu, ↓AOps_ld, ↓AOps_call, ↓AOps_guard, on_some, extK_same, guardB_ff, pval, lval, rd_S, rd_C, put_S, chkd, bgot, partA, eq_self, mk, List.foldl_cons, List.foldl_nil, List.replicate_succ, List.replicate_zero, List.set_cons_zero, List.set_cons_succ, List.getElem?_cons_zero, List.getElem?_cons_succ, List.drop_zero, List.take_succ_cons, List.take_nil, Option.getD_some, map_c, map_n, List.length_cons, List.length_nil, Nat.reduceAdd, Nat.reduceLeDiff, Nat.reduceEqDiff, Nat.zero_add, if_true, if_false, hi0, hl0]
          refine CallK.of c2 ?_
          simp (maxSteps := 4000000) -implicitDefEqProofs -dsimp (disch := omega) only [↓AW_ops, ↓AW_cond, ↓AOps_nil, ↓AOps_pu, ↓AOps_ld, ↓AOps_ha, ↓AOps_guard, on_some, extK_false, extK_app, extK_same, guardB_ff, condB_t, ↓then_normal, ↓inBlock_normal, pval, lval, hval_blds, hval_app, rd_S, rd_C, put_S, splice, partA, fillA, repl, eq_self, mk, List.foldl_cons, List.foldl_nil, List.replicate_succ, List.replicate_zero, List.set_cons_zero, List.set_cons_succ, List.getElem?_cons_zero, List.getElem?_cons_succ, List.drop_zero, List.drop_succ_cons, List.drop_nil, List.take_zero, List.take_succ_cons, List.take_nil, Option.getD_some, map_c, map_n, List.length_cons, List.length_nil, Nat.reduceAdd, Nat.reduceLeDiff, Nat.zero_add, List.nil_append, List.append_nil, bin_add, bin_eql, w64, if_true, if_false, Bool.false_eq_true, decide_true, true_and, and_true, g2, hzc, happ, hvH.ls.idx hlt, hvH.ls.ld0 hz 1 false (by decide), e0, List.replicate_zero, repl]
          refine ⟨(i + 1, v', H2, (x :: r) ++ [z]), ⟨hlt, hs2, ?_⟩, by simp [Has, rd_s], rfl, by simp only; omega⟩
          rw [hstep]
          simp [chst, lists, g2]
        · simp (maxSteps := 4000000) -implicitDefEqProofs -dsimp (disch := omega) only [↓AW_skip, ↓AW_ops, ↓AW_seq, ↓AW_cond, ↓AW_block, ↓AOps_nil, ↓AOps_pu, ↓AOps_ld, ↓AOps_call, ↓AOps_guard, on_some, guardB_tt, condB_t, ↓then_normal, pval, lval, rd_S, rd_C, put_S, chkd, bgot, partA, eq_self, mk, List.foldl_cons, List.foldl_nil, List.replicate_succ, List.replicate_zero, List.set_cons_zero, List.set_cons_succ, List.getElem?_cons_zero, List.getElem?_cons_succ, List.drop_zero, List.take_succ_cons, List.take_nil, Option.getD_some, map_c, map_n, List.length_cons, List.length_nil, Nat.reduceAdd, Nat.reduceLeDiff, Nat.reduceEqDiff, Nat.zero_add, bin_lss, bin_gtr, if_true, if_false, Bool.false_eq_true, decide_true, hlt', hvH.ls.len, hvH.ls.idx hlt, hvH.ls.ld0 hz 1 false (by decide), e0, hlen, hNp]
          refine CallK.of c1 ?_
          simp (maxSteps := 4000000) -implicitDefEqProofs -dsimp (disch := omega) only [↓AOps_pu, ↓AOps_ld, ↓AOps_call, ↓AOps_guard, on_some, extK_same, guardB_tt, pval, lval, rd_S, rd_C, put_S, chkd, bgot, partA, eq_self, mk, List.foldl_cons, List.foldl_nil, List.replicate_succ, List.replicate_zero, List.set_cons_zero, List.set_cons_succ, List.getElem?_cons_zero, List.getElem?_cons_succ, List.drop_zero, List.take_succ_cons, List.take_nil, Option.getD_some, map_c, map_n, List.length_cons, List.length_nil, Nat.reduceAdd, Nat.reduceLeDiff, Nat.reduceEqDiff, Nat.zero_add, if_true, if_false, hi0, hl0]
          refine CallK.of c2 ?_
          simp (maxSteps := 4000000) -implicitDefEqProofs -dsimp (disch := omega) only [↓AW_skip, ↓AW_ops, ↓AW_seq, ↓AW_cond, ↓AOps_nil, ↓AOps_pu, ↓AOps_ld, ↓AOps_call, ↓AOps_guard, on_some, extK_same, guardB_tt, guardB_ff, condB_f, ↓then_normal, pval, lval, rd_S, rd_C, put_S, chkd, bgot, partA, eq_self, mk, List.foldl_cons, List.foldl_nil, List.replicate_succ, List.replicate_zero, List.set_cons_zero, List.set_cons_succ, List.getElem?_cons_zero, List.getElem?_cons_succ, List.drop_zero, List.take_succ_cons, List.take_nil, Option.getD_some, map_c, map_n, List.length_cons, List.length_nil, Nat.reduceAdd, Nat.reduceLeDiff, Nat.reduceEqDiff, Nat.zero_add, bin_eql, bin_lss, if_true, if_false, Bool.false_eq_true, decide_false, g1, hlen, hNz, hvH.ls.idx hlt, hvH.ls.ld0 hz 1 false (by decide), e0]
          refine CallK.of c1 ?_
          simp (maxSteps := 4000000) -implicitDefEqProofs -dsimp (disch := omega) only [↓AOps_pu, ↓AOps_ld, ↓AOps_call, ↓AOps_guard, on_some, extK_same, guardB_ff, pval, lval, rd_S, rd_C, put_S, chkd, bgot, partA, eq_self, mk, List.foldl_cons, List.foldl_nil, List.replicate_succ, List.replicate_zero, List.set_cons_zero, List.set_cons_succ, List.getElem?_cons_zero, List.getElem?_cons_succ, List.drop_zero, List.take_succ_cons, List.take_nil, Option.getD_some, map_c, map_n, List.length_cons, List.length_nil, Nat.reduceAdd, Nat.reduceLeDiff, Nat.reduceEqDiff, Nat.zero_add, if_true, if_false, hi0, hl0]
          refine CallK.of c2 ?_
          simp (maxSteps := 4000000) -implicitDefEqProofs -dsimp (disch := omega) only [↓AW_skip, ↓AW_ops, ↓AW_cond, ↓AOps_nil, ↓AOps_pu, ↓AOps_guard, on_some, extK_same, guardB_ff, condB_f, ↓then_normal, ↓inBlock_normal, pval, rd_S, rd_C, put_S, eq_self, mk, List.foldl_cons, List.foldl_nil, List.replicate_succ, List.replicate_zero, List.set_cons_zero, List.set_cons_succ, List.getElem?_cons_zero, List.getElem?_cons_succ, Option.getD_some, List.length_cons, List.length_nil, Nat.reduceAdd, Nat.zero_add, bin_add, bin_eql, w64, if_false, Bool.false_eq_true, decide_false, true_and, g2]
          refine ⟨(i + 1, y, H, x :: r), ⟨hlt, hs, ?_⟩, by simp [Has, rd_s], rfl, by simp only; omega⟩
          rw [hstep]
          simp [chst, lists, g1, g2]
  · have hlt' : ¬ ((i : Int) < ts.length) := by omega
    rw [List.take_of_length_le (by omega)] at hli
    simp (maxSteps := 4000000) -implicitDefEqProofs -dsimp (disch := omega) only [↓AW_ops, ↓AW_seq, ↓AW_cond, ↓AW_exit, ↓AW_ret, ↓AOps_nil, ↓AOps_pu, on_some, condB_f, ↓then_normal, ↓then_exit, ↓inBlock_exit, ↓FinR_ret, pval, rd_S, put_S, resV, resL, eq_self, mk, List.foldl_cons, List.foldl_nil, List.replicate_succ, List.replicate_zero, List.set_cons_zero, List.set_cons_succ, List.getElem?_cons_zero, List.getElem?_cons_succ, Option.getD_some, bin_lss, if_true, decide_false, hlt', hvH.ls.len]
    exact ⟨_, _, gc_all, hp1.trans hs.acc.1, ws, hsL, hli, hwl⟩
noncomputable instance jblDec (P : Nat) (rs : List Rd) : Decidable (Jbl P rs) := by unfold Jbl; infer_instance
end
section
variable {Q : Int} {rs : List Rd} {ks : List Int} {u v : AV} {A : AHeap}
end
section
variable {P : Nat} {rs : List Rd} {ks : List Int} {u v : AV} {A : AHeap}
end
end Go.Proofs.Ytkgfcdpckfhknaa

namespace Go.Proofs.Ytkgfcdpckfhknaa
open Go Go.Eng
section
variable {P : Nat} {rs : List Rd} {ks : List Int} {u v : AV} {A : AHeap}
end
section
variable {Q : Int} {rs : List Rd} {ks : List Int} {u v : AV} {A : AHeap} {a b : Int}
/-- The error of a net and two places. -/
def pE (Q : Int) (rs : List Rd) (a b : Int) : Int := if vE Q rs = 0 then (if (0 ≤ a ∧ a ≤ Q - 1) ∧ (0 ≤ b ∧ b ≤ Q - 1) then 0 else 4) else vE Q rs
end
end Go.Proofs.Ytkgfcdpckfhknaa

namespace Go.Proofs.Ytkgfcdpckfhknaa
open Go Go.Eng
/-- selion/selionlaw04.RoadRanges [] -/
def m3 : MFun := ⟨44, [2], [.mov (.s 4)],
 .seq (.ops [⟨(some 2), some (.junk), none, false, .pu (.bnew (.s 0))⟩,
   ⟨(some 4), some undefA, none, false, .pu (.mov (.c (.bool false)))⟩])
 (.seq (.seq (.ops [⟨(some 11), some undefA, none, false, .pu (.bget none 2 0 2 true)⟩,
   ⟨(some 12), some undefA, none, false, .call 17 [(.s 11)]⟩])
 (.cond (.s 12) (.seq (.ops [⟨(some 13), some undefA, none, false, .call 18 []⟩,
    ⟨(some 4), some undefA, none, false, .pu (.mov (.s 13))⟩])
  (.ret))
 (.skip)))
 (.seq (.ops [⟨(some 15), some undefA, none, false, .pu (.bget none 2 0 2 true)⟩,
   ⟨(some 16), some undefA, none, false, .pu (.mov (.s 1))⟩,
   ⟨(some 17), some undefA, none, false, .call 19 [(.s 15), (.s 16)]⟩,
   ⟨(some 14), some undefA, none, false, .pu (.mov (.s 17))⟩,
   ⟨(some 18), some undefA, none, false, .pu (.extr 0 (.s 14))⟩,
   ⟨(some 19), some undefA, none, false, .pu (.extr 1 (.s 14))⟩,
   ⟨(some 20), some undefA, none, false, .pu (.extr 2 (.s 14))⟩,
   ⟨(some 5), some undefA, none, false, .pu (.mov (.s 18))⟩,
   ⟨(some 6), some undefA, none, false, .pu (.mov (.s 19))⟩,
   ⟨(some 7), some undefA, none, false, .pu (.mov (.s 20))⟩])
 (.seq (.ops [⟨(some 22), some undefA, none, false, .pu (.bget none 2 0 2 true)⟩,
   ⟨(some 23), some undefA, none, false, .pu (.mov (.s 1))⟩,
   ⟨(some 24), some undefA, none, false, .call 20 [(.s 22), (.s 23)]⟩,
   ⟨(some 21), some undefA, none, false, .pu (.mov (.s 24))⟩,
   ⟨(some 25), some undefA, none, false, .pu (.extr 0 (.s 21))⟩,
   ⟨(some 26), some undefA, none, false, .pu (.extr 1 (.s 21))⟩,
   ⟨(some 27), some undefA, none, false, .pu (.extr 2 (.s 21))⟩,
   ⟨(some 8), some undefA, none, false, .pu (.mov (.s 25))⟩,
   ⟨(some 9), some undefA, none, false, .pu (.mov (.s 26))⟩,
   ⟨(some 10), some undefA, none, false, .pu (.mov (.s 27))⟩])
 (.seq (.ops [⟨(some 28), some undefA, none, false, .pu (.mov (.s 5))⟩,
   ⟨(some 29), some undefA, none, false, .pu (.mov (.s 8))⟩,
   ⟨(some 30), some undefA, none, false, .pu (.bin .eql (.s 28) (.s 29))⟩,
   ⟨(some 31), some undefA, none, false, .pu (.mov (.s 30))⟩,
   ⟨(some 32), some undefA, (some (31, true)), false, .pu (.mov (.s 6))⟩,
   ⟨(some 33), some undefA, (some (31, true)), false, .pu (.mov (.s 9))⟩,
   ⟨(some 34), some undefA, (some (31, true)), false, .pu (.eqb false (.s 32) (.s 33))⟩,
   ⟨(some 35), some undefA, none, false, .pu (.pick (.s 31) (.s 34) (.c (.bool false)))⟩,
   ⟨(some 36), some undefA, none, false, .pu (.mov (.s 35))⟩,
   ⟨(some 37), some undefA, (some (36, true)), false, .pu (.mov (.s 7))⟩,
   ⟨(some 38), some undefA, (some (36, true)), false, .pu (.mov (.s 10))⟩,
   ⟨(some 39), some undefA, (some (36, true)), false, .pu (.bin .eql (.s 37) (.s 38))⟩,
   ⟨(some 40), some undefA, none, false, .pu (.pick (.s 36) (.s 39) (.c (.bool false)))⟩,
   ⟨(some 41), some undefA, none, false, .pu (.mov (.s 40))⟩,
   ⟨(some 42), some undefA, (some (41, true)), false, .call 18 []⟩,
   ⟨(some 43), some undefA, none, false, .pu (.pick (.s 41) (.s 42) (.c (.bool false)))⟩,
   ⟨(some 4), some undefA, none, false, .pu (.mov (.s 43))⟩])
 (.ret)))))⟩
/-- selion/selionlaw04.RoadCounts [] -/
def m13 : MFun := ⟨79, [1], [.mov (.s 2)],
 .seq (.ops [⟨(some 1), some (.junk), none, false, .pu (.bnew (.s 0))⟩,
   ⟨(some 2), some undefA, none, false, .pu (.mov (.c (.bool false)))⟩])
 (.seq (.seq (.ops [⟨(some 15), some undefA, none, false, .pu (.bget none 1 0 2 true)⟩,
   ⟨(some 16), some undefA, none, false, .call 17 [(.s 15)]⟩])
 (.cond (.s 16) (.seq (.ops [⟨(some 17), some undefA, none, false, .call 18 []⟩,
    ⟨(some 2), some undefA, none, false, .pu (.mov (.s 17))⟩])
  (.ret))
 (.skip)))
 (.seq (.ops [⟨(some 19), some undefA, none, false, .pu (.bget none 1 0 2 true)⟩,
   ⟨(some 20), some undefA, none, false, .call 43 [(.s 19)]⟩,
   ⟨(some 18), some undefA, none, false, .pu (.mov (.s 20))⟩,
   ⟨(some 21), some undefA, none, false, .pu (.extr 0 (.s 18))⟩,
   ⟨(some 22), some undefA, none, false, .pu (.extr 1 (.s 18))⟩,
   ⟨(some 3), some undefA, none, false, .pu (.mov (.s 21))⟩,
   ⟨(some 4), some undefA, none, false, .pu (.mov (.s 22))⟩])
 (.seq (.ops [⟨(some 24), some undefA, none, false, .pu (.bget none 1 0 2 true)⟩,
   ⟨(some 25), some undefA, none, false, .call 44 [(.s 24)]⟩,
   ⟨(some 23), some undefA, none, false, .pu (.mov (.s 25))⟩,
   ⟨(some 26), some undefA, none, false, .pu (.extr 0 (.s 23))⟩,
   ⟨(some 27), some undefA, none, false, .pu (.extr 1 (.s 23))⟩,
   ⟨(some 5), some undefA, none, false, .pu (.mov (.s 26))⟩,
   ⟨(some 6), some undefA, none, false, .pu (.mov (.s 27))⟩])
 (.seq (.ops [⟨(some 29), some undefA, none, false, .pu (.bget none 1 0 2 true)⟩,
   ⟨(some 30), some undefA, none, false, .call 45 [(.s 29)]⟩,
   ⟨(some 28), some undefA, none, false, .pu (.mov (.s 30))⟩,
   ⟨(some 31), some undefA, none, false, .pu (.extr 0 (.s 28))⟩,
   ⟨(some 32), some undefA, none, false, .pu (.extr 1 (.s 28))⟩,
   ⟨(some 7), some undefA, none, false, .pu (.mov (.s 31))⟩,
   ⟨(some 8), some undefA, none, false, .pu (.mov (.s 32))⟩])
 (.seq (.ops [⟨(some 34), some undefA, none, false, .pu (.bget none 1 0 2 true)⟩,
   ⟨(some 35), some undefA, none, false, .call 46 [(.s 34)]⟩,
   ⟨(some 33), some undefA, none, false, .pu (.mov (.s 35))⟩,
   ⟨(some 36), some undefA, none, false, .pu (.extr 0 (.s 33))⟩,
   ⟨(some 37), some undefA, none, false, .pu (.extr 1 (.s 33))⟩,
   ⟨(some 9), some undefA, none, false, .pu (.mov (.s 36))⟩,
   ⟨(some 10), some undefA, none, false, .pu (.mov (.s 37))⟩])
 (.seq (.ops [⟨(some 39), some undefA, none, false, .pu (.bget none 1 0 2 true)⟩,
   ⟨(some 40), some undefA, none, false, .call 47 [(.s 39)]⟩,
   ⟨(some 38), some undefA, none, false, .pu (.mov (.s 40))⟩,
   ⟨(some 41), some undefA, none, false, .pu (.extr 0 (.s 38))⟩,
   ⟨(some 42), some undefA, none, false, .pu (.extr 1 (.s 38))⟩,
   ⟨(some 11), some undefA, none, false, .pu (.mov (.s 41))⟩,
   ⟨(some 12), some undefA, none, false, .pu (.mov (.s 42))⟩])
 (.seq (.ops [⟨(some 44), some undefA, none, false, .pu (.bget none 1 0 2 true)⟩,
   ⟨(some 45), some undefA, none, false, .call 48 [(.s 44)]⟩,
   ⟨(some 43), some undefA, none, false, .pu (.mov (.s 45))⟩,
   ⟨(some 46), some undefA, none, false, .pu (.extr 0 (.s 43))⟩,
   ⟨(some 47), some undefA, none, false, .pu (.extr 1 (.s 43))⟩,
   ⟨(some 13), some undefA, none, false, .pu (.mov (.s 46))⟩,
   ⟨(some 14), some undefA, none, false, .pu (.mov (.s 47))⟩])
 (.seq (.ops [⟨(some 48), some undefA, none, false, .pu (.mov (.s 3))⟩,
   ⟨(some 49), some undefA, none, false, .pu (.mov (.s 5))⟩,
   ⟨(some 50), some undefA, none, false, .pu (.bin .eql (.s 48) (.s 49))⟩,
   ⟨(some 51), some undefA, none, false, .pu (.mov (.s 50))⟩,
   ⟨(some 52), some undefA, (some (51, true)), false, .pu (.mov (.s 4))⟩,
   ⟨(some 53), some undefA, (some (51, true)), false, .pu (.mov (.s 6))⟩,
   ⟨(some 54), some undefA, (some (51, true)), false, .pu (.bin .eql (.s 52) (.s 53))⟩,
   ⟨(some 55), some undefA, none, false, .pu (.pick (.s 51) (.s 54) (.c (.bool false)))⟩,
   ⟨(some 56), some undefA, none, false, .pu (.mov (.s 55))⟩,
   ⟨(some 57), some undefA, (some (56, true)), false, .pu (.mov (.s 8))⟩,
   ⟨(some 58), some undefA, (some (56, true)), false, .pu (.mov (.s 10))⟩,
   ⟨(some 59), some undefA, (some (56, true)), false, .pu (.bin .eql (.s 57) (.s 58))⟩,
   ⟨(some 60), some undefA, none, false, .pu (.pick (.s 56) (.s 59) (.c (.bool false)))⟩,
   ⟨(some 61), some undefA, none, false, .pu (.mov (.s 60))⟩,
   ⟨(some 62), some undefA, (some (61, true)), false, .pu (.mov (.s 7))⟩,
   ⟨(some 63), some undefA, (some (61, true)), false, .pu (.mov (.s 9))⟩,
   ⟨(some 64), some undefA, (some (61, true)), false, .call 49 [(.s 62), (.s 63)]⟩,
   ⟨(some 65), some undefA, none, false, .pu (.pick (.s 61) (.s 64) (.c (.bool false)))⟩,
   ⟨(some 66), some undefA, none, false, .pu (.mov (.s 65))⟩,
   ⟨(some 67), some undefA, (some (66, true)), false, .pu (.mov (.s 12))⟩,
   ⟨(some 68), some undefA, (some (66, true)), false, .pu (.mov (.s 14))⟩,
   ⟨(some 69), some undefA, (some (66, true)), false, .pu (.bin .eql (.s 67) (.s 68))⟩,
   ⟨(some 70), some undefA, none, false, .pu (.pick (.s 66) (.s 69) (.c (.bool false)))⟩,
   ⟨(some 71), some undefA, none, false, .pu (.mov (.s 70))⟩,
   ⟨(some 72), some undefA, (some (71, true)), false, .pu (.mov (.s 11))⟩,
   ⟨(some 73), some undefA, (some (71, true)), false, .pu (.mov (.s 13))⟩,
   ⟨(some 74), some undefA, (some (71, true)), false, .call 49 [(.s 72), (.s 73)]⟩,
   ⟨(some 75), some undefA, none, false, .pu (.pick (.s 71) (.s 74) (.c (.bool false)))⟩,
   ⟨(some 76), some undefA, none, false, .pu (.mov (.s 75))⟩,
   ⟨(some 77), some undefA, (some (76, true)), false, .call 18 []⟩,
   ⟨(some 78), some undefA, none, false, .pu (.pick (.s 76) (.s 77) (.c (.bool false)))⟩,
   ⟨(some 2), some undefA, none, false, .pu (.mov (.s 78))⟩])
 (.ret)))))))))⟩
theorem t13 : trF Try.prog [1] [] Try.f13 = some m13 := by kernel_rfl
end Go.Proofs.Ytkgfcdpckfhknaa

namespace Go.Proofs.Ytkgfcdpckfhknaa
open Go Go.Eng
/-- One road on a way. -/
def stp (rs : List Rd) (p : Int × Int) (k : Int) : Option (Int × Int) :=
  if p.1 = (rdx rs k).1 then some ((rdx rs k).2.1, max p.2 (wct rs k)) else if p.1 = (rdx rs k).2.1 then some ((rdx rs k).1, max p.2 (wct rs k)) else none
/-- A way from a place: where it ends, and its worst. -/
def wk (rs : List Rd) (p : Int × Int) : List Int → Option (Int × Int)
  | [] => some p
  | k :: ks => match stp rs p k with
    | some q => wk rs q ks
    | none => none
section
variable {Q : Int} {rs : List Rd} {ks : List Int} {u v : AV} {A : AHeap} {a b : Int}
/-- The error of a net and numbers of roads. -/
def nE (Q : Int) (rs : List Rd) (ks : List Int) : Int := if vE Q rs = 0 then (if notOf rs.length ks = true then 4 else 0) else vE Q rs
end
end Go.Proofs.Ytkgfcdpckfhknaa

namespace Go.Proofs.Ytkgfcdpckfhknaa
open Go Go.Eng
section
variable {Q : Int} {rs : List Rd} {ks : List Int} {u v : AV} {A : AHeap} {a b : Int}
/-- A road crosses a set's border, and costs no more. -/
def xR (ks : List Int) (c : Int) (r : Rd) : Prop := ¬ (decide (r.1 ∈ ks) = decide (r.2.1 ∈ ks)) ∧ r.2.2 ≤ c
instance xRdec (ks : List Int) (c : Int) (r : Rd) : Decidable (xR ks c r) := by unfold xR; infer_instance
end
end Go.Proofs.Ytkgfcdpckfhknaa

namespace Go.Proofs.Ytkgfcdpckfhknaa
open Go Go.Eng
section
variable {P : Nat} {rs : List Rd} {ks : List Int} {u v : AV} {A : AHeap}
end
end Go.Proofs.Ytkgfcdpckfhknaa

namespace Go.Proofs.Ytkgfcdpckfhknaa
open Go Go.Eng
theorem fpos_in {p : Int} {l : List Int} (h : p ∈ l) : ∃ k : Nat, k < l.length ∧ fpos (fun y => decide (p = y)) l = k ∧ l[k]? = some p := by
  obtain ⟨k, hk⟩ : ∃ k, l.findIdx? (fun y => decide (p = y)) = some k := by
    cases hf : l.findIdx? (fun y => decide (p = y)) with
    | some k => exact ⟨k, rfl⟩
    | none =>
      rw [List.findIdx?_eq_none_iff] at hf
      have := hf p h
      simp at this
  have hk2 := hk
  rw [List.findIdx?_eq_some_iff_getElem] at hk2
  obtain ⟨h1, h2, _⟩ := hk2
  refine ⟨k, h1, by unfold fpos; rw [hk], ?_⟩
  rw [List.getElem?_eq_getElem h1]
  have : p = l[k] := by simpa using h2
  rw [← this]
theorem repl_zero (n : Nat) : repl [AV.int .i64 0] n = (List.replicate n (0 : Int)).flatMap Go.Eng.e1 := by
  induction n with
  | zero => rfl
  | succ n ih => rw [repl, ih, List.replicate_succ, List.flatMap_cons]; rfl
theorem app_fresh {α : Type} {es : Nat} {e : α → List AV} {B : AHeap} {y : AV} {ys : List α} (hy : Ls es e B y ys) {n : Nat} (hn : B[n]? = some (.cells true [])) (h0 : 0 < ys.length) (hl : ys.length ≤ lim) :
    appA es B (.sl es n 0 0 true) y = some (.sl es B.length 0 ys.length false, B ++ [.cells true (ys.flatMap e)]) := by
  unfold appA
  rw [hy.hc]
  have : ys.length ≠ 0 := by omega
  simp [this, hn, hl]
/-- Cells that are cleared. -/
def clA (es : Nat) (zero : List AV) (x : AV) (H : AHeap) : Option AHeap :=
  match x with
    | .nilS => some H
    | .sl es' n off len _ => if len = 0 then some H else if es' = es then match H[n]? with
        | some (.cells true l) => if off + len * es ≤ l.length then some (H.set n (.cells true (splice l off (repl zero len)))) else none
        | _ => none
      else none
    | _ => none
theorem hval_clr (es : Nat) (zero : List AV) (x : Opd) (S : List AV) (H : AHeap) : hval (.clr es zero x) S H = (clA es zero (rd S x) H).map (fun H' => (undefA, H')) := by
  simp only [hval, clA]
  cases rd S x with
  | sl es' n off len full =>
    simp only
    by_cases h0 : len = 0
    · simp [h0]
    · by_cases h1 : es' = es
      · simp only [h0, h1, if_true, if_false]
        cases H[n]? with
        | none => rfl
        | some o =>
          cases o with
          | cells rw l =>
            cases rw
            · rfl
            · simp only
              split <;> rfl
          | _ => rfl
      · simp [h0, h1]
  | nilS => rfl
  | _ => rfl
theorem OL_clr {A H : AHeap} {n : Nat} {v : AV} {xs : List Int} (h : OL 1 e1 A H n v xs) (i : Nat) (hi : i ≤ xs.length) (full : Bool) :
    clA 1 [.int .i64 0] (.sl 1 n (i * 1) (xs.length - i) full) H = some (H.set n (.cells true ((xs.take i ++ List.replicate (xs.length - i) 0).flatMap e1))) := by
  have hl := flatMap_length e1_len xs
  unfold clA
  by_cases h0 : xs.length - i = 0
  · have : i = xs.length := by omega
    simp only [h0, if_true]
    rw [List.replicate_zero, List.append_nil, List.take_of_length_le (by omega), set_same h.ob]
  · simp only [h0, if_false, if_true, h.ob]
    rw [if_pos (by omega), repl_zero]
    congr 2
    congr 1
    unfold splice
    have h1 := flat_take e1_len xs i hi
    rw [h1, flatMap_length e1_len, List.length_replicate, List.flatMap_append, List.append_assoc]
    congr 1
    rw [List.drop_of_length_le (by omega), List.append_nil]
theorem s103 {x p : Int} {A : AHeap} {a : Nat} (h : ldA 1 false (.ptr a 0) A = some (I p)) : ACalls Try.prog 103 [I x, .ptr a 0] A (B (decide (x = p))) A := by
  refine acalls hmix Try.func103 (by kernel_rfl) t103 2 rfl (by decide) ?_
  dsimp only [m103]
  simp (maxSteps := 4000000) -implicitDefEqProofs -dsimp (disch := omega) only [↓AW_ops, ↓AW_seq, ↓AW_ret, ↓AOps_nil, ↓AOps_pu, ↓AOps_ld, on_some, ↓then_normal, ↓Fin_ret, pval, lval, rd_S, rd_C, put_S, resV, resL, List.replicate_succ, List.replicate_zero, List.set_cons_zero, List.set_cons_succ, List.getElem?_cons_zero, List.getElem?_cons_succ, Option.getD_some, Nat.reduceSub, List.cons_append, List.nil_append, bin_eql, h]
  exact gc_same rfl
def without (l : List Int) (p : Int) : List Int := l.filter (fun x => !decide (x = p))
theorem without_take {l : List Int} {j : Nat} {z p : Int} (h : l[j]? = some z) : without (l.take (j + 1)) p = without (l.take j) p ++ if z = p then [] else [z] := by
  unfold without
  rw [List.take_add_one, h, List.filter_append]
  by_cases hz : z = p <;> simp [hz]
theorem without_le (l : List Int) (p : Int) : (without l p).length ≤ l.length := List.length_filter_le _ _
set_option maxHeartbeats 1000000 in
theorem s101 {A H : AHeap} {n a : Nat} {full : Bool} {xs : List Int} {p : Int} (h : OL 1 e1 A H n (.sl 1 n 0 xs.length full) xs) (hl : xs.length ≤ 1000) (ha : a ≠ n) (hp : ldA 1 false (.ptr a 0) H = some (I p)) :
    ACalls Try.prog 101 [.sl 1 n 0 xs.length full, .fn 103 [.ptr a 0]] H (.sl 1 n 0 (without xs p).length (full && ((without xs p).length == xs.length))) (H.set n (.cells true ((without xs p ++ List.replicate (xs.length - (without xs p).length) 0).flatMap e1))) := by
  refine acalls hmix Try.func101 (by kernel_rfl) t101 2 rfl (by decide) ?_
  have hpk : ∀ ys : List Int, ldA 1 false (.ptr a 0) (H.set n (.cells true (ys.flatMap e1))) = some (I p) := fun ys => by
    unfold ldA at hp ⊢
    simp only at hp ⊢
    rw [List.getElem?_set_ne (Ne.symm ha)]
    exact hp
  have hln : ∀ k, lenA (.sl 1 n 0 k full) = some (I k) := fun k => rfl
  dsimp only [m101]
  simp (maxSteps := 4000000) -implicitDefEqProofs -dsimp (disch := omega) only [↓AW_ops, ↓AW_seq, ↓AOps_nil, ↓AOps_pu, ↓AOps_call, on_some, ↓then_normal, pval, rd_S, rd_C, put_S, List.replicate_succ, List.replicate_zero, List.set_cons_zero, List.set_cons_succ, List.getElem?_cons_zero, List.getElem?_cons_succ, Option.getD_some, map_c, map_n, Nat.reduceSub, List.cons_append, List.nil_append]
  refine CallK.of (c_IndexFunc h.ls (by omega) 103 [.ptr a 0] (fun x => decide (x = p)) (fun x _ => s103 hp)) ?_
  by_cases hmem : p ∈ xs
  · obtain ⟨i0, hi0, hf, hz0⟩ := fpos_in hmem
    have hfe : fpos (fun x => decide (x = p)) xs = i0 := by
      rw [← hf]; congr 1; funext y; rw [decide_eq_decide]; exact ⟨fun e => e.symm, fun e => e.symm⟩
    rw [hfe]
    have hne : ¬ (i0 : Int) = -1 := by omega
    have hpre : ∀ y ∈ xs.take i0, y ≠ p := fun y hy e => by
      have h2 : xs.findIdx? (fun y => decide (p = y)) = some i0 := by
        unfold fpos at hf
        cases hh : xs.findIdx? (fun y => decide (p = y)) with
        | none => rw [hh] at hf; simp at hf
        | some k => rw [hh] at hf; simp at hf; congr 1; omega
      rw [List.findIdx?_eq_some_iff_getElem] at h2
      obtain ⟨_, _, h3⟩ := h2
      obtain ⟨j, hj, he⟩ := List.mem_take_iff_getElem.1 hy
      have := h3 j (by omega)
      rw [he, e] at this
      simp at this
    have hw0 : without (xs.take i0) p = xs.take i0 := by
      unfold without
      rw [List.filter_eq_self]
      intro y hy
      simp [hpre y hy]
    have hw1 : without (xs.take (i0 + 1)) p = xs.take i0 := by rw [without_take hz0, if_pos rfl, hw0, List.append_nil]
    simp (maxSteps := 4000000) -implicitDefEqProofs -dsimp (disch := omega) only [↓AW_skip, ↓AW_ops, ↓AW_seq, ↓AW_cond, ↓AW_block, ↓AOps_nil, ↓AOps_pu, on_some, extK_same, condB_f, ↓then_normal, pval, rd_S, rd_C, put_S, ↓AW_toLoop, List.replicate_succ, List.replicate_zero, List.set_cons_zero, List.set_cons_succ, List.getElem?_cons_zero, List.getElem?_cons_succ, Option.getD_some, Nat.reduceSub, List.cons_append, List.nil_append, bin_add, bin_eql, w64, decide_false, Int.reduceNeg, hne]
    refine LoopK.by 42 (fun x : Nat × Nat × List Int => (x.2.1 ≤ xs.length ∧ x.1 < x.2.1) ∧ x.2.2.length = xs.length ∧ x.2.2.take x.1 = without (xs.take x.2.1) p ∧ x.2.2.drop x.2.1 = xs.drop x.2.1) (fun x => [(0, .sl 1 n 0 xs.length full), (1, .fn 103 [.ptr a 0]), (5, I x.1), (6, I x.2.1)]) (fun x => H.set n (.cells true (x.2.2.flatMap e1))) (fun x => xs.length - x.2.1) (i0, i0 + 1, xs) ⟨by simp only; omega, rfl, hw1.symm, rfl⟩ rfl (by simp [Has, rd_s]) (by simp only; rw [set_same h.ob]) ?_
    rintro ⟨i, j, ys⟩ ⟨⟨hj, hij⟩, hyl, hyt, hyd⟩
    simp only at hj hij hyl hyt hyd
    have ho := OL_setAll h ys hyl
    have hwl : (without (xs.take j) p).length = i := by rw [← hyt, List.length_take]; omega
    by_cases hlt : j < xs.length
    · have hlt' : (j : Int) < xs.length := by omega
      obtain ⟨z, hz⟩ : ∃ z, xs[j]? = some z := ⟨_, List.getElem?_eq_getElem hlt⟩
      have hzy : ys[j]? = some z := by
        have : (ys.drop j)[0]? = (xs.drop j)[0]? := by rw [hyd]
        rw [List.getElem?_drop, List.getElem?_drop, Nat.add_zero] at this
        rw [this]; exact hz
      have hjy : j < ys.length := by omega
      have hiy : i < ys.length := by omega
      simp (maxSteps := 4000000) -implicitDefEqProofs -dsimp (disch := omega) only [↓AW_skip, ↓AW_ops, ↓AW_seq, ↓AW_cond, ↓AW_block, ↓AOps_nil, ↓AOps_pu, ↓AOps_ld, ↓AOps_callv, on_some, CallF_fn, condB_t, ↓then_normal, pval, lval, rd_S, put_S, partA, eq_self, mk, List.foldl_cons, List.foldl_nil, List.replicate_succ, List.replicate_zero, List.set_cons_zero, List.set_cons_succ, List.getElem?_cons_zero, List.getElem?_cons_succ, List.drop_zero, List.take_succ_cons, List.take_nil, Option.getD_some, map_c, map_n, List.length_cons, List.length_nil, Nat.reduceLeDiff, Nat.zero_add, List.cons_append, List.nil_append, bin_lss, if_true, if_false, Bool.false_eq_true, decide_true, Go.Eng.e1, hlt', hln, ho.ls.idx hjy, ho.ls.ld0 hzy 1 false (by decide)]
      refine CallK.of (s103 (hpk ys)) ?_
      by_cases hzp : z = p
      · simp (maxSteps := 4000000) -implicitDefEqProofs -dsimp (disch := omega) only [↓AW_skip, ↓AW_ops, ↓AW_cond, ↓AOps_nil, ↓AOps_pu, on_some, extK_same, condB_f, ↓then_normal, ↓inBlock_normal, pval, rd_S, rd_C, put_S, eq_self, mk, List.foldl_cons, List.foldl_nil, List.replicate_succ, List.replicate_zero, List.set_cons_zero, List.set_cons_succ, List.getElem?_cons_zero, List.getElem?_cons_succ, Option.getD_some, List.length_cons, List.length_nil, Nat.reduceAdd, Nat.zero_add, bin_add, w64, Bool.not_true, decide_true, true_and, hzp]
        refine ⟨(i, j + 1, ys), ⟨⟨hlt, by simp only; omega⟩, hyl, ?_, ?_⟩, by simp [Has, rd_s], rfl, by simp only; omega⟩
        · simp only; rw [without_take hz, if_pos hzp, List.append_nil]; exact hyt
        · simp only
          rw [← List.drop_drop, ← List.drop_drop, hyd]
      · have hst := ho.st hiy (I z) z rfl
        rw [List.set_set] at hst
        simp (maxSteps := 4000000) -implicitDefEqProofs -dsimp (disch := omega) only [↓AW_ops, ↓AW_seq, ↓AW_cond, ↓AOps_nil, ↓AOps_pu, ↓AOps_ha, on_some, extK_false, extK_same, condB_t, ↓then_normal, ↓inBlock_normal, pval, hval_st, rd_S, rd_C, put_S, putS_none, eq_self, mk, List.foldl_cons, List.foldl_nil, List.replicate_succ, List.replicate_zero, List.set_cons_zero, List.set_cons_succ, List.getElem?_cons_zero, List.getElem?_cons_succ, Option.getD_some, Option.map_some, List.length_cons, List.length_nil, Nat.reduceAdd, Nat.zero_add, bin_add, w64, Bool.not_false, decide_false, true_and, hzp, ho.ls.idx hiy, hst]
        refine ⟨(i + 1, j + 1, ys.set i z), ⟨⟨hlt, by simp only; omega⟩, by simp [hyl], ?_, ?_⟩, by simp [Has, rd_s], rfl, by simp only; omega⟩
        · simp only
          rw [without_take hz, if_neg hzp, ← hyt, List.take_add_one, List.getElem?_set_self hiy, Option.toList_some, List.take_set_of_le (Nat.le_refl _)]
        · simp only
          rw [List.drop_set_of_lt (by omega), ← List.drop_drop, ← List.drop_drop, hyd]
    · have hlt' : ¬ ((j : Int) < xs.length) := by omega
      have hjj : j = xs.length := by omega
      rw [show xs.take j = xs from List.take_of_length_le (by omega)] at hyt hwl
      have hs1 : slcA 1 (.sl 1 n 0 xs.length full) (some (I i)) none none = some (.sl 1 n (i * 1) (xs.length - i) full) := by
        have : i ≤ xs.length := by omega
        simp [slcA, bnd, this]
      have hs2 : slcA 1 (.sl 1 n 0 xs.length full) none (some (I i)) none = some (.sl 1 n 0 i (full && (i == xs.length))) := by
        have : i ≤ xs.length := by omega
        simp [slcA, bnd, this]
      have hc := OL_clr ho i (by omega) full
      rw [hyl, List.set_set, hyt] at hc
      simp (maxSteps := 4000000) -implicitDefEqProofs -dsimp (disch := omega) only [↓AW_ops, ↓AW_seq, ↓AW_cond, ↓AW_exit, ↓AW_ret, ↓AOps_nil, ↓AOps_pu, ↓AOps_ha, on_some, extK_false, condB_f, ↓then_normal, ↓then_exit, ↓inBlock_exit, ↓Fin_ret, pval, rd_S, put_S, putS_none, resV, resL, eq_self, mk, List.foldl_cons, List.foldl_nil, List.replicate_succ, List.replicate_zero, List.set_cons_zero, List.set_cons_succ, List.getElem?_cons_zero, List.getElem?_cons_succ, Option.getD_some, Option.map_some, Option.map_none, bin_lss, if_true, decide_false, hlt', hln, hs1, hval_clr, hc, hs2]
      exact gc_same_all (by rw [hwl]) (by rw [hwl])
  · have hfe : fpos (fun x => decide (x = p)) xs = -1 := fpos_none (fun y hy => by
      rw [decide_eq_false_iff_not]; rintro rfl; exact hmem hy)
    rw [hfe]
    have hw : without xs p = xs := by
      unfold without
      rw [List.filter_eq_self]
      intro y hy
      have : y ≠ p := by rintro rfl; exact hmem hy
      simp [this]
    simp (maxSteps := 4000000) -implicitDefEqProofs -dsimp (disch := omega) only [↓AW_ops, ↓AW_seq, ↓AW_cond, ↓AW_ret, ↓AOps_nil, ↓AOps_pu, on_some, extK_same, condB_t, ↓then_normal, ↓then_ret, ↓Fin_ret, pval, rd_S, rd_C, put_S, resV, resL, eq_self, List.replicate_succ, List.replicate_zero, List.set_cons_zero, List.set_cons_succ, List.getElem?_cons_zero, List.getElem?_cons_succ, Option.getD_some, Nat.reduceSub, List.cons_append, List.nil_append, bin_eql, decide_true, Int.reduceNeg]
    refine gc_same_all (by rw [hw]; simp) ?_
    rw [hw, Nat.sub_self, List.replicate_zero, List.append_nil, set_same h.ob]
theorem s102 {A : AHeap} {v : AV} {xs : List Int} (hx : L1 A v xs) (h0 : 0 < xs.length) (hl : xs.length ≤ 1000) : ACalls Try.prog 102 [v] A (.sl 1 (A.length + 1) 0 xs.length false) (A ++ [.cells true [], .cells true (xs.flatMap e1)]) := by
  refine acalls hmix Try.func102 (by kernel_rfl) t102 1 rfl (by decide) ?_
  rcases hx.inv with ⟨rfl, rfl⟩ | ⟨n, off, full, rw, l, rfl, h1, h2, h3⟩
  · simp at h0
  · have happ := app_fresh (hx.mono (pre_app A [.cells true []])) (get_new A (.cells true [])) h0 (by simp [lim]; omega)
    rw [List.length_append, List.length_singleton] at happ
    dsimp only [m102]
    simp (maxSteps := 4000000) -implicitDefEqProofs -dsimp (disch := omega) only [↓AW_skip, ↓AW_ops, ↓AW_seq, ↓AW_cond, ↓AW_ret, ↓AOps_nil, ↓AOps_pu, ↓AOps_ha, on_some, extK_app, condB_f, ↓then_normal, ↓Fin_ret, pval, hval_blds, hval_app, rd_S, rd_C, put_S, resV, resL, fillA, repl, List.replicate_succ, List.replicate_zero, List.set_cons_zero, List.set_cons_succ, List.getElem?_cons_zero, List.getElem?_cons_succ, Option.getD_some, map_n, Nat.reduceSub, List.cons_append, List.nil_append, List.replicate_zero, repl, happ]
    exact gc_same_all rfl (by simp)
/-- A list without a road. -/
theorem s63 {A : AHeap} {v : AV} {xs : List Int} (hx : L1 A v xs) (h0 : 0 < xs.length) (hl : xs.length ≤ 1000) (k : Int) : ∃ r H, ACalls Try.prog 63 [v, I k] A r H ∧ A <+: H ∧ L1 H r (without xs k) := by
  refine acallsR hmix Try.func63 (by kernel_rfl) t63 _ 2 rfl (by decide) ?_
  have hpA := pre_app A [AObj.cells true [I k]]
  dsimp only [m63]
  simp (maxSteps := 4000000) -implicitDefEqProofs -dsimp (disch := omega) only [↓AW_ops, ↓AW_seq, ↓AOps_nil, ↓AOps_pu, ↓AOps_ha, ↓AOps_call, on_some, extK_app, ↓then_normal, pval, hval_newv, rd_S, rd_C, put_S, cells_int, List.replicate_succ, List.replicate_zero, List.set_cons_zero, List.set_cons_succ, List.getElem?_cons_zero, List.getElem?_cons_succ, Option.getD_some, map_c, map_n, Nat.reduceSub, List.cons_append, List.nil_append]
  refine CallK.of (s102 (hx.mono hpA) h0 hl) ?_
  have hpB := pre_app (A ++ [AObj.cells true [I k]]) [AObj.cells true [], AObj.cells true (xs.flatMap e1)]
  have hOL : OL 1 e1 A (A ++ [AObj.cells true [I k]] ++ [AObj.cells true [], AObj.cells true (xs.flatMap e1)]) ((A ++ [AObj.cells true [I k]]).length + 1) (.sl 1 ((A ++ [AObj.cells true [I k]]).length + 1) 0 xs.length false) xs := by
    have h0 := OL.new_mk e1_len (A ++ [AObj.cells true [I k]] ++ [AObj.cells true []]) xs false
    have q1 : A ++ [AObj.cells true [I k]] ++ [AObj.cells true []] ++ [AObj.cells true (xs.flatMap e1)] = A ++ [AObj.cells true [I k]] ++ [AObj.cells true [], AObj.cells true (xs.flatMap e1)] := by simp
    have q2 : (A ++ [AObj.cells true [I k]] ++ [AObj.cells true []]).length = (A ++ [AObj.cells true [I k]]).length + 1 := by simp
    rw [q1, q2] at h0
    exact ⟨h0.he, hpA.trans hpB, by simp; omega, h0.ob, h0.v⟩
  have hld : ldA 1 false (.ptr A.length 0) (A ++ [AObj.cells true [I k]] ++ [AObj.cells true [], AObj.cells true (xs.flatMap e1)]) = some (I k) := ld_mono hpB (by simp [ldA, partA])
  have h101 := s101 (p := k) hOL hl (a := A.length) (by simp; omega) hld
  simp (maxSteps := 4000000) -implicitDefEqProofs -dsimp (disch := omega) only [↓AOps_pu, ↓AOps_call, on_some, extK_app, pval, rd_S, put_S, List.replicate_succ, List.replicate_zero, List.set_cons_zero, List.set_cons_succ, List.getElem?_cons_zero, List.getElem?_cons_succ, Option.getD_some, map_c, map_n, Nat.reduceSub, List.cons_append, List.nil_append]
  refine CallK.of h101 ?_
  have hw := without_le xs k
  simp (maxSteps := 4000000) -implicitDefEqProofs -dsimp (disch := omega) only [↓AW_ret, ↓AOps_nil, ↓AOps_pu, on_some, extK_false, ↓then_normal, ↓FinR_ret, pval, rd_S, put_S, resV, resL, List.replicate_succ, List.replicate_zero, List.set_cons_zero, List.set_cons_succ, List.getElem?_cons_zero, List.getElem?_cons_succ, Option.getD_some, Nat.reduceSub, List.cons_append, List.nil_append, Bool.false_and]
  refine ⟨_, _, gc_all, ?_, ?_⟩
  · exact pre_set (hpA.trans hpB) (by simp; omega) _
  · refine ⟨e1_len, ?_⟩
    have hlen : ((A ++ [AObj.cells true [I k]]).length + 1) < (A ++ [AObj.cells true [I k]] ++ [AObj.cells true [], AObj.cells true (xs.flatMap e1)]).length := by simp
    have hfl := flatMap_length e1_len (without xs k)
    simp only [slCells, cellsAt, List.getElem?_set_self hlen, if_true]
    rw [if_pos (by rw [flatMap_length e1_len, List.length_append, List.length_replicate]; omega)]
    simp only [Option.map_some, Option.some.injEq, Prod.mk.injEq, true_and, List.flatMap_append, List.drop_zero]
    rw [← hfl, List.take_left]
end Go.Proofs.Ytkgfcdpckfhknaa

namespace Go.Proofs.Ytkgfcdpckfhknaa
open Go Go.Eng
/-- The net's roads but one. -/
def but (rs : List Rd) (k : Int) : List Int := (nums rs).filter (fun i => decide (¬ i = k))
section
variable {Q : Int} {rs : List Rd} {ks : List Int} {u v : AV} {A : AHeap}
def rgJ (Q : Int) (rs : List Rd) (k : Int) : Prop := nE Q rs [k] = 0 ∧ Jbl Q.toNat rs
noncomputable instance rgJdec (Q : Int) (rs : List Rd) (k : Int) : Decidable (rgJ Q rs k) := Classical.propDecidable _
end
end Go.Proofs.Ytkgfcdpckfhknaa

namespace Go.Proofs.Ytkgfcdpckfhknaa
open Go Go.Eng
/-- A map from places to pairs of numbers. -/
def mG (ks : List Int) (g : Int → Int × Int) : List (AV × AV) := mpl ks (fun q => .agg [I (g q).1, I (g q).2])
def updG (g : Int → Int × Int) (k : Int) (x : Int × Int) : Int → Int × Int := fun p => if p = k then x else g p
/-- A list that the call has made and that stands apart from an object. -/
structure QS (A H : AHeap) (m : Nat) (y : AV) (qs : List Int) : Prop where
  q : ∃ n full pre post, y = .sl 1 n pre.length qs.length full ∧ H[n]? = some (.cells true (pre ++ qs.flatMap e1 ++ post)) ∧ n ≠ m ∧ A.length ≤ n ∧ (full = true → post = [])
theorem QS.ls {A H : AHeap} {m : Nat} {y : AV} {qs : List Int} (h : QS A H m y qs) : L1 H y qs := by
  obtain ⟨n, full, pre, post, rfl, h1, _, _, _⟩ := h.q
  refine ⟨e1_len, ?_⟩
  have hl := flatMap_length e1_len qs
  simp only [slCells, cellsAt, h1, if_true]
  rw [if_pos (by simp only [List.length_append]; omega)]
  simp only [Option.map_some, Option.some.injEq, Prod.mk.injEq, true_and]
  rw [List.append_assoc, List.drop_left, ← hl, List.take_left]
theorem QS.push {A H : AHeap} {m : Nat} {y : AV} {qs : List Int} (h : QS A H m y qs) (hp : A <+: H) (hl : qs.length + 1 ≤ lim) (hm : m < H.length) (q : Int) : ∃ y' H2, appA 1 (H ++ [.cells true [I q]]) y (.sl 1 H.length 0 1 true) = some (y', H2) ∧ QS A H2 m y' (qs ++ [q]) ∧ (∀ o, H[m]? = some o → H2[m]? = some o) ∧ A <+: H2 := by
  obtain ⟨n, full, pre, post, rfl, h1, h2, h3, h4⟩ := h.q
  have hn := (List.getElem?_eq_some_iff.1 h1).1
  have hfl := flatMap_length e1_len qs
  have hc := slCells_new (es := 1) H [I q] rfl
  have hg : (H ++ [AObj.cells true [I q]])[n]? = some (.cells true (pre ++ qs.flatMap e1 ++ post)) := by rw [List.getElem?_append_left hn]; exact h1
  have hnew : ((pre ++ qs.flatMap e1 ++ post).drop pre.length).take (qs.length * 1) ++ [I q] = (qs ++ [q]).flatMap e1 := by
    rw [List.append_assoc, List.drop_left, ← hfl, List.take_left, List.flatMap_append]
    rfl
  have hlen : (qs ++ [q]).length = qs.length + 1 := by simp
  unfold appA
  rw [hc]
  simp only [Nat.one_ne_zero, if_false, hl, and_self, if_true, hg]
  rw [if_pos (by simp only [List.length_append]; omega), hnew]
  cases full with
  | true =>
    simp only [if_true]
    refine ⟨_, _, rfl, ⟨_, false, [], [], by rw [hlen]; rfl, by simp, ?_, ?_, by simp⟩, ?_, ?_⟩
    · intro e
      simp only [List.length_append] at e
      omega
    · simp only [List.length_append]; have := hp.length_le; omega
    · intro o ho
      have := (List.getElem?_eq_some_iff.1 ho).1
      rw [List.getElem?_append_left (by simp only [List.length_append]; omega), List.getElem?_append_left this]
      exact ho
    · exact (hp.trans (pre_app _ _)).trans (pre_app _ _)
  | false =>
    simp only [Bool.false_eq_true, if_false]
    refine ⟨_, _, rfl, ⟨_, false, [], [], by rw [hlen]; rfl, by simp, ?_, ?_, by simp⟩, ?_, ?_⟩
    · intro e
      simp only [List.length_append] at e
      omega
    · simp only [List.length_append]; have := hp.length_le; omega
    · intro o ho
      have := (List.getElem?_eq_some_iff.1 ho).1
      rw [List.getElem?_append_left (by simp only [List.length_set, List.length_append]; omega), List.getElem?_set, if_neg h2, List.getElem?_append_left this]
      exact ho
    · exact (pre_set (hp.trans (pre_app _ _)) h3 _).trans (pre_app _ _)
/-- A road up to a cost that joins two places. -/
def jn (rs : List Rd) (c k p q : Int) : Prop := (0 ≤ k ∧ k ≤ (rs.length : Int) - 1) ∧ wct rs k ≤ c ∧ (((rdx rs k).1 = p ∧ (rdx rs k).2.1 = q) ∨ ((rdx rs k).1 = q ∧ (rdx rs k).2.1 = p))
/-- The places in the order in which they were reached. -/
inductive BT (rs : List Rd) (c a : Int) : List Int → (Int → Int × Int) → Prop
  | base {g : Int → Int × Int} : BT rs c a [a] g
  | step {ks : List Int} {g : Int → Int × Int} {k p q : Int} : BT rs c a ks g → q ∉ ks → p ∈ ks → jn rs c k p q → BT rs c a (ks ++ [q]) (updG g q (k, p))
theorem BT.mem {rs : List Rd} {c a : Int} {ks : List Int} {g : Int → Int × Int} (h : BT rs c a ks g) : a ∈ ks := by
  induction h with
  | base => simp
  | step _ _ _ _ ih => exact List.mem_append_left _ ih
theorem BT.nodup {rs : List Rd} {c a : Int} {ks : List Int} {g : Int → Int × Int} (h : BT rs c a ks g) : ks.Nodup := by
  induction h with
  | base => simp
  | step _ hq _ _ ih => exact List.nodup_append.2 ⟨ih, by simp, fun x hx y hy e => hq (by rw [List.mem_singleton] at hy; rw [← hy, ← e]; exact hx)⟩
theorem BT.inP {P : Nat} {rs : List Rd} {c a : Int} {ks : List Int} {g : Int → Int × Int} (h : BT rs c a ks g) (hn : Net P rs) (ha : 0 ≤ a ∧ a < P) : ∀ p ∈ ks, 0 ≤ p ∧ p < P := by
  induction h with
  | base => intro p hp; rw [List.mem_singleton] at hp; rw [hp]; exact ha
  | step _ hq hp hj ih =>
    intro x hx
    rcases List.mem_append.1 hx with h1 | h1
    · exact ih x h1
    · rw [List.mem_singleton] at h1
      rw [h1]
      obtain ⟨⟨k0, k1⟩, _, hr⟩ := hj
      obtain ⟨ha1, hb1⟩ := hn.inP k0 k1
      rcases hr with ⟨_, e2⟩ | ⟨e1, _⟩
      · rw [← e2]; exact hb1
      · rw [← e1]; exact ha1
/-- Each place but the first was reached from an earlier one. -/
theorem BT.rank {rs : List Rd} {c a : Int} {ks : List Int} {g : Int → Int × Int} (h : BT rs c a ks g) : ∃ r : Int → Nat, ∀ q ∈ ks, r q < ks.length ∧ (¬ q = a → (g q).2 ∈ ks ∧ r (g q).2 < r q ∧ jn rs c (g q).1 (g q).2 q) := by
  induction h with
  | base => exact ⟨fun _ => 0, fun q hq => ⟨by simp, fun hn => absurd (List.mem_singleton.1 hq) hn⟩⟩
  | @step ks g k p q hb hq hp hj ih =>
    obtain ⟨r, hr⟩ := ih
    refine ⟨fun x => if x = q then ks.length else r x, fun x hx => ?_⟩
    by_cases hxq : x = q
    · subst hxq
      refine ⟨by simp, fun _ => ?_⟩
      have hpx : ¬ p = x := fun e => hq (by rw [← e]; exact hp)
      simp only [updG, if_true, hpx, if_false]
      exact ⟨List.mem_append_left _ hp, (hr p hp).1, hj⟩
    · have hxk : x ∈ ks := by
        rcases List.mem_append.1 hx with h1 | h1
        · exact h1
        · exact absurd (List.mem_singleton.1 h1) hxq
      obtain ⟨h1, h2⟩ := hr x hxk
      simp only [updG, hxq, if_false]
      refine ⟨by simp; omega, fun hn => ?_⟩
      obtain ⟨h3, h4, h5⟩ := h2 hn
      have hgq : ¬ (g x).2 = q := fun e => hq (by rw [← e]; exact h3)
      simp only [hgq, if_false]
      exact ⟨List.mem_append_left _ h3, h4, h5⟩
/-- All cheap roads from a place lead to places of a list. -/
def clo (rs : List Rd) (c : Int) (ks : List Int) (p : Int) : Prop := ∀ k q, jn rs c k p q → q ∈ ks
section
variable {P : Nat} {rs : List Rd} {u v : AV} {A : AHeap} {a c : Int}
structure BF (rs : List Rd) (P : Nat) (A : AHeap) (a c : Int) (ks : List Int) (g : Int → Int × Int) (qs : List Int) (y : AV) (H : AHeap) : Prop where
  pre : A <+: H
  mp : H[A.length]? = some (.mp (mG ks g))
  q : QS A H A.length y qs
  bt : BT rs c a ks g
  sub : ∀ p ∈ qs, p ∈ ks
  cl : ∀ p ∈ ks, p ∉ qs → clo rs c ks p
  len : qs.length ≤ ks.length
theorem BF.le {ks qs : List Int} {g : Int → Int × Int} {y : AV} {H : AHeap} (hb : BF rs P A a c ks g qs y H) (hn : Net P rs) (ha : 0 ≤ a ∧ a < P) : ks.length ≤ P := by
  have := nodup_len_le hb.bt.nodup (ys := plc P) (fun x hx => mem_plc.2 (hb.bt.inP hn ha x hx))
  rw [plc_len] at this
  exact this
theorem BF.push {ks qs : List Int} {g : Int → Int × Int} {y : AV} {H : AHeap} {k p q : Int} (hb : BF rs P A a c ks g qs y H) (hn : Net P rs) (ha : 0 ≤ a ∧ a < P) (hq : q ∉ ks) (hp : p ∈ ks) (hj : jn rs c k p q) :
    ∃ y' H2, appA 1 (H.set A.length (.mp (mG (ks ++ [q]) (updG g q (k, p)))) ++ [.cells true [I q]]) y (.sl 1 (H.set A.length (.mp (mG (ks ++ [q]) (updG g q (k, p))))).length 0 1 true) = some (y', H2) ∧ BF rs P A a c (ks ++ [q]) (updG g q (k, p)) (qs ++ [q]) y' H2 := by
  have hle := hb.le hn ha
  have hp7 := hn.p7
  have hAl : A.length < H.length := (List.getElem?_eq_some_iff.1 hb.mp).1
  have hp1 : A <+: H.set A.length (.mp (mG (ks ++ [q]) (updG g q (k, p)))) := pre_set hb.pre (Nat.le_refl _) _
  have hm1 : (H.set A.length (.mp (mG (ks ++ [q]) (updG g q (k, p)))))[A.length]? = some (.mp (mG (ks ++ [q]) (updG g q (k, p)))) := List.getElem?_set_self hAl
  have hq1 : QS A (H.set A.length (.mp (mG (ks ++ [q]) (updG g q (k, p))))) A.length y qs := by
    obtain ⟨n, full, pre, post, h0, h1, h2, h3, h4⟩ := hb.q.q
    exact ⟨n, full, pre, post, h0, by rw [List.getElem?_set_ne (Ne.symm h2)]; exact h1, h2, h3, h4⟩
  obtain ⟨y', H2, happ, hq2, hkeep, hp2⟩ := hq1.push hp1 (by have := hb.len; simp only [lim]; omega) (by rw [List.length_set]; exact hAl) q
  refine ⟨y', H2, happ, ⟨hp2, hkeep _ hm1, hq2, .step hb.bt hq hp hj, fun x hx => ?_, fun x hx hnx => ?_, by simp; exact hb.len⟩⟩
  · rcases List.mem_append.1 hx with h | h
    · exact List.mem_append_left _ (hb.sub x h)
    · exact List.mem_append_right _ h
  · have hxk : x ∈ ks := by
      rcases List.mem_append.1 hx with h | h
      · exact h
      · exact absurd (List.mem_append_right _ h) hnx
    exact fun k' q' h' => List.mem_append_left _ (hb.cl x hxk (fun h => hnx (List.mem_append_left _ h)) k' q' h')
end
end Go.Proofs.Ytkgfcdpckfhknaa

namespace Go.Proofs.Ytkgfcdpckfhknaa
open Go Go.Eng
/-- The error of a search for a wall. -/
def hE (Q : Int) (rs : List Rd) (a b c : Int) : Int := if pE Q rs a b = 0 then (if 0 ≤ c ∧ c ≤ 99 then 0 else 1) else pE Q rs a b
section
variable {Q : Int} {rs : List Rd} {ks : List Int} {u v : AV} {A : AHeap} {a b c : Int}
end
end Go.Proofs.Ytkgfcdpckfhknaa

namespace Go.Proofs.Ytkgfcdpckfhknaa
open Go Go.Eng
section
variable {Q : Int} {rs : List Rd} {ks : List Int} {u v : AV} {A : AHeap} {a b : Int}
end
end Go.Proofs.Ytkgfcdpckfhknaa

namespace Go.Proofs.Ytkgfcdpckfhknaa
open Go Go.Eng
/-- A tree's roads, one for another. -/
def mkT (ks : List Int) (o i : Int) (n : Nat) : List Int := (plc n).filter (fun j => decide (j = i ∨ (¬ j = o ∧ j ∈ ks)))
theorem mem_wo {l : List Int} {p j : Int} : j ∈ without l p ↔ j ∈ l ∧ ¬ j = p := by
  unfold Go.Proofs.Ytkgfcdpckfhknaa.without
  rw [List.mem_filter]
  simp
theorem cst_wo {w : Int → Int} {o : Int} : ∀ {ks : List Int}, ks.Nodup → o ∈ ks → cst w ks = cst w (without ks o) + w o
  | [], _, h => by simp at h
  | k :: ks, hn, h => by
    rw [List.nodup_cons] at hn
    by_cases hk : k = o
    · subst hk
      have : without (k :: ks) k = ks := by
        unfold Go.Proofs.Ytkgfcdpckfhknaa.without
        rw [List.filter_cons]
        simp only [decide_true, Bool.not_true, Bool.false_eq_true, if_false]
        rw [List.filter_eq_self]
        intro y hy
        have : ¬ y = k := fun e => hn.1 (by rw [← e]; exact hy)
        simp [this]
      rw [this, cst_cons]
      omega
    · have hok : o ∈ ks := by
        rcases List.mem_cons.1 h with e | e
        · exact absurd e.symm hk
        · exact e
      have : without (k :: ks) o = k :: without ks o := by
        unfold Go.Proofs.Ytkgfcdpckfhknaa.without
        rw [List.filter_cons]
        simp [hk]
      rw [this, cst_cons, cst_cons, cst_wo hn.2 hok]
      omega
end Go.Proofs.Ytkgfcdpckfhknaa

namespace Go.Proofs.Ytkgfcdpckfhknaa
open Go Go.Eng
/-- One road of a tree may be another. -/
def swp (P : Nat) (rs : List Rd) (ks : List Int) (o i : Int) : Prop := o ∈ ks ∧ i ∉ ks ∧ Tree P (rdx rs) (mkT ks o i rs.length)
noncomputable instance swpDec (P : Nat) (rs : List Rd) (ks : List Int) (o i : Int) : Decidable (swp P rs ks o i) := Classical.propDecidable _
section
variable {P : Nat} {rs : List Rd} {ks : List Int} {u v : AV} {A : AHeap}
end
end Go.Proofs.Ytkgfcdpckfhknaa

namespace Go.Proofs.Ytkgfcdpckfhknaa
open Go Go.Eng
section
variable {Q : Int} {rs : List Rd} {ks : List Int} {u v : AV} {A : AHeap}
end
end Go.Proofs.Ytkgfcdpckfhknaa

namespace Go.Proofs.Ytkgfcdpckfhknaa
open Go Go.Eng
section
variable {P : Nat} {rs : List Rd} {ks : List Int} {u v : AV} {A : AHeap}
theorem best_le (hn : Net P rs) {T : List Int} (hk : Nos rs T) (hT : Tree P (rdx rs) T) : best rs ≤ cst (wct rs) T := by
  have hO := ordL_ord rs
  have hP := hO.nos.inP hn
  have hTL : ∀ k ∈ T, k ∈ ordL rs := fun k h => hO.mem.2 (hk k h)
  have hG : Tree P (rdx rs) (grw (rdx rs) [] (ordL rs)) := (grw_tree hP (by have := hT.1; omega)).2 (tree_all hTL hT)
  unfold best
  exact grw_opt (M := 99) hP hO.s (hO.wb hn) hTL hT.ind (by have := hT.1; have := hG.1; omega)
end
section
variable {Q : Int} {rs : List Rd} {ks : List Int} {u v : AV} {A : AHeap}
end
end Go.Proofs.Ytkgfcdpckfhknaa

namespace Go.Proofs.Ytkgfcdpckfhknaa
open Go Go.Eng
section
variable {Q : Int} {rs : List Rd} {ks : List Int} {u v : AV} {A : AHeap}
set_option maxRecDepth 20000 in
set_option maxHeartbeats 16000000 in
theorem s43 (hu : L3 A u rs) (hW : W Q) : ACalls Try.prog 43 [.agg [I Q, u]] A (.tuple [I (tN Q rs), I (vE Q rs)]) A := by
  refine acalls hmix Try.func43 (by kernel_rfl) t43 1 rfl (by decide) ?_
  dsimp only [m43]
  simp (maxSteps := 4000000) -implicitDefEqProofs -dsimp (disch := omega) only [↓AW_ops, ↓AW_seq, ↓AOps_nil, ↓AOps_pu, ↓AOps_call, on_some, ↓then_normal, pval, rd_S, rd_C, put_S, chkd, bgot, AV.cells?, partA, eq_self, List.replicate_succ, List.replicate_zero, List.set_cons_zero, List.set_cons_succ, List.getElem?_cons_zero, List.getElem?_cons_succ, List.drop_zero, List.take_succ_cons, List.take_nil, Option.getD_some, map_c, map_n, List.length_cons, List.length_nil, Nat.reduceAdd, Nat.reduceSub, Nat.reduceLeDiff, Nat.reduceEqDiff, Nat.zero_add, List.cons_append, List.nil_append, if_true, if_false]
  refine CallK.of (s28 hu hW) ?_
  by_cases h0 : vE Q rs = 0
  case neg =>
    have hN : tN Q rs = 0 := if_neg h0
    rw [hN]
    simp (maxSteps := 4000000) -implicitDefEqProofs -dsimp (disch := omega) only [↓AW_ops, ↓AW_seq, ↓AW_cond, ↓AW_ret, ↓AOps_nil, ↓AOps_pu, on_some, extK_same, condB_t, ↓then_normal, ↓then_ret, ↓Fin_ret, pval, rd_S, rd_C, put_S, resV, resL, List.replicate_succ, List.replicate_zero, List.set_cons_zero, List.set_cons_succ, List.getElem?_cons_zero, List.getElem?_cons_succ, Option.getD_some, Nat.reduceSub, List.cons_append, List.nil_append, bin_neq, decide_true, not_false_eq_true, h0]
    exact gc_same rfl
  have hn := vE_0.1 h0
  obtain ⟨P, rfl⟩ := hn.nat
  have hN : tN P rs = (trees P rs).length := if_pos h0
  rw [h0, hN]
  have hP7 := hn.p7
  have hP1 := hn.p1
  have hl14 := hn.l
  have hshl := shl_one (k := .i64) hl14
  have hpw : 2 ^ rs.length ≤ 2 ^ 14 := Nat.pow_le_pow_right (by omega) hl14
  have hp2 : (2 : Nat) ^ 14 = 16384 := rfl
  unfold trees subs
  generalize hN : 2 ^ rs.length = N at *
  simp (maxSteps := 4000000) -implicitDefEqProofs -dsimp (disch := omega) only [↓AW_skip, ↓AW_ops, ↓AW_seq, ↓AW_cond, ↓AW_block, ↓AOps_nil, ↓AOps_pu, on_some, extK_same, condB_f, ↓then_normal, pval, rd_S, rd_C, put_S, ↓AW_toLoop, chkd, isAdr, bgot, AV.cells?, partA, eq_self, List.replicate_succ, List.replicate_zero, List.set_cons_zero, List.set_cons_succ, List.getElem?_cons_zero, List.getElem?_cons_succ, List.drop_zero, List.drop_succ_cons, List.take_succ_cons, List.take_nil, Option.getD_some, List.length_cons, List.length_nil, Nat.reduceAdd, Nat.reduceSub, Nat.reduceLeDiff, Nat.zero_add, List.cons_append, List.nil_append, bin_neq, if_true, if_false, Bool.false_eq_true, decide_false, not_true_eq_false, hu.len, hshl]
  refine LoopK.by 52 (fun x : Nat × Nat × AHeap => x.1 ≤ N ∧ A <+: x.2.2 ∧ x.2.1 = (((List.range x.1).map (bset rs.length)).filter (fun l => decide (Tree P (rdx rs) l))).length) (fun z => [(1, .agg [I P, u]), (5, I z.2.1), (17, I N), (18, I z.1)]) (fun z => z.2.2) (fun z => N - z.1) (0, 0, A) ⟨by simp only; omega, List.prefix_refl _, rfl⟩ rfl (by simp [Has, rd_s]) rfl ?_
  rintro ⟨s, c, H⟩ ⟨hs, hp, hc⟩
  simp only at hs hp hc
  have huH := hu.mono hp
  have hcs : c ≤ s := by
    rw [hc]
    have h2 := List.length_filter_le (fun l => decide (Tree P (rdx rs) l)) ((List.range s).map (bset rs.length))
    simp only [List.length_map, List.length_range] at h2
    exact h2
  by_cases hlt : s < N
  · have hlt' : (s : Int) < (N : Int) := by omega
    have next : (((List.range (s + 1)).map (bset rs.length)).filter (fun l => decide (Tree P (rdx rs) l))).length = c + (if Tree P (rdx rs) (bset rs.length s) then 1 else 0) := by
      rw [List.range_succ, List.map_append, List.filter_append, List.length_append, ← hc]
      congr 1
      by_cases ht : Tree P (rdx rs) (bset rs.length s)
      · rw [if_pos ht]; simp [ht]
      · rw [if_neg ht]; simp [ht]
    simp (maxSteps := 4000000) -implicitDefEqProofs -dsimp (disch := omega) only [↓AW_skip, ↓AW_ops, ↓AW_seq, ↓AW_cond, ↓AW_block, ↓AOps_nil, ↓AOps_pu, on_some, condB_t, ↓then_normal, pval, rd_S, rd_C, put_S, ↓AW_toLoop, chkd, isAdr, bgot, AV.cells?, partA, eq_self, mk, List.foldl_cons, List.foldl_nil, List.replicate_succ, List.replicate_zero, List.set_cons_zero, List.set_cons_succ, List.getElem?_cons_zero, List.getElem?_cons_succ, List.drop_zero, List.drop_succ_cons, List.take_succ_cons, List.take_nil, Option.getD_some, List.length_cons, List.length_nil, Nat.reduceAdd, Nat.reduceLeDiff, Nat.zero_add, bin_lss, if_true, if_false, Bool.false_eq_true, decide_true, hlt', huH.len]
    refine LoopK.by 52 (fun x : Nat × AV × AHeap => x.1 ≤ rs.length ∧ AccL 1 e1 H x.2.2 x.2.1 (bset x.1 s)) (fun z => [(1, .agg [I P, u]), (5, I c), (6, I s), (7, z.2.1), (17, I N), (18, I s), (23, I rs.length), (24, I z.1)]) (fun z => z.2.2) (fun z => rs.length - z.1) (0, .nilS, H) ⟨by simp only; omega, AccL.nil (List.prefix_refl _)⟩ rfl (by simp [Has, rd_s]) rfl ?_
    rintro ⟨j, z, G⟩ ⟨hj, hac⟩
    simp only at hj hac
    have huG := huH.mono hac.1
    by_cases hjl : j < rs.length
    · have hjl' : (j : Int) < rs.length := by omega
      have hshr := shr_by (k := .i64) (s := s) (j := j) (by omega)
      have hle : s / 2 ^ j ≤ 16384 := Nat.le_trans (Nat.div_le_self _ _) (by omega)
      have hand := and_one hle
      have hbit := bit_eq s j
      by_cases ht : s.testBit j = true
      · have hb1 := hbit.2 ht
        obtain ⟨v', H2, happ, hacc, _, n, len, rfl, _⟩ := AccL_push2 hac e1_len (by omega) (j : Int) (by have := bset_le j s; simp only [lim]; omega)
        simp only [Go.Eng.e1] at happ
        simp (maxSteps := 4000000) -implicitDefEqProofs -dsimp (disch := omega) only [↓AW_skip, ↓AW_ops, ↓AW_seq, ↓AW_cond, ↓AW_block, ↓AOps_nil, ↓AOps_pu, ↓AOps_ha, on_some, extK_false, extK_app, condB_t, ↓then_normal, ↓inBlock_normal, pval, hval, rd_S, rd_C, put_S, AV.cells?, splice, fillA, repl, eq_self, mk, List.foldl_cons, List.foldl_nil, List.replicate_succ, List.replicate_zero, List.set_cons_zero, List.set_cons_succ, List.getElem?_cons_zero, List.getElem?_cons_succ, List.drop_succ_cons, List.drop_nil, List.take_zero, Option.getD_some, map_c, map_n, List.length_cons, List.length_nil, Nat.reduceAdd, Nat.reduceLeDiff, Nat.zero_add, List.nil_append, List.append_nil, bin_add, bin_eql, bin_lss, w64, if_true, decide_true, true_and, and_true, hjl', hshr, hand, hb1, happ, List.replicate_zero, repl]
        exact ⟨(j + 1, .sl 1 n 0 len false, H2), ⟨hjl, by rw [(bset_step j s).1 ht]; exact hacc⟩, by simp [Has, rd_s], rfl, by simp only; omega⟩
      · have hb1 : ¬ (((s / 2 ^ j) % 2 : Nat) : Int) = 1 := fun e => ht (hbit.1 e)
        simp (maxSteps := 4000000) -implicitDefEqProofs -dsimp (disch := omega) only [↓AW_skip, ↓AW_ops, ↓AW_seq, ↓AW_cond, ↓AW_block, ↓AOps_nil, ↓AOps_pu, on_some, condB_t, condB_f, ↓then_normal, ↓inBlock_normal, pval, rd_S, rd_C, put_S, eq_self, mk, List.foldl_cons, List.foldl_nil, List.replicate_succ, List.replicate_zero, List.set_cons_zero, List.set_cons_succ, List.getElem?_cons_zero, List.getElem?_cons_succ, Option.getD_some, List.length_cons, List.length_nil, Nat.reduceAdd, Nat.zero_add, bin_add, bin_eql, bin_lss, w64, decide_true, decide_false, true_and, hjl', hshr, hand, hb1]
        exact ⟨(j + 1, z, G), ⟨hjl, by rw [(bset_step j s).2 (by simpa using ht)]; exact hac⟩, by simp [Has, rd_s], rfl, by simp only; omega⟩
    · have hjl' : ¬ (j : Int) < rs.length := by omega
      have hje : j = rs.length := by omega
      subst hje
      have hls := AccL_ls hac e1_len
      by_cases hb : ((bset rs.length s).length : Int) = P - 1
      case neg =>
        simp (maxSteps := 4000000) -implicitDefEqProofs -dsimp (disch := omega) only [↓AW_skip, ↓AW_ops, ↓AW_seq, ↓AW_cond, ↓AW_exit, ↓AW_ret, ↓AOps_nil, ↓AOps_pu, ↓AOps_guard, on_some, guardB_ft, skipS_some, condB_f, ↓then_normal, ↓then_exit, ↓inBlock_normal, ↓inBlock_exit, ↓Fin_ret, pval, rd_S, rd_C, put_S, resV, resL, chkd, isAdr, bgot, AV.cells?, partA, eq_self, mk, List.foldl_cons, List.foldl_nil, List.replicate_succ, List.replicate_zero, List.set_cons_zero, List.set_cons_succ, List.getElem?_cons_zero, List.getElem?_cons_succ, List.drop_zero, List.take_zero, List.take_succ_cons, Option.getD_some, List.length_cons, List.length_nil, Nat.reduceAdd, Nat.reduceLeDiff, Nat.reduceEqDiff, Nat.zero_add, bin_add, bin_sub, bin_eql, bin_lss, w64, if_true, if_false, Bool.false_eq_true, decide_false, true_and, reduceCtorEq, hjl', hls.len, hb]
        refine ⟨(s + 1, c, G), ⟨hlt, hp.trans hac.1, ?_⟩, by simp [Has, rd_s], rfl, by simp only; omega⟩
        rw [next, if_neg (fun ht => hb (by have := ht.1; omega))]
        rfl
      simp (maxSteps := 4000000) -implicitDefEqProofs -dsimp (disch := omega) only [↓AW_ops, ↓AW_seq, ↓AW_cond, ↓AW_exit, ↓AW_ret, ↓AOps_nil, ↓AOps_pu, ↓AOps_call, ↓AOps_guard, on_some, guardB_tt, condB_f, ↓then_normal, ↓then_exit, ↓inBlock_exit, ↓Fin_ret, pval, rd_S, rd_C, put_S, resV, resL, chkd, isAdr, bgot, AV.cells?, partA, eq_self, mk, List.foldl_cons, List.foldl_nil, List.replicate_succ, List.replicate_zero, List.set_cons_zero, List.set_cons_succ, List.getElem?_cons_zero, List.getElem?_cons_succ, List.drop_zero, List.take_zero, List.take_succ_cons, List.take_nil, Option.getD_some, map_c, map_n, List.length_cons, List.length_nil, Nat.reduceAdd, Nat.reduceLeDiff, Nat.reduceEqDiff, Nat.zero_add, bin_add, bin_sub, bin_eql, bin_lss, w64, if_true, if_false, Bool.false_eq_true, decide_true, decide_false, true_and, reduceCtorEq, hjl', hls.len, hb]
      refine CallK.of (s60 huG hls hn (bset_nos s (by omega)) (by have := bset_le rs.length s; omega)) ?_
      by_cases ht : Tree P (rdx rs) (bset rs.length s)
      · rw [decide_eq_true ht]
        simp (maxSteps := 4000000) -implicitDefEqProofs -dsimp (disch := omega) only [↓AW_ops, ↓AW_cond, ↓AOps_nil, ↓AOps_pu, on_some, extK_same, condB_t, ↓then_normal, ↓inBlock_normal, pval, rd_S, rd_C, put_S, eq_self, mk, List.foldl_cons, List.foldl_nil, List.replicate_succ, List.replicate_zero, List.set_cons_zero, List.set_cons_succ, List.getElem?_cons_zero, List.getElem?_cons_succ, Option.getD_some, List.length_cons, List.length_nil, Nat.reduceAdd, Nat.zero_add, bin_add, w64, if_true, true_and]
        refine ⟨(s + 1, c + 1, G), ⟨hlt, hp.trans hac.1, ?_⟩, by simp [Has, rd_s], rfl, by simp only; omega⟩
        rw [next, if_pos ht]
      · rw [decide_eq_false ht]
        simp (maxSteps := 4000000) -implicitDefEqProofs -dsimp (disch := omega) only [↓AW_skip, ↓AW_ops, ↓AW_cond, ↓AOps_nil, ↓AOps_pu, on_some, extK_same, condB_f, ↓then_normal, ↓inBlock_normal, pval, rd_S, rd_C, put_S, eq_self, mk, List.foldl_cons, List.foldl_nil, List.replicate_succ, List.replicate_zero, List.set_cons_zero, List.set_cons_succ, List.getElem?_cons_zero, List.getElem?_cons_succ, Option.getD_some, List.length_cons, List.length_nil, Nat.reduceAdd, Nat.zero_add, bin_add, w64, if_true, true_and]
        refine ⟨(s + 1, c, G), ⟨hlt, hp.trans hac.1, ?_⟩, by simp [Has, rd_s], rfl, by simp only; omega⟩
        rw [next, if_neg ht]
        rfl
  · have hlt' : ¬ (s : Int) < (N : Int) := by omega
    have hse : s = N := by omega
    subst hse
    rw [← hc]
    simp (maxSteps := 4000000) -implicitDefEqProofs -dsimp (disch := omega) only [↓AW_ops, ↓AW_seq, ↓AW_cond, ↓AW_exit, ↓AW_ret, ↓AOps_nil, ↓AOps_pu, on_some, condB_f, ↓then_normal, ↓then_exit, ↓inBlock_exit, ↓Fin_ret, pval, rd_S, rd_C, put_S, resV, resL, eq_self, mk, List.foldl_cons, List.foldl_nil, List.replicate_succ, List.replicate_zero, List.set_cons_zero, List.set_cons_succ, List.getElem?_cons_zero, List.getElem?_cons_succ, Option.getD_some, bin_lss, if_true, decide_false, hlt']
    exact gc_val hp rfl
/-- In all, or in none, of the cheapest trees. -/
def alw (P : Nat) (rs : List Rd) (k : Int) : Prop := ∀ T ∈ chl P rs, k ∈ T
def nev (P : Nat) (rs : List Rd) (k : Int) : Prop := ∀ T ∈ chl P rs, k ∉ T
noncomputable instance alwDec (P : Nat) (rs : List Rd) (k : Int) : Decidable (alw P rs k) := Classical.propDecidable _
noncomputable instance nevDec (P : Nat) (rs : List Rd) (k : Int) : Decidable (nev P rs k) := Classical.propDecidable _
section
variable {P : Nat} {k : Int} {L : List Int}
theorem not_jbl (hj : ¬ Jbl P rs) (hn : Net P rs) : chl P rs = [] := chl_nil (Classical.byContradiction (fun e => hj ((jbl_trees hn).2 e)))
theorem nos_tree (hn : Net P rs) {M : List Int} (hM : Nos rs M) : Tree P (rdx rs) (grw (rdx rs) [] M) → Jbl P rs := fun ht => by
  unfold Jbl
  exact tree_all (T := grw (rdx rs) [] M) (fun i hi => by have := hM i ((grw_sub M).subset hi); exact mem_plc.2 (by omega)) ht
theorem mem_chl' (hn : Net P rs) {T : List Int} : T ∈ chl P rs ↔ okS rs.length T ∧ Tree P (rdx rs) T ∧ cst (wct rs) T = best rs := by
  constructor
  · intro h
    have h1 := (mem_chl.1 h).1
    have h2 := mem_trees.1 h1
    exact ⟨h2.1, h2.2, (chl_best hn h1).1 h⟩
  · rintro ⟨h1, h2, h3⟩
    exact (chl_best hn (mem_trees.2 ⟨h1, h2⟩)).2 h3
theorem srt_chl (hn : Net P rs) {M : List Int} (hM : Nos rs M) (hd : M.Nodup) (ht : Tree P (rdx rs) M) (hc : cst (wct rs) M ≤ best rs) : srt M ∈ chl P rs := by
  rw [mem_chl' hn]
  have hle := best_le hn hM ht
  exact ⟨srt_okS hd hM, ht.perm (srt_perm M), by rw [cst_perm (srt_perm M)]; omega⟩
theorem alw_iff (hn : Net P rs) (hO : Ord rs L) (hj : Jbl P rs) : alw P rs k ↔ ¬ Tree P (rdx rs) (grw (rdx rs) [] (without L k)) ∨ best rs < cst (wct rs) (grw (rdx rs) [] (without L k)) := by
  have hwn : Nos rs (without L k) := fun i hi => hO.nos i (mem_wo.1 hi).1
  have hP := hwn.inP hn
  constructor
  · intro h
    refine Classical.byContradiction (fun hc => ?_)
    rw [not_or] at hc
    obtain ⟨h1, h2⟩ := hc
    have h1 := Classical.not_not.1 h1
    have hm := h _ (srt_chl hn (grw_nos hwn) ((hO.nodup.sublist List.filter_sublist).sublist (grw_sub _)) h1 (by omega))
    have := (grw_sub (R := rdx rs) (without L k)).subset ((srt_perm _).mem_iff.1 hm)
    exact (mem_wo.1 this).2 rfl
  · intro h T hT
    refine Classical.byContradiction (fun hk => ?_)
    obtain ⟨h1, h2, h3⟩ := (mem_chl' hn).1 hT
    have hTL : ∀ i ∈ T, i ∈ without L k := fun i hi => mem_wo.2 ⟨hO.mem.2 (okS_nos h1 i hi), fun e => hk (by rw [← e]; exact hi)⟩
    have ht : Tree P (rdx rs) (grw (rdx rs) [] (without L k)) := (grw_tree hP (by have := h2.1; omega)).2 (tree_all hTL h2)
    have hle : cst (wct rs) (grw (rdx rs) [] (without L k)) ≤ cst (wct rs) T := grw_opt (M := 99) hP (hO.s.sublist List.filter_sublist) (fun i hi => hO.wb hn i (mem_wo.1 hi).1) hTL h2.ind (by have := h2.1; have := ht.1; omega)
    rcases h with h | h
    · exact h ht
    · omega
end
end
end Go.Proofs.Ytkgfcdpckfhknaa

namespace Go.Proofs.Ytkgfcdpckfhknaa
open Go Go.Eng
theorem cst_one : ∀ X : List Int, cst (fun _ => 1) X = X.length
  | [] => rfl
  | x :: X => by rw [cst_cons, cst_one X, List.length_cons]; omega
/-- Weights under which one road comes first. -/
def wkf (w : Int → Int) (k : Int) : Int → Int := fun j => if j = k then 0 else w j + 1
theorem cst_wkf {w : Int → Int} {k : Int} : ∀ {Y : List Int}, k ∉ Y → cst (wkf w k) Y = cst w Y + Y.length
  | [], _ => rfl
  | y :: Y, h => by
    have hy : ¬ y = k := fun e => h (by rw [e]; simp)
    have hw : wkf w k y = w y + 1 := by unfold wkf; rw [if_neg hy]
    rw [cst_cons, cst_cons, cst_wkf (fun e => h (List.mem_cons_of_mem _ e)), hw, List.length_cons]
    omega
theorem cst_shift {w : Int → Int} {k : Int} {X : List Int} (hd : X.Nodup) (hk : k ∈ X) : cst (wkf w k) X = cst w X - w k + X.length - 1 := by
  have h1 := cst_wo (w := w) hd hk
  have h2 := cst_wo (w := wkf w k) hd hk
  have h3 := cst_wo (w := fun _ => 1) hd hk
  rw [cst_one, cst_one] at h3
  have h4 : k ∉ without X k := fun e => (mem_wo.1 e).2 rfl
  rw [cst_wkf h4] at h2
  have h5 : wkf w k k = 0 := by unfold wkf; rw [if_pos rfl]
  omega
section
variable {P : Nat} {rs : List Rd} {k : Int} {L : List Int}
theorem kfirst (hn : Net P rs) (hO : Ord rs L) (hk : 0 ≤ k ∧ k ≤ (rs.length : Int) - 1) : Nos rs (k :: without L k) ∧ (k :: without L k).Nodup ∧ k ∈ grw (rdx rs) [] (k :: without L k) ∧ (∀ i, i ∈ k :: without L k ↔ i ∈ L) := by
  have hwn : Nos rs (without L k) := fun i hi => hO.nos i (mem_wo.1 hi).1
  refine ⟨fun i hi => ?_, ?_, ?_, fun i => ?_⟩
  · rcases List.mem_cons.1 hi with e | e
    · rw [e]; exact hk
    · exact hwn i e
  · rw [List.nodup_cons]
    exact ⟨fun e => (mem_wo.1 e).2 rfl, hO.nodup.sublist List.filter_sublist⟩
  · rw [grw]
    have h0 : ¬ Cn (([] : List Int).map (rdx rs)) (rdx rs k).1 (rdx rs k).2.1 := fun h => (hn.r _ (rdx_at hk.1 hk.2).2).2.1 h.nil
    rw [if_neg h0]
    obtain ⟨X, h1, _⟩ := grw_more (R := rdx rs) (without L k) ([] ++ [k])
    rw [h1]
    simp
  · rw [List.mem_cons, mem_wo]
    constructor
    · rintro (e | e)
      · rw [e]; exact hO.mem.2 hk
      · exact e.1
    · intro e
      by_cases h : i = k
      · exact .inl h
      · exact .inr ⟨e, h⟩
theorem nev_iff (hn : Net P rs) (hO : Ord rs L) (hj : Jbl P rs) (hk : 0 ≤ k ∧ k ≤ (rs.length : Int) - 1) : nev P rs k ↔ ¬ Tree P (rdx rs) (grw (rdx rs) [] (k :: without L k)) ∨ best rs < cst (wct rs) (grw (rdx rs) [] (k :: without L k)) := by
  obtain ⟨hmn, hmd, hkm, hml⟩ := kfirst hn hO hk
  have hP := hmn.inP hn
  constructor
  · intro h
    refine Classical.byContradiction (fun hc => ?_)
    rw [not_or] at hc
    obtain ⟨h1, h2⟩ := hc
    have h1 := Classical.not_not.1 h1
    exact h _ (srt_chl hn (grw_nos hmn) (hmd.sublist (grw_sub _)) h1 (by omega)) ((srt_perm _).mem_iff.2 hkm)
  · intro h T hT hkT
    obtain ⟨h1, h2, h3⟩ := (mem_chl' hn).1 hT
    have hTL : ∀ i ∈ T, i ∈ k :: without L k := fun i hi => (hml i).2 (hO.mem.2 (okS_nos h1 i hi))
    have ht : Tree P (rdx rs) (grw (rdx rs) [] (k :: without L k)) := (grw_tree hP (by have := h2.1; omega)).2 (tree_all hTL h2)
    have hsw : (k :: without L k).Pairwise (fun a b => wkf (wct rs) k a ≤ wkf (wct rs) k b) := by
      rw [List.pairwise_cons]
      constructor
      · intro j hj
        have := hn.wb (hmn j (by simp [hj])).1 (hmn j (by simp [hj])).2
        have hjk := (mem_wo.1 hj).2
        unfold wkf
        rw [if_pos rfl, if_neg hjk]
        omega
      · refine List.Pairwise.imp_of_mem ?_ (hO.s.sublist (List.filter_sublist (p := fun x => !decide (x = k))))
        intro x y hx hy hxy
        have hx2 := (mem_wo.1 hx).2
        have hy2 := (mem_wo.1 hy).2
        unfold wkf
        rw [if_neg hx2, if_neg hy2]
        omega
    have hwb : ∀ j ∈ k :: without L k, 0 ≤ wkf (wct rs) k j ∧ wkf (wct rs) k j ≤ (100 : Nat) := fun j hj => by
      have := hn.wb (hmn j hj).1 (hmn j hj).2
      unfold wkf
      split <;> omega
    have hle := grw_opt (w := wkf (wct rs) k) (M := 100) hP hsw hwb hTL h2.ind (by have := h2.1; have := ht.1; omega)
    rw [cst_shift (hmd.sublist (grw_sub _)) hkm, cst_shift (okS_nodup h1) hkT] at hle
    have hl : (grw (rdx rs) [] (k :: without L k)).length = T.length := by have := h2.1; have := ht.1; omega
    rcases h with h | h
    · exact h ht
    · omega
theorem alw_no (hn : Net P rs) (hj : ¬ Jbl P rs) : alw P rs k ∧ nev P rs k := by
  have := not_jbl hj hn
  exact ⟨fun T hT => (by rw [this] at hT; cases hT), fun T hT => (by rw [this] at hT; cases hT)⟩
/-- Whether all cheapest trees have a road, by the greedy trees. -/
theorem alw_dec (hn : Net P rs) (hO : Ord rs L) : (decide (alw P rs k) : Bool) = (!decide (Tree P (rdx rs) (grw (rdx rs) [] (without L k))) || decide (cst (wct rs) (grw (rdx rs) [] L) < cst (wct rs) (grw (rdx rs) [] (without L k)))) := by
  rw [best_of hn hO]
  by_cases hj : Jbl P rs
  · rw [Bool.eq_iff_iff, decide_eq_true_eq, Bool.or_eq_true, Bool.not_eq_true', decide_eq_false_iff_not, decide_eq_true_eq]
    exact alw_iff hn hO hj
  · have h1 : ¬ Tree P (rdx rs) (grw (rdx rs) [] (without L k)) := fun h => hj (nos_tree hn (fun i hi => hO.nos i (mem_wo.1 hi).1) h)
    rw [decide_eq_true (alw_no hn hj).1, decide_eq_false h1]
    rfl
theorem nev_dec (hn : Net P rs) (hO : Ord rs L) (hk : 0 ≤ k ∧ k ≤ (rs.length : Int) - 1) : (decide (nev P rs k) : Bool) = (!decide (Tree P (rdx rs) (grw (rdx rs) [] (k :: without L k))) || decide (cst (wct rs) (grw (rdx rs) [] L) < cst (wct rs) (grw (rdx rs) [] (k :: without L k)))) := by
  rw [best_of hn hO]
  by_cases hj : Jbl P rs
  · rw [Bool.eq_iff_iff, decide_eq_true_eq, Bool.or_eq_true, Bool.not_eq_true', decide_eq_false_iff_not, decide_eq_true_eq]
    exact nev_iff hn hO hj hk
  · have h1 : ¬ Tree P (rdx rs) (grw (rdx rs) [] (k :: without L k)) := fun h => hj (nos_tree hn (kfirst hn hO hk).1 h)
    rw [decide_eq_true (alw_no hn hj).2, decide_eq_false h1]
    rfl
end
section
variable {P : Nat} {rs : List Rd} {ks : List Int} {u v : AV} {A : AHeap}
/-- Roads of which a closure says yes. -/
theorem s89 (hu : L3 A u rs) (hl : rs.length ≤ 1000) (f : FuncId) (cap : List AV) (g : Int → Bool) (hg : ∀ H, A <+: H → ∀ i : Int, 0 ≤ i → i < (rs.length : Int) → ACalls Try.prog f ([I i] ++ cap) H (B (g i)) H) :
    ∃ r H, ACalls Try.prog 89 [.agg [I P, u], .fn f cap] A r H ∧ A <+: H ∧ L1 H r ((nums rs).filter g) := by
  refine acallsR hmix Try.func89 (by kernel_rfl) t89 _ 2 rfl (by decide) ?_
  dsimp only [m89]
  simp (maxSteps := 4000000) -implicitDefEqProofs -dsimp (disch := omega) only [↓AW_ops, ↓AW_seq, ↓AW_block, ↓AOps_nil, ↓AOps_pu, on_some, ↓then_normal, pval, rd_S, rd_C, put_S, ↓AW_toLoop, chkd, isAdr, bgot, cells_agg, partA, eq_self, List.replicate_succ, List.replicate_zero, List.set_cons_zero, List.set_cons_succ, List.getElem?_cons_zero, List.getElem?_cons_succ, List.drop_zero, List.drop_succ_cons, List.take_succ_cons, List.take_nil, Option.getD_some, List.length_cons, List.length_nil, Nat.reduceAdd, Nat.reduceSub, Nat.reduceLeDiff, Nat.zero_add, List.cons_append, List.nil_append, if_true, if_false, Bool.false_eq_true, hu.len]
  refine LoopK.by 22 (fun x : Nat × AV × AHeap => x.1 ≤ rs.length ∧ AccL 1 e1 A x.2.2 x.2.1 ((plc x.1).filter g)) (fun x => [(1, .fn f cap), (5, x.2.1), (9, I rs.length), (10, I x.1)]) (fun x => x.2.2) (fun x => rs.length - x.1) (0, .nilS, A) ⟨by simp only; omega, AccL.nil (List.prefix_refl _)⟩ rfl (by simp [Has, rd_s]) rfl ?_
  rintro ⟨j, y, H⟩ ⟨hj, hac⟩
  simp only at hj hac
  by_cases hlt : j < rs.length
  · have hlt' : (j : Int) < rs.length := by omega
    have hfl := filt_len g j
    have hsu := filt_succ g j
    simp (maxSteps := 4000000) -implicitDefEqProofs -dsimp (disch := omega) only [↓AW_skip, ↓AW_ops, ↓AW_seq, ↓AW_cond, ↓AW_block, ↓AOps_nil, ↓AOps_pu, ↓AOps_callv, on_some, CallF_fn, condB_t, ↓then_normal, pval, rd_S, put_S, mk, List.foldl_cons, List.foldl_nil, List.replicate_succ, List.replicate_zero, List.set_cons_zero, List.set_cons_succ, List.getElem?_cons_zero, List.getElem?_cons_succ, Option.getD_some, map_c, map_n, List.cons_append, List.nil_append, bin_lss, decide_true, hlt']
    refine CallK.of (hg H hac.1 (j : Int) (by omega) hlt') ?_
    cases hb : g (j : Int) with
    | true =>
      rw [if_pos hb] at hsu
      obtain ⟨v', H2, happ, hacc⟩ := hac.push e1_len (j : Int) (by simp only [lim]; omega)
      simp only [Go.Eng.e1] at happ
      simp (maxSteps := 4000000) -implicitDefEqProofs -dsimp (disch := omega) only [↓AW_ops, ↓AW_cond, ↓AOps_nil, ↓AOps_pu, ↓AOps_ha, on_some, extK_false, extK_app, extK_same, condB_t, ↓then_normal, ↓inBlock_normal, pval, hval_blds, hval_app, rd_S, rd_C, put_S, cells_int, splice, fillA, repl, eq_self, mk, List.foldl_cons, List.foldl_nil, List.replicate_succ, List.replicate_zero, List.set_cons_zero, List.set_cons_succ, List.getElem?_cons_zero, List.getElem?_cons_succ, List.drop_succ_cons, List.drop_nil, List.take_zero, Option.getD_some, map_c, map_n, List.length_cons, List.length_nil, Nat.reduceAdd, Nat.reduceLeDiff, Nat.zero_add, List.nil_append, List.append_nil, bin_add, w64, if_true, true_and, and_true, happ, List.replicate_zero, repl]
      exact ⟨(j + 1, v', H2), ⟨hlt, by rw [hsu]; exact hacc⟩, by simp [Has, rd_s], rfl, by simp only; omega⟩
    | false =>
      rw [if_neg (by rw [hb]; simp), List.append_nil] at hsu
      simp (maxSteps := 4000000) -implicitDefEqProofs -dsimp (disch := omega) only [↓AW_skip, ↓AW_ops, ↓AW_cond, ↓AOps_nil, ↓AOps_pu, on_some, extK_same, condB_f, ↓then_normal, ↓inBlock_normal, pval, rd_S, rd_C, put_S, eq_self, mk, List.foldl_cons, List.foldl_nil, List.replicate_succ, List.replicate_zero, List.set_cons_zero, List.set_cons_succ, List.getElem?_cons_zero, List.getElem?_cons_succ, Option.getD_some, List.length_cons, List.length_nil, Nat.reduceAdd, Nat.zero_add, bin_add, w64, true_and]
      exact ⟨(j + 1, y, H), ⟨hlt, by rw [hsu]; exact hac⟩, by simp [Has, rd_s], rfl, by simp only; omega⟩
  · have hlt' : ¬ ((j : Int) < rs.length) := by omega
    have hje : j = rs.length := by omega
    subst hje
    simp (maxSteps := 4000000) -implicitDefEqProofs -dsimp (disch := omega) only [↓AW_ops, ↓AW_seq, ↓AW_cond, ↓AW_exit, ↓AW_ret, ↓AOps_nil, ↓AOps_pu, on_some, condB_f, ↓then_normal, ↓then_exit, ↓inBlock_exit, ↓FinR_ret, pval, rd_S, put_S, resV, resL, eq_self, mk, List.foldl_cons, List.foldl_nil, List.replicate_succ, List.replicate_zero, List.set_cons_zero, List.set_cons_succ, List.getElem?_cons_zero, List.getElem?_cons_succ, Option.getD_some, bin_lss, if_true, decide_false, hlt']
    exact ⟨_, _, gc_all, hac.1, AccL_ls hac e1_len⟩
set_option maxRecDepth 20000 in
set_option maxHeartbeats 16000000 in
theorem s90 {a b c : Nat} {lv gv : AV} {L : List Int} {k : Int} (hu : L3 A u rs) (hn : Net P rs) (hO : Ord rs L) (hk : 0 ≤ k ∧ k ≤ (rs.length : Int) - 1) (h1 : ldA 2 true (.ptr a 0) A = some (.agg [I P, u])) (h2 : ldA 1 false (.ptr b 0) A = some lv) (h3 : ldA 1 false (.ptr c 0) A = some gv) (hL : L1 A lv L) (hG : L1 A gv (srt (grw (rdx rs) [] L))) :
    ACalls Try.prog 90 ([I k] ++ [.ptr a 0, .ptr b 0, .ptr c 0]) A (B (decide (alw P rs k))) A := by
  have hl14 := hn.l
  have hP7 := hn.p7
  rw [List.singleton_append, alw_dec hn hO]
  refine acalls hmix Try.func90 (by kernel_rfl) t90 4 rfl (by decide) ?_
  dsimp only [m90]
  simp (maxSteps := 4000000) -implicitDefEqProofs -dsimp (disch := omega) only [↓AW_ops, ↓AW_seq, ↓AOps_nil, ↓AOps_pu, ↓AOps_ld, ↓AOps_call, on_some, ↓then_normal, pval, lval, rd_S, rd_C, put_S, List.replicate_succ, List.replicate_zero, List.set_cons_zero, List.set_cons_succ, List.getElem?_cons_zero, List.getElem?_cons_succ, Option.getD_some, map_c, map_n, Nat.reduceSub, List.cons_append, List.nil_append, h1, h2]
  obtain ⟨r1, H1, c1, p1, hW⟩ := s63 hL (by rw [hO.len]; omega) (by rw [hO.len]; omega) k
  refine CallK.of c1 ?_
  have hwn : Nos rs (without L k) := fun i hi => hO.nos i (mem_wo.1 hi).1
  have hwl := without_le L k
  rw [hO.len] at hwl
  simp (maxSteps := 4000000) -implicitDefEqProofs -dsimp (disch := omega) only [↓AOps_call, rd_S, put_S, List.replicate_succ, List.replicate_zero, List.set_cons_zero, List.set_cons_succ, List.getElem?_cons_zero, List.getElem?_cons_succ, Option.getD_some, map_c, map_n, Nat.reduceSub, List.cons_append, List.nil_append, extK_of p1]
  obtain ⟨r2, H2, c2, p2, hG2⟩ := c_grow (hu.mono p1) hW hn hwn (by omega)
  refine CallK.of c2 ?_
  have hp := p1.trans p2
  have h1' := ld_mono hp h1
  have h3' := ld_mono hp h3
  have huH := hu.mono hp
  have hgn : Nos rs (srt (grw (rdx rs) [] (without L k))) := fun i hi => grw_nos hwn i ((srt_perm _).mem_iff.1 hi)
  have hgn2 : Nos rs (srt (grw (rdx rs) [] L)) := fun i hi => grw_nos hO.nos i ((srt_perm _).mem_iff.1 hi)
  have hsm := grw_small hn hwn
  have hsm2 := grw_small hn hO.nos
  simp (maxSteps := 4000000) -implicitDefEqProofs -dsimp (disch := omega) only [↓AW_ops, ↓AW_seq, ↓AOps_nil, ↓AOps_pu, ↓AOps_ld, ↓AOps_call, on_some, extK_false, ↓then_normal, pval, lval, rd_S, put_S, List.replicate_succ, List.replicate_zero, List.set_cons_zero, List.set_cons_succ, List.getElem?_cons_zero, List.getElem?_cons_succ, Option.getD_some, map_c, map_n, Nat.reduceSub, List.cons_append, List.nil_append, h1']
  refine CallK.of (s60 huH hG2 hn hgn (by rw [srt_len]; omega)) ?_
  have htt : decide (Tree P (rdx rs) (srt (grw (rdx rs) [] (without L k)))) = decide (Tree P (rdx rs) (grw (rdx rs) [] (without L k))) := decide_eq_decide.2 ⟨fun h => h.perm (srt_perm _).symm, fun h => h.perm (srt_perm _)⟩
  rw [htt]
  by_cases ht : Tree P (rdx rs) (grw (rdx rs) [] (without L k))
  · rw [decide_eq_true ht]
    simp (maxSteps := 4000000) -implicitDefEqProofs -dsimp (disch := omega) only [↓AOps_pu, ↓AOps_ld, ↓AOps_call, ↓AOps_guard, on_some, extK_same, guardB_ff, pval, lval, rd_S, put_S, List.replicate_succ, List.replicate_zero, List.set_cons_zero, List.set_cons_succ, List.getElem?_cons_zero, List.getElem?_cons_succ, Option.getD_some, map_c, map_n, Nat.reduceSub, List.cons_append, List.nil_append, Bool.not_true, h1']
    refine CallK.of (s79 huH hG2 hn hgn (by rw [srt_len]; omega)) ?_
    simp (maxSteps := 4000000) -implicitDefEqProofs -dsimp (disch := omega) only [↓AOps_ld, ↓AOps_call, ↓AOps_guard, on_some, extK_same, guardB_ff, lval, rd_S, put_S, List.replicate_succ, List.replicate_zero, List.set_cons_zero, List.set_cons_succ, List.getElem?_cons_zero, List.getElem?_cons_succ, Option.getD_some, map_c, map_n, Nat.reduceSub, List.cons_append, List.nil_append, h1', h3']
    refine CallK.of (s79 huH (hG.mono hp) hn hgn2 (by rw [srt_len]; omega)) ?_
    rw [cst_perm (srt_perm _), cst_perm (srt_perm _)]
    simp (maxSteps := 4000000) -implicitDefEqProofs -dsimp (disch := omega) only [↓AW_ret, ↓AOps_nil, ↓AOps_pu, ↓AOps_guard, on_some, extK_same, guardB_ff, ↓then_normal, ↓Fin_ret, pval, rd_S, rd_C, put_S, resV, resL, List.replicate_succ, List.replicate_zero, List.set_cons_zero, List.set_cons_succ, List.getElem?_cons_zero, List.getElem?_cons_succ, Option.getD_some, Nat.reduceSub, List.cons_append, List.nil_append, bin_gtr, if_false, Bool.false_eq_true, Bool.not_true]
    exact gc_val hp rfl
  · rw [decide_eq_false ht]
    simp (maxSteps := 4000000) -implicitDefEqProofs -dsimp (disch := omega) only [↓AW_ret, ↓AOps_nil, ↓AOps_pu, ↓AOps_guard, on_some, extK_same, guardB_tf, skipS_some, ↓then_normal, ↓Fin_ret, pval, rd_S, rd_C, put_S, resV, resL, eq_self, List.replicate_succ, List.replicate_zero, List.set_cons_zero, List.set_cons_succ, List.getElem?_cons_zero, List.getElem?_cons_succ, Option.getD_some, Nat.reduceSub, List.cons_append, List.nil_append, if_true, Bool.not_false]
    exact gc_val hp rfl
end
end Go.Proofs.Ytkgfcdpckfhknaa

