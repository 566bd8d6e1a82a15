/- What the law's proof rests on, part 4: for all that is said in each line. No conditions. -/
import Derived.Test.YtkgfcdpckfhknaaRows
import Derived.Test.YtkgfcdpckfhknaaCdA
namespace Go.Proofs.Ytkgfcdpckfhknaa
open Go Go.Eng
section
variable {P : Nat} {rs : List Rd} {a b : Int}
/-- Roads of a list up to a cost join two places. -/
def cnT (rs : List Rd) (M : List Int) (t a b : Int) : Prop := Cn ((upTo (wct rs) M t).map (rdx rs)) a b
theorem cnT_mono {M : List Int} {t s : Int} (h : t ≤ s) (hc : cnT rs M t a b) : cnT rs M s a b :=
  map_sub (fun k hk => by
    rw [mem_upTo] at hk ⊢
    exact ⟨hk.1, by omega⟩) hc
noncomputable instance cnTDec (rs : List Rd) (M : List Int) (t a b : Int) : Decidable (cnT rs M t a b) := Classical.propDecidable _
/-- The smallest cost up to which roads of a list join two places. -/
noncomputable def bt (rs : List Rd) (M : List Int) (a b : Int) : Option Int := if a = b then some 0 else ((List.range 100).find? (fun c : Nat => decide (cnT rs M (c : Int) a b))).map Int.ofNat
theorem find_first {f : Nat → Bool} {n c : Nat} (hc : c < n) (h : f c = true) (hn : ∀ j, j < c → f j = false) : (List.range n).find? f = some c := by
  rw [List.find?_eq_some_iff_getElem]
  refine ⟨h, c, by simpa using hc, by simp, fun j hj => ?_⟩
  rw [List.getElem_range, hn j hj]
  rfl
theorem bt_at {M : List Int} {c : Int} (hab : ¬ a = b) (c0 : 0 ≤ c) (c1 : c ≤ 99) (h : cnT rs M c a b) (hn : ¬ cnT rs M (c - 1) a b) : bt rs M a b = some c := by
  unfold bt
  rw [if_neg hab, find_first (c := c.toNat) (by omega) (by
    refine decide_eq_true ?_
    rw [Int.toNat_of_nonneg c0]
    exact h) (fun j hj => decide_eq_false (fun hh => hn (cnT_mono (by omega) hh)))]
  show some (Int.ofNat c.toNat) = _
  congr 1
  exact Int.toNat_of_nonneg c0
theorem bt_none {M : List Int} (hab : ¬ a = b) (h : ¬ cnT rs M 99 a b) : bt rs M a b = none := by
  unfold bt
  rw [if_neg hab, Option.map_eq_none_iff, List.find?_eq_none]
  intro j hj
  have := List.mem_range.1 hj
  simp only [decide_eq_true_eq]
  exact fun hh => h (cnT_mono (by omega) hh)
theorem bt_spec {M : List Int} {c : Int} (h : bt rs M a b = some c) : (a = b ∧ c = 0) ∨ (¬ a = b ∧ (0 ≤ c ∧ c ≤ 99) ∧ cnT rs M c a b ∧ ∀ t, cnT rs M t a b → 0 ≤ t → c ≤ t) := by
  unfold bt at h
  by_cases hab : a = b
  · rw [if_pos hab] at h
    exact .inl ⟨hab, (Option.some.inj h).symm⟩
  · rw [if_neg hab] at h
    cases hf : (List.range 100).find? (fun c : Nat => decide (cnT rs M (c : Int) a b)) with
    | none => rw [hf] at h; cases h
    | some j =>
      rw [hf] at h
      have hc : c = (j : Int) := (Option.some.inj h).symm
      subst hc
      rw [List.find?_eq_some_iff_getElem] at hf
      obtain ⟨h1, i, hi, hij, hn⟩ := hf
      rw [List.getElem_range] at hij
      subst hij
      have hi100 : i < 100 := by simpa using hi
      refine .inr ⟨hab, by omega, of_decide_eq_true h1, fun t ht t0 => ?_⟩
      refine Classical.byContradiction (fun hlt => ?_)
      have := hn t.toNat (by omega)
      rw [List.getElem_range] at this
      have h2 : cnT rs M ((t.toNat : Nat) : Int) a b := by rw [Int.toNat_of_nonneg t0]; exact ht
      rw [decide_eq_true h2] at this
      cases this
theorem bt_none' {M : List Int} (hb : ∀ k ∈ M, wct rs k ≤ 99) (h : bt rs M a b = none) : ¬ a = b ∧ ∀ t, ¬ cnT rs M t a b := by
  by_cases hab : a = b
  · unfold bt at h
    rw [if_pos hab] at h
    cases h
  · refine ⟨hab, fun t ht => ?_⟩
    unfold bt at h
    rw [if_neg hab, Option.map_eq_none_iff, List.find?_eq_none] at h
    have h1 := h 99 (by simp)
    simp only [decide_eq_true_eq] at h1
    refine h1 (map_sub (fun k hk => ?_) ht)
    rw [mem_upTo] at hk ⊢
    exact ⟨hk.1, hb k hk.1⟩
/-- What is found by taking one road after another. -/
def LS (rs : List Rd) (L : List Int) (a b c : Int) (ok : Bool) : Prop :=
  (a = b ∧ c = 0 ∧ ok = true) ∨ (¬ a = b ∧ ok = true ∧ ∃ (i : Nat) (k : Int), L[i]? = some k ∧ c = wct rs k ∧ Cn ((L.take (i + 1)).map (rdx rs)) a b ∧ ¬ Cn ((L.take i).map (rdx rs)) a b) ∨
  (¬ a = b ∧ ok = false ∧ c = 0 ∧ ¬ Cn (L.map (rdx rs)) a b)
theorem LS_bt {L M : List Int} {c : Int} {ok : Bool} (hs : L.Pairwise (fun x y => wct rs x ≤ wct rs y)) (hM : ∀ k, k ∈ L ↔ k ∈ M) (hb : ∀ k ∈ L, 0 ≤ wct rs k ∧ wct rs k ≤ 99) (h : LS rs L a b c ok) : bt rs M a b = (if ok = true then some c else none) ∧ (ok = false → c = 0) := by
  rcases h with ⟨h1, h2, h3⟩ | ⟨h1, h2, i, k, h3, h4, h5, h6⟩ | ⟨h1, h2, h3, h4⟩
  · subst h3; subst h2
    refine ⟨?_, fun e => by cases e⟩
    unfold bt
    rw [if_pos h1, if_pos rfl]
  · subst h2
    refine ⟨?_, fun e => by cases e⟩
    rw [if_pos rfl]
    have hkL := List.mem_of_getElem? h3
    have hkb := hb k hkL
    have hil := (List.getElem?_eq_some_iff.1 h3).1
    have hke := (List.getElem?_eq_some_iff.1 h3).2
    refine bt_at h1 (by omega) (by omega) (map_sub (fun x hx => ?_) h5) (fun hh => h6 (map_sub (fun x hx => ?_) hh))
    · rw [mem_upTo]
      refine ⟨(hM x).1 (List.mem_of_mem_take hx), ?_⟩
      obtain ⟨j, hj, hje⟩ := List.mem_iff_getElem.1 hx
      rw [List.length_take] at hj
      rw [List.getElem_take] at hje
      by_cases hji : j = i
      · subst hji
        rw [h4, ← hje, hke]
        exact Int.le_refl _
      · have := List.pairwise_iff_getElem.1 hs j i (by omega) hil (by omega)
        rw [hje, hke] at this
        omega
    · rw [mem_upTo] at hx
      obtain ⟨j, hj, hje⟩ := List.mem_iff_getElem.1 ((hM x).2 hx.1)
      have hji : j < i := by
        refine Classical.byContradiction (fun hn => ?_)
        by_cases he : i = j
        · subst he
          rw [hke] at hje
          rw [← hje] at hx
          omega
        · have := List.pairwise_iff_getElem.1 hs i j hil hj (by omega)
          rw [hje, hke] at this
          omega
      rw [List.mem_take_iff_getElem]
      exact ⟨j, by omega, hje⟩
  · subst h2; subst h3
    refine ⟨?_, fun _ => rfl⟩
    simp only [Bool.false_eq_true, if_false]
    refine bt_none h1 (fun hh => h4 (map_sub (fun x hx => ?_) hh))
    rw [mem_upTo] at hx
    exact (hM x).2 hx.1
end
end Go.Proofs.Ytkgfcdpckfhknaa

namespace Go.Proofs.Ytkgfcdpckfhknaa
open Go Go.Eng
section
variable {P : Nat} {rs : List Rd} {ks : List Int} {u v : AV} {A : AHeap}
end
section
variable {Q : Int} {rs : List Rd} {u : AV} {A : AHeap}
end
end Go.Proofs.Ytkgfcdpckfhknaa

namespace Go.Proofs.Ytkgfcdpckfhknaa
open Go Go.Eng
/-- Rows of another list, put together anew. -/
structure Sel (A H : AHeap) (v : AV) (ws : List (AV × List Int)) : Prop where
  acc : AccL 1 e0 A H v ws
  inn : ∀ x ∈ ws, L1 A x.1 x.2
theorem Sel.nil {A H : AHeap} (h : A <+: H) : Sel A H .nilS [] := ⟨AccL.nil h, by simp⟩
theorem Sel.push {A H : AHeap} {v : AV} {ws : List (AV × List Int)} (h : Sel A H v ws) {x : AV × List Int} (hx : L1 A x.1 x.2) (hl : ws.length + 1 ≤ lim) :
    ∃ v' H2, appA 1 (H ++ [.cells true [x.1]]) v (.sl 1 H.length 0 1 true) = some (v', H2) ∧ Sel A H2 v' (ws ++ [x]) ∧ v'.cells? = some [v'] := by
  obtain ⟨v', H2, happ, hacc⟩ := h.acc.push e0_len x hl
  refine ⟨v', H2, happ, ⟨hacc, fun y hy => ?_⟩, Ls_cells (AccL_ls hacc e0_len)⟩
  rcases List.mem_append.1 hy with hy | hy
  · exact h.inn y hy
  · have : y = x := by simpa using hy
    rw [this]; exact hx
section
variable {P : Nat} {rs : List Rd} {ks : List Int} {u v : AV} {A : AHeap}
noncomputable instance jblDec (P : Nat) (rs : List Rd) : Decidable (Jbl P rs) := by unfold Jbl; infer_instance
end
section
variable {Q : Int} {rs : List Rd} {ks : List Int} {u v : AV} {A : AHeap}
end
section
variable {P : Nat} {rs : List Rd} {ks : List Int} {u v : AV} {A : AHeap}
end
end Go.Proofs.Ytkgfcdpckfhknaa

namespace Go.Proofs.Ytkgfcdpckfhknaa
open Go Go.Eng
section
variable {P : Nat} {rs : List Rd} {ks : List Int} {u v : AV} {A : AHeap}
set_option maxHeartbeats 8000000 in
theorem c_least {L : List Int} (hu : L3 A u rs) (hx : L1 A v L) (hn : Net P rs) (hk : Nos rs L) (hl : L.length ≤ 1000000) {a b : Int} (ha : 0 ≤ a ∧ a < P) (hb : 0 ≤ b ∧ b < P) : ∃ c ok, ACalls Try.prog 62 [.agg [I P, u], v, I a, I b] A (.tuple [I c, B ok]) A ∧ LS rs L a b c ok := by
  have key : ∃ r H', ACalls Try.prog 62 [.agg [I P, u], v, I a, I b] A r H' ∧ ∃ c ok, r = .tuple [I c, B ok] ∧ H' = A ∧ LS rs L a b c ok := by
    refine acallsR hmix Try.func62 (by kernel_rfl) t62 _ 4 rfl (by decide) ?_
    have hP7 := hn.p7
    by_cases hab : a = b
    · subst hab
      dsimp only [m62]
      simp (maxSteps := 4000000) -implicitDefEqProofs -dsimp (disch := omega) only [↓AW_ops, ↓AW_seq, ↓AW_cond, ↓AW_ret, ↓AOps_nil, ↓AOps_pu, on_some, condB_t, ↓then_normal, ↓then_ret, ↓FinR_ret, pval, rd_S, rd_C, put_S, resV, resL, cells_agg, eq_self, List.replicate_succ, List.replicate_zero, List.set_cons_zero, List.set_cons_succ, List.getElem?_cons_zero, List.getElem?_cons_succ, Option.getD_some, Nat.reduceSub, List.cons_append, List.nil_append, bin_eql, decide_true]
      exact ⟨_, _, gc_all, 0, true, rfl, rfl, .inl ⟨rfl, rfl, rfl⟩⟩
    dsimp only [m62]
    simp (maxSteps := 4000000) -implicitDefEqProofs -dsimp (disch := omega) only [↓AW_skip, ↓AW_ops, ↓AW_seq, ↓AW_cond, ↓AW_block, ↓AOps_nil, ↓AOps_pu, on_some, condB_f, ↓then_normal, pval, rd_S, rd_C, put_S, ↓AW_toLoop, cells_agg, List.replicate_succ, List.replicate_zero, List.set_cons_zero, List.set_cons_succ, List.getElem?_cons_zero, List.getElem?_cons_succ, Option.getD_some, Nat.reduceSub, List.cons_append, List.nil_append, bin_eql, decide_false, hab, hx.len]
    refine LoopK.by 44 (fun x : Nat × AV × AHeap => x.1 ≤ L.length ∧ AccL 1 e1 A x.2.2 x.2.1 (L.take x.1) ∧ ¬ Cn ((L.take x.1).map (rdx rs)) a b) (fun x => [(2, I a), (3, I b), (4, .agg [I P, u]), (10, x.2.1), (17, v), (18, I L.length), (19, I x.1)]) (fun x => x.2.2) (fun x => L.length - x.1) (0, .nilS, A) ⟨by simp only; omega, by rw [List.take_zero]; exact AccL.nil (List.prefix_refl _), by rw [List.take_zero]; exact fun h => hab h.nil⟩ rfl (by simp [Has, rd_s]) rfl ?_
    rintro ⟨i, y, H⟩ ⟨hi, hac, hnc⟩
    simp only at hi hac hnc
    have hxH := hx.mono hac.1
    by_cases hlt : i < L.length
    · obtain ⟨z, hz⟩ : ∃ z, L[i]? = some z := ⟨_, List.getElem?_eq_getElem hlt⟩
      have hlt' : (i : Int) < L.length := by omega
      obtain ⟨k0, k1⟩ := hk z (List.mem_of_getElem? hz)
      obtain ⟨hr, _⟩ := rdx_at k0 k1
      have htk : L.take (i + 1) = L.take i ++ [z] := by rw [List.take_add_one, hz]; rfl
      obtain ⟨v', H2, happ, hacc, _, n, len, rfl, _⟩ := AccL_push2 hac e1_len (by omega) z (by rw [List.length_take]; simp only [lim]; omega)
      rw [← htk] at hacc
      simp only [Go.Eng.e1] at happ
      simp (maxSteps := 4000000) -implicitDefEqProofs -dsimp (disch := omega) only [↓AW_skip, ↓AW_ops, ↓AW_seq, ↓AW_cond, ↓AW_block, ↓AOps_nil, ↓AOps_pu, ↓AOps_ld, ↓AOps_ha, ↓AOps_call, on_some, extK_false, extK_app, condB_t, ↓then_normal, pval, lval_ld, hval_blds, hval_app, rd_S, put_S, chkd, bgot, cells_int, splice, partA, fillA, repl, eq_self, mk, List.foldl_cons, List.foldl_nil, List.replicate_succ, List.replicate_zero, List.set_cons_zero, List.set_cons_succ, List.getElem?_cons_zero, List.getElem?_cons_succ, List.drop_zero, List.drop_succ_cons, List.drop_nil, List.take_zero, List.take_succ_cons, List.take_nil, Option.getD_some, map_c, map_n, List.length_cons, List.length_nil, Nat.reduceAdd, Nat.reduceLeDiff, Nat.reduceEqDiff, Nat.zero_add, List.nil_append, List.append_nil, bin_lss, if_true, if_false, Bool.false_eq_true, decide_true, Go.Eng.e1, and_true, hlt', hxH.idx hlt, hxH.ld0 hz 1 false (by decide), happ, List.replicate_zero, repl]
      refine CallK.of (s99 (hu.mono hacc.1) (AccL_ls hacc e1_len) hn (fun k hk2 => hk k (List.mem_of_mem_take hk2)) (by rw [List.length_take]; omega)) ?_
      have hpm := pre_app H2 [.mp (mI P (lab ((L.take (i + 1)).map (rdx rs))))]
      have hm := mp_new H2 (.mp (mI P (lab ((L.take (i + 1)).map (rdx rs)))))
      have hacm := hacc.mono hpm
      have hum := hu.mono hacm.1
      have hpA := hacm.1
      generalize H2 ++ [AObj.mp (mI P (lab ((L.take (i + 1)).map (rdx rs))))] = H3 at *
      have hri := hum.idxI (k := .i64) k0 (show z < (rs.length : Int) by omega)
      have hla := lkI' hm ha.1 ha.2
      have hlb := lkI' hm hb.1 hb.2
      by_cases hc : Cn ((L.take (i + 1)).map (rdx rs)) a b
      · have hq : lab ((L.take (i + 1)).map (rdx rs)) a = lab ((L.take (i + 1)).map (rdx rs)) b := (lab_eq_iff ha.1 hb.1).2 hc
        have hwe : (rdx rs z).2.2 = wct rs z := rfl
        simp (maxSteps := 4000000) -implicitDefEqProofs -dsimp (disch := omega) only [↓AW_ops, ↓AW_seq, ↓AW_cond, ↓AW_ret, ↓AOps_nil, ↓AOps_pu, ↓AOps_ld, on_some, extK_false, condB_t, ↓then_normal, ↓then_ret, ↓inBlock_ret, ↓FinR_ret, pval, lval_ld, lval_look, rd_S, rd_C, put_S, resV, resL, chkd, isAdr, bgot, cells_agg, partA, eq_self, mk, List.foldl_cons, List.foldl_nil, List.replicate_succ, List.replicate_zero, List.set_cons_zero, List.set_cons_succ, List.getElem?_cons_zero, List.getElem?_cons_succ, List.drop_zero, List.drop_succ_cons, List.take_succ_cons, List.take_nil, Option.getD_some, List.length_cons, List.length_nil, Nat.reduceAdd, Nat.reduceLeDiff, Nat.zero_add, bin_eql, if_true, if_false, Bool.false_eq_true, decide_true, hla, hlb, hq, hri, hum.ld hr 1 2 false (by decide), e3, hwe]
        exact ⟨_, _, gc_val hpA rfl, wct rs z, true, rfl, rfl, .inr (.inl ⟨hab, rfl, i, z, hz, rfl, hc, hnc⟩)⟩
      · have hq : ¬ lab ((L.take (i + 1)).map (rdx rs)) a = lab ((L.take (i + 1)).map (rdx rs)) b := fun e => hc ((lab_eq_iff ha.1 hb.1).1 e)
        simp (maxSteps := 4000000) -implicitDefEqProofs -dsimp (disch := omega) only [↓AW_skip, ↓AW_ops, ↓AW_seq, ↓AW_cond, ↓AOps_nil, ↓AOps_pu, ↓AOps_ld, on_some, extK_false, condB_f, ↓then_normal, ↓inBlock_normal, pval, lval_look, rd_S, rd_C, put_S, eq_self, mk, List.foldl_cons, List.foldl_nil, List.replicate_succ, List.replicate_zero, List.set_cons_zero, List.set_cons_succ, List.getElem?_cons_zero, List.getElem?_cons_succ, Option.getD_some, List.length_cons, List.length_nil, Nat.reduceAdd, Nat.zero_add, bin_add, bin_eql, w64, decide_false, true_and, hla, hlb, hq]
        exact ⟨(i + 1, .sl 1 n 0 len false, H3), ⟨hlt, hacm, hc⟩, by simp [Has, rd_s], rfl, by simp only; omega⟩
    · have hlt' : ¬ ((i : Int) < L.length) := by omega
      rw [List.take_of_length_le (by omega)] at hnc
      simp (maxSteps := 4000000) -implicitDefEqProofs -dsimp (disch := omega) only [↓AW_ops, ↓AW_seq, ↓AW_cond, ↓AW_exit, ↓AW_ret, ↓AOps_nil, ↓AOps_pu, on_some, condB_f, ↓then_normal, ↓then_exit, ↓inBlock_exit, ↓FinR_ret, pval, rd_S, rd_C, put_S, resV, resL, eq_self, mk, List.foldl_cons, List.foldl_nil, List.replicate_succ, List.replicate_zero, List.set_cons_zero, List.set_cons_succ, List.getElem?_cons_zero, List.getElem?_cons_succ, Option.getD_some, bin_lss, if_true, decide_false, hlt']
      exact ⟨_, _, gc_val hac.1 rfl, 0, false, rfl, rfl, .inr (.inr ⟨hab, rfl, rfl, hnc⟩)⟩
  obtain ⟨r, H', h1, c, ok, rfl, rfl, h2⟩ := key
  exact ⟨c, ok, h1, h2⟩
end
section
variable {Q : Int} {rs : List Rd} {ks : List Int} {u v : AV} {A : AHeap} {a b : Int}
/-- The error of a net and two places. -/
def pE (Q : Int) (rs : List Rd) (a b : Int) : Int := if vE Q rs = 0 then (if (0 ≤ a ∧ a ≤ Q - 1) ∧ (0 ≤ b ∧ b ≤ Q - 1) then 0 else 4) else vE Q rs
theorem pE_v (h : ¬ vE Q rs = 0) : pE Q rs a b = vE Q rs := by unfold pE; rw [if_neg h]
theorem pE_4 (h : vE Q rs = 0) (h2 : ¬ ((0 ≤ a ∧ a ≤ Q - 1) ∧ (0 ≤ b ∧ b ≤ Q - 1))) : pE Q rs a b = 4 := by unfold pE; rw [if_pos h, if_neg h2]
theorem pE_0 : pE Q rs a b = 0 ↔ Net Q rs ∧ (0 ≤ a ∧ a ≤ Q - 1) ∧ (0 ≤ b ∧ b ≤ Q - 1) := by
  rw [← vE_0]
  unfold pE
  constructor
  · intro h
    split at h
    · rename_i h1
      split at h
      · rename_i h2; exact ⟨h1, h2⟩
      · cases h
    · rename_i h1; exact absurd h h1
  · rintro ⟨h1, h2⟩
    rw [if_pos h1, if_pos h2]
theorem L1_two (A : AHeap) (x y : Int) : L1 (A ++ [.cells true [I x, I y]]) (.sl 1 A.length 0 2 true) [x, y] := ⟨e1_len, by simp [slCells, cellsAt, e1]⟩
theorem notOf_2 {c x y : Int} : notOf c [x, y] = true ↔ ¬ ((0 ≤ x ∧ x ≤ c - 1) ∧ (0 ≤ y ∧ y ≤ c - 1)) := by
  unfold notOf
  simp only [List.any_cons, List.any_nil, Bool.or_false, Bool.or_eq_true, Bool.not_eq_true', decide_eq_false_iff_not]
  omega
theorem s72 (hu : L3 A u rs) (hP : W Q) (a b : Int) : ACalls Try.prog 72 [.agg [I Q, u], I a, I b] A (I (pE Q rs a b)) A := by
  refine acalls hmix Try.func72 (by kernel_rfl) t72 3 rfl (by decide) ?_
  dsimp only [m72]
  simp (maxSteps := 4000000) -implicitDefEqProofs -dsimp (disch := omega) only [↓AW_ops, ↓AW_seq, ↓AOps_nil, ↓AOps_pu, ↓AOps_call, on_some, ↓then_normal, pval, rd_S, rd_C, put_S, chkd, bgot, AV.cells?, partA, eq_self, List.replicate_succ, List.replicate_zero, List.set_cons_zero, List.set_cons_succ, List.getElem?_cons_zero, List.getElem?_cons_succ, List.drop_zero, List.take_succ_cons, List.take_nil, Option.getD_some, map_c, map_n, List.length_cons, List.length_nil, Nat.reduceAdd, Nat.reduceSub, Nat.reduceLeDiff, Nat.reduceEqDiff, Nat.zero_add, List.cons_append, List.nil_append, if_true, if_false]
  refine CallK.of (s28 hu hP) ?_
  by_cases h0 : vE Q rs = 0
  · have hn := vE_0.1 h0
    have := hn.p1
    have := hn.p7
    simp (maxSteps := 4000000) -implicitDefEqProofs -dsimp (disch := omega) only [↓AW_skip, ↓AW_ops, ↓AW_seq, ↓AW_cond, ↓AOps_nil, ↓AOps_pu, ↓AOps_ha, ↓AOps_call, on_some, extK_app, extK_same, condB_f, ↓then_normal, pval, hval, rd_S, rd_C, put_S, chkd, isAdr, bgot, AV.cells?, splice, partA, fillA, repl, eq_self, List.replicate_succ, List.replicate_zero, List.set_cons_zero, List.set_cons_succ, List.getElem?_cons_zero, List.getElem?_cons_succ, List.drop_zero, List.drop_succ_cons, List.drop_nil, List.take_zero, List.take_succ_cons, Option.getD_some, map_c, map_n, List.length_cons, List.length_nil, Nat.reduceAdd, Nat.reduceSub, Nat.reduceLeDiff, Nat.zero_add, List.cons_append, List.nil_append, List.append_nil, bin_neq, if_true, if_false, Bool.false_eq_true, decide_false, and_true, not_true_eq_false, h0, List.replicate_zero, repl]
    refine CallK.of (s58 (L1_two A a b) (by simp) (c := Q) (by omega)) ?_
    by_cases h1 : notOf Q [a, b] = true
    · rw [if_pos h1, pE_4 h0 (notOf_2.1 h1)]
      simp (maxSteps := 4000000) -implicitDefEqProofs -dsimp (disch := omega) only [↓AW_ret, ↓AOps_nil, ↓AOps_pu, on_some, extK_same, ↓then_normal, ↓Fin_ret, pval, rd_S, put_S, resV, resL, List.replicate_succ, List.replicate_zero, List.set_cons_zero, List.set_cons_succ, List.getElem?_cons_zero, List.getElem?_cons_succ, Option.getD_some, Nat.reduceSub, List.cons_append, List.nil_append]
      exact gc_val (pre_app _ _) rfl
    · have h2 : (0 ≤ a ∧ a ≤ Q - 1) ∧ (0 ≤ b ∧ b ≤ Q - 1) := Classical.byContradiction (fun h => h1 (notOf_2.2 h))
      rw [if_neg h1, pE_0.2 ⟨hn, h2⟩]
      simp (maxSteps := 4000000) -implicitDefEqProofs -dsimp (disch := omega) only [↓AW_ret, ↓AOps_nil, ↓AOps_pu, on_some, extK_same, ↓then_normal, ↓Fin_ret, pval, rd_S, put_S, resV, resL, List.replicate_succ, List.replicate_zero, List.set_cons_zero, List.set_cons_succ, List.getElem?_cons_zero, List.getElem?_cons_succ, Option.getD_some, Nat.reduceSub, List.cons_append, List.nil_append]
      exact gc_val (pre_app _ _) rfl
  · rw [pE_v h0]
    simp (maxSteps := 4000000) -implicitDefEqProofs -dsimp (disch := omega) only [↓AW_ops, ↓AW_seq, ↓AW_cond, ↓AW_ret, ↓AOps_nil, ↓AOps_pu, on_some, extK_same, condB_t, ↓then_normal, ↓then_ret, ↓Fin_ret, pval, rd_S, rd_C, put_S, resV, resL, List.replicate_succ, List.replicate_zero, List.set_cons_zero, List.set_cons_succ, List.getElem?_cons_zero, List.getElem?_cons_succ, Option.getD_some, Nat.reduceSub, List.cons_append, List.nil_append, bin_neq, decide_true, not_false_eq_true, h0]
    exact gc_same rfl
theorem s77 (hu : L3 A u rs) (hP : W Q) (a b : Int) : ACalls Try.prog 77 [.agg [I Q, u], I a, I b] A (I (pE Q rs a b)) A := by
  refine acalls hmix Try.func77 (by kernel_rfl) t77 3 rfl (by decide) ?_
  dsimp only [m77]
  simp (maxSteps := 4000000) -implicitDefEqProofs -dsimp (disch := omega) only [↓AW_ops, ↓AW_seq, ↓AOps_nil, ↓AOps_pu, ↓AOps_call, on_some, ↓then_normal, pval, rd_S, rd_C, put_S, chkd, bgot, AV.cells?, partA, eq_self, List.replicate_succ, List.replicate_zero, List.set_cons_zero, List.set_cons_succ, List.getElem?_cons_zero, List.getElem?_cons_succ, List.drop_zero, List.take_succ_cons, List.take_nil, Option.getD_some, map_c, map_n, List.length_cons, List.length_nil, Nat.reduceAdd, Nat.reduceSub, Nat.reduceLeDiff, Nat.reduceEqDiff, Nat.zero_add, List.cons_append, List.nil_append, if_true, if_false]
  refine CallK.of (s22 hu hP) ?_
  by_cases h0 : vE Q rs = 0
  case neg =>
    rw [pE_v h0]
    simp (maxSteps := 4000000) -implicitDefEqProofs -dsimp (disch := omega) only [↓AW_ops, ↓AW_seq, ↓AW_cond, ↓AW_ret, ↓AOps_nil, ↓AOps_pu, on_some, extK_same, condB_t, ↓then_normal, ↓then_ret, ↓Fin_ret, pval, rd_S, rd_C, put_S, resV, resL, List.replicate_succ, List.replicate_zero, List.set_cons_zero, List.set_cons_succ, List.getElem?_cons_zero, List.getElem?_cons_succ, Option.getD_some, Nat.reduceSub, List.cons_append, List.nil_append, bin_neq, decide_true, not_false_eq_true, h0]
    exact gc_same rfl
  have hn := vE_0.1 h0
  have := hn.p1
  have := hn.p7
  simp (maxSteps := 4000000) -implicitDefEqProofs -dsimp (disch := omega) only [↓AW_skip, ↓AW_ops, ↓AW_seq, ↓AW_cond, ↓AOps_nil, ↓AOps_pu, ↓AOps_call, on_some, extK_same, condB_f, ↓then_normal, pval, rd_S, rd_C, put_S, chkd, isAdr, bgot, AV.cells?, partA, eq_self, List.replicate_succ, List.replicate_zero, List.set_cons_zero, List.set_cons_succ, List.getElem?_cons_zero, List.getElem?_cons_succ, List.drop_zero, List.take_zero, List.take_succ_cons, Option.getD_some, map_c, map_n, List.length_cons, List.length_nil, Nat.reduceAdd, Nat.reduceSub, Nat.reduceLeDiff, Nat.zero_add, List.cons_append, List.nil_append, bin_sub, bin_neq, w64, if_true, if_false, Bool.false_eq_true, decide_false, not_true_eq_false, h0]
  refine CallK.of (c_wi _ _ _ _) ?_
  by_cases h1 : 0 ≤ a ∧ a ≤ Q - 1
  case neg =>
    rw [pE_4 h0 (fun hh => h1 hh.1)]
    simp (maxSteps := 4000000) -implicitDefEqProofs -dsimp (disch := omega) only [↓AW_ops, ↓AW_seq, ↓AW_cond, ↓AW_ret, ↓AOps_nil, ↓AOps_pu, ↓AOps_guard, on_some, extK_same, guardB_tf, skipS_some, condB_t, ↓then_normal, ↓then_ret, ↓Fin_ret, pval, rd_S, rd_C, put_S, resV, resL, eq_self, List.replicate_succ, List.replicate_zero, List.set_cons_zero, List.set_cons_succ, List.getElem?_cons_zero, List.getElem?_cons_succ, Option.getD_some, Nat.reduceSub, List.cons_append, List.nil_append, if_true, Bool.not_false, decide_false, h1]
    exact gc_same rfl
  simp (maxSteps := 4000000) -implicitDefEqProofs -dsimp (disch := omega) only [↓AOps_pu, ↓AOps_call, ↓AOps_guard, on_some, extK_same, guardB_ff, pval, rd_S, rd_C, put_S, chkd, isAdr, bgot, AV.cells?, partA, eq_self, List.replicate_succ, List.replicate_zero, List.set_cons_zero, List.set_cons_succ, List.getElem?_cons_zero, List.getElem?_cons_succ, List.drop_zero, List.take_zero, List.take_succ_cons, Option.getD_some, map_c, map_n, List.length_cons, List.length_nil, Nat.reduceAdd, Nat.reduceSub, Nat.reduceLeDiff, Nat.zero_add, List.cons_append, List.nil_append, bin_sub, w64, if_true, if_false, Bool.false_eq_true, Bool.not_true, decide_true, and_true, h1]
  refine CallK.of (c_wi _ _ _ _) ?_
  by_cases h2 : 0 ≤ b ∧ b ≤ Q - 1
  case neg =>
    rw [pE_4 h0 (fun hh => h2 hh.2)]
    simp (maxSteps := 4000000) -implicitDefEqProofs -dsimp (disch := omega) only [↓AW_ops, ↓AW_seq, ↓AW_cond, ↓AW_ret, ↓AOps_nil, ↓AOps_pu, ↓AOps_guard, on_some, extK_same, guardB_ff, condB_t, ↓then_normal, ↓then_ret, ↓Fin_ret, pval, rd_S, rd_C, put_S, resV, resL, List.replicate_succ, List.replicate_zero, List.set_cons_zero, List.set_cons_succ, List.getElem?_cons_zero, List.getElem?_cons_succ, Option.getD_some, Nat.reduceSub, List.cons_append, List.nil_append, if_false, Bool.false_eq_true, Bool.not_false, decide_false, h2]
    exact gc_same rfl
  rw [pE_0.2 ⟨hn, h1, h2⟩]
  simp (maxSteps := 4000000) -implicitDefEqProofs -dsimp (disch := omega) only [↓AW_skip, ↓AW_ops, ↓AW_seq, ↓AW_cond, ↓AW_ret, ↓AOps_nil, ↓AOps_pu, ↓AOps_guard, on_some, extK_same, guardB_ff, condB_f, ↓then_normal, ↓Fin_ret, pval, rd_S, rd_C, put_S, resV, resL, List.replicate_succ, List.replicate_zero, List.set_cons_zero, List.set_cons_succ, List.getElem?_cons_zero, List.getElem?_cons_succ, Option.getD_some, Nat.reduceSub, List.cons_append, List.nil_append, if_false, Bool.false_eq_true, Bool.not_true, decide_true, and_true, h2]
  exact gc_same rfl
/-- The smallest worst of a way: the cost, whether there is one, the error. -/
noncomputable def wC (Q : Int) (rs : List Rd) (a b : Int) : Int := if pE Q rs a b = 0 then (bt rs (nums rs) a b).getD 0 else 0
noncomputable def wB (Q : Int) (rs : List Rd) (a b : Int) : Bool := decide (pE Q rs a b = 0) && (bt rs (nums rs) a b).isSome
theorem s25 (hu : L3 A u rs) (hP : W Q) (a b : Int) : ACalls Try.prog 25 [.agg [I Q, u], I a, I b] A (.tuple [I (wC Q rs a b), B (wB Q rs a b), I (pE Q rs a b)]) A := by
  refine acalls hmix Try.func25 (by kernel_rfl) t25 3 rfl (by decide) ?_
  dsimp only [m25]
  simp (maxSteps := 4000000) -implicitDefEqProofs -dsimp (disch := omega) only [↓AW_ops, ↓AW_seq, ↓AOps_nil, ↓AOps_pu, ↓AOps_call, on_some, ↓then_normal, pval, rd_S, rd_C, put_S, chkd, bgot, AV.cells?, partA, eq_self, List.replicate_succ, List.replicate_zero, List.set_cons_zero, List.set_cons_succ, List.getElem?_cons_zero, List.getElem?_cons_succ, List.drop_zero, List.take_succ_cons, List.take_nil, Option.getD_some, map_c, map_n, List.length_cons, List.length_nil, Nat.reduceAdd, Nat.reduceSub, Nat.reduceLeDiff, Nat.reduceEqDiff, Nat.zero_add, List.cons_append, List.nil_append, if_true, if_false]
  refine CallK.of (s72 hu hP a b) ?_
  by_cases h0 : pE Q rs a b = 0
  · obtain ⟨hn, ha, hb⟩ := pE_0.1 h0
    obtain ⟨P, rfl⟩ := hn.nat
    have hl14 := hn.l
    have e1 : wC P rs a b = (bt rs (nums rs) a b).getD 0 := if_pos h0
    have e2 : wB P rs a b = (bt rs (nums rs) a b).isSome := by unfold wB; rw [decide_eq_true h0, Bool.true_and]
    rw [e1, e2, h0]
    simp (maxSteps := 4000000) -implicitDefEqProofs -dsimp (disch := omega) only [↓AW_skip, ↓AW_ops, ↓AW_seq, ↓AW_cond, ↓AOps_nil, ↓AOps_pu, ↓AOps_call, on_some, extK_same, condB_f, ↓then_normal, pval, rd_S, rd_C, put_S, chkd, bgot, partA, eq_self, List.replicate_succ, List.replicate_zero, List.set_cons_zero, List.set_cons_succ, List.getElem?_cons_zero, List.getElem?_cons_succ, List.drop_zero, List.take_succ_cons, List.take_nil, Option.getD_some, map_c, map_n, List.length_cons, List.length_nil, Nat.reduceAdd, Nat.reduceSub, Nat.reduceLeDiff, Nat.reduceEqDiff, Nat.zero_add, List.cons_append, List.nil_append, bin_neq, if_true, if_false, decide_false, not_true_eq_false]
    obtain ⟨r1, H1, c1, p1, L, hL, hO⟩ := c_all hu hn
    refine CallK.of c1 ?_
    simp (maxSteps := 4000000) -implicitDefEqProofs -dsimp (disch := omega) only [↓AOps_pu, ↓AOps_call, on_some, extK_false, pval, rd_S, put_S, List.replicate_succ, List.replicate_zero, List.set_cons_zero, List.set_cons_succ, List.getElem?_cons_zero, List.getElem?_cons_succ, Option.getD_some, map_c, map_n, Nat.reduceSub, List.cons_append, List.nil_append]
    obtain ⟨c, ok, c2, hLS⟩ := c_least (hu.mono p1) hL hn hO.nos (by rw [hO.len]; omega) (a := a) (b := b) (by omega) (by omega)
    refine CallK.of c2 ?_
    obtain ⟨hbt, hok⟩ := LS_bt (M := nums rs) hO.s (fun k => hO.p.mem_iff) (fun k hk => hn.wb (hO.nos k hk).1 (hO.nos k hk).2) hLS
    rw [hbt]
    cases ok with
    | true =>
      simp (maxSteps := 4000000) -implicitDefEqProofs -dsimp (disch := omega) only [↓AW_ops, ↓AW_seq, ↓AW_ret, ↓AOps_nil, ↓AOps_pu, on_some, extK_same, ↓then_normal, ↓Fin_ret, pval, rd_S, rd_C, put_S, resV, resL, eq_self, List.replicate_succ, List.replicate_zero, List.set_cons_zero, List.set_cons_succ, List.getElem?_cons_zero, List.getElem?_cons_succ, Option.getD_some, Nat.reduceSub, List.cons_append, List.nil_append, if_true, Option.isSome_some]
      exact gc_val p1 rfl
    | false =>
      rw [hok rfl]
      simp (maxSteps := 4000000) -implicitDefEqProofs -dsimp (disch := omega) only [↓AW_ops, ↓AW_seq, ↓AW_ret, ↓AOps_nil, ↓AOps_pu, on_some, extK_same, ↓then_normal, ↓Fin_ret, pval, rd_S, rd_C, put_S, resV, resL, List.replicate_succ, List.replicate_zero, List.set_cons_zero, List.set_cons_succ, List.getElem?_cons_zero, List.getElem?_cons_succ, Option.getD_some, Nat.reduceSub, List.cons_append, List.nil_append, if_false, Bool.false_eq_true, Option.isSome_none, Option.getD_none]
      exact gc_val p1 rfl
  · have e1 : wC Q rs a b = 0 := if_neg h0
    have e2 : wB Q rs a b = false := by unfold wB; rw [decide_eq_false h0, Bool.false_and]
    rw [e1, e2]
    simp (maxSteps := 4000000) -implicitDefEqProofs -dsimp (disch := omega) only [↓AW_ops, ↓AW_seq, ↓AW_cond, ↓AW_ret, ↓AOps_nil, ↓AOps_pu, on_some, extK_same, condB_t, ↓then_normal, ↓then_ret, ↓Fin_ret, pval, rd_S, rd_C, put_S, resV, resL, List.replicate_succ, List.replicate_zero, List.set_cons_zero, List.set_cons_succ, List.getElem?_cons_zero, List.getElem?_cons_succ, Option.getD_some, Nat.reduceSub, List.cons_append, List.nil_append, bin_neq, decide_true, not_false_eq_true, h0]
    exact gc_same rfl
end
end Go.Proofs.Ytkgfcdpckfhknaa

namespace Go.Proofs.Ytkgfcdpckfhknaa
open Go Go.Eng
/-- selion/selionlaw04.RoadRanges [] -/
def m3 : MFun := ⟨44, [2], [.mov (.s 4)],
 .seq (.ops [⟨(some 2), some (.junk), none, false, .pu (.bnew (.s 0))⟩,
   ⟨(some 4), some undefA, none, false, .pu (.mov (.c (.bool false)))⟩])
 (.seq (.seq (.ops [⟨(some 11), some undefA, none, false, .pu (.bget none 2 0 2 true)⟩,
   ⟨(some 12), some undefA, none, false, .call 17 [(.s 11)]⟩])
 (.cond (.s 12) (.seq (.ops [⟨(some 13), some undefA, none, false, .call 18 []⟩,
    ⟨(some 4), some undefA, none, false, .pu (.mov (.s 13))⟩])
  (.ret))
 (.skip)))
 (.seq (.ops [⟨(some 15), some undefA, none, false, .pu (.bget none 2 0 2 true)⟩,
   ⟨(some 16), some undefA, none, false, .pu (.mov (.s 1))⟩,
   ⟨(some 17), some undefA, none, false, .call 19 [(.s 15), (.s 16)]⟩,
   ⟨(some 14), some undefA, none, false, .pu (.mov (.s 17))⟩,
   ⟨(some 18), some undefA, none, false, .pu (.extr 0 (.s 14))⟩,
   ⟨(some 19), some undefA, none, false, .pu (.extr 1 (.s 14))⟩,
   ⟨(some 20), some undefA, none, false, .pu (.extr 2 (.s 14))⟩,
   ⟨(some 5), some undefA, none, false, .pu (.mov (.s 18))⟩,
   ⟨(some 6), some undefA, none, false, .pu (.mov (.s 19))⟩,
   ⟨(some 7), some undefA, none, false, .pu (.mov (.s 20))⟩])
 (.seq (.ops [⟨(some 22), some undefA, none, false, .pu (.bget none 2 0 2 true)⟩,
   ⟨(some 23), some undefA, none, false, .pu (.mov (.s 1))⟩,
   ⟨(some 24), some undefA, none, false, .call 20 [(.s 22), (.s 23)]⟩,
   ⟨(some 21), some undefA, none, false, .pu (.mov (.s 24))⟩,
   ⟨(some 25), some undefA, none, false, .pu (.extr 0 (.s 21))⟩,
   ⟨(some 26), some undefA, none, false, .pu (.extr 1 (.s 21))⟩,
   ⟨(some 27), some undefA, none, false, .pu (.extr 2 (.s 21))⟩,
   ⟨(some 8), some undefA, none, false, .pu (.mov (.s 25))⟩,
   ⟨(some 9), some undefA, none, false, .pu (.mov (.s 26))⟩,
   ⟨(some 10), some undefA, none, false, .pu (.mov (.s 27))⟩])
 (.seq (.ops [⟨(some 28), some undefA, none, false, .pu (.mov (.s 5))⟩,
   ⟨(some 29), some undefA, none, false, .pu (.mov (.s 8))⟩,
   ⟨(some 30), some undefA, none, false, .pu (.bin .eql (.s 28) (.s 29))⟩,
   ⟨(some 31), some undefA, none, false, .pu (.mov (.s 30))⟩,
   ⟨(some 32), some undefA, (some (31, true)), false, .pu (.mov (.s 6))⟩,
   ⟨(some 33), some undefA, (some (31, true)), false, .pu (.mov (.s 9))⟩,
   ⟨(some 34), some undefA, (some (31, true)), false, .pu (.eqb false (.s 32) (.s 33))⟩,
   ⟨(some 35), some undefA, none, false, .pu (.pick (.s 31) (.s 34) (.c (.bool false)))⟩,
   ⟨(some 36), some undefA, none, false, .pu (.mov (.s 35))⟩,
   ⟨(some 37), some undefA, (some (36, true)), false, .pu (.mov (.s 7))⟩,
   ⟨(some 38), some undefA, (some (36, true)), false, .pu (.mov (.s 10))⟩,
   ⟨(some 39), some undefA, (some (36, true)), false, .pu (.bin .eql (.s 37) (.s 38))⟩,
   ⟨(some 40), some undefA, none, false, .pu (.pick (.s 36) (.s 39) (.c (.bool false)))⟩,
   ⟨(some 41), some undefA, none, false, .pu (.mov (.s 40))⟩,
   ⟨(some 42), some undefA, (some (41, true)), false, .call 18 []⟩,
   ⟨(some 43), some undefA, none, false, .pu (.pick (.s 41) (.s 42) (.c (.bool false)))⟩,
   ⟨(some 4), some undefA, none, false, .pu (.mov (.s 43))⟩])
 (.ret)))))⟩
/-- selion/selionlaw04.RoadWays [] -/
def m7 : MFun := ⟨77, [3, 4], [.mov (.s 6)],
 .seq (.ops [⟨(some 3), some (.junk), none, false, .pu (.bnew (.s 0))⟩,
   ⟨(some 4), some (.junk), none, false, .pu (.bnew (.s 1))⟩,
   ⟨(some 6), some undefA, none, false, .pu (.mov (.c (.bool false)))⟩])
 (.seq (.seq (.ops [⟨(some 14), some undefA, none, false, .pu (.bget none 3 0 2 true)⟩,
   ⟨(some 15), some undefA, none, false, .call 17 [(.s 14)]⟩,
   ⟨(some 16), some undefA, none, false, .pu (.mov (.s 15))⟩,
   ⟨(some 17), some undefA, (some (16, false)), false, .pu (.mov (.s 2))⟩,
   ⟨(some 18), some undefA, (some (16, false)), false, .pu (.len (.s 17))⟩,
   ⟨(some 19), some undefA, (some (16, false)), false, .pu (.bin .gtr (.s 18) (.c (.int .i64 200)))⟩,
   ⟨(some 20), some undefA, none, false, .pu (.pick (.s 16) (.c (.bool true)) (.s 19))⟩])
 (.cond (.s 20) (.seq (.ops [⟨(some 21), some undefA, none, false, .call 18 []⟩,
    ⟨(some 6), some undefA, none, false, .pu (.mov (.s 21))⟩])
  (.ret))
 (.skip)))
 (.seq (.ops [⟨(some 23), some undefA, none, false, .pu (.bget none 3 0 2 true)⟩,
   ⟨(some 24), some undefA, none, false, .pu (.badr none 4)⟩,
   ⟨(some 25), some undefA, none, false, .pu (.bget (some 24) 4 0 1 false)⟩,
   ⟨(some 26), some undefA, none, false, .pu (.badr none 4)⟩,
   ⟨(some 27), some undefA, none, false, .pu (.bget (some 26) 4 1 1 false)⟩,
   ⟨(some 28), some undefA, none, false, .pu (.mov (.s 2))⟩,
   ⟨(some 29), some undefA, none, false, .call 30 [(.s 23), (.s 25), (.s 27), (.s 28)]⟩,
   ⟨(some 22), some undefA, none, false, .pu (.mov (.s 29))⟩,
   ⟨(some 30), some undefA, none, false, .pu (.extr 0 (.s 22))⟩,
   ⟨(some 31), some undefA, none, false, .pu (.extr 1 (.s 22))⟩,
   ⟨(some 7), some undefA, none, false, .pu (.mov (.s 30))⟩,
   ⟨(some 8), some undefA, none, false, .pu (.mov (.s 31))⟩])
 (.seq (.ops [⟨(some 33), some undefA, none, false, .pu (.bget none 3 0 2 true)⟩,
   ⟨(some 34), some undefA, none, false, .pu (.badr none 4)⟩,
   ⟨(some 35), some undefA, none, false, .pu (.bget (some 34) 4 0 1 false)⟩,
   ⟨(some 36), some undefA, none, false, .pu (.badr none 4)⟩,
   ⟨(some 37), some undefA, none, false, .pu (.bget (some 36) 4 1 1 false)⟩,
   ⟨(some 38), some undefA, none, false, .pu (.mov (.s 2))⟩,
   ⟨(some 39), some undefA, none, false, .call 31 [(.s 33), (.s 35), (.s 37), (.s 38)]⟩,
   ⟨(some 32), some undefA, none, false, .pu (.mov (.s 39))⟩,
   ⟨(some 40), some undefA, none, false, .pu (.extr 0 (.s 32))⟩,
   ⟨(some 41), some undefA, none, false, .pu (.extr 1 (.s 32))⟩,
   ⟨(some 9), some undefA, none, false, .pu (.mov (.s 40))⟩,
   ⟨(some 10), some undefA, none, false, .pu (.mov (.s 41))⟩])
 (.seq (.seq (.ops [⟨(some 42), some undefA, none, false, .pu (.mov (.s 7))⟩,
   ⟨(some 43), some undefA, none, false, .pu (.mov (.s 9))⟩,
   ⟨(some 44), some undefA, none, false, .pu (.bin .neq (.s 42) (.s 43))⟩,
   ⟨(some 45), some undefA, none, false, .pu (.mov (.s 44))⟩,
   ⟨(some 46), some undefA, (some (45, false)), false, .pu (.mov (.s 8))⟩,
   ⟨(some 47), some undefA, (some (45, false)), false, .pu (.mov (.s 10))⟩,
   ⟨(some 48), some undefA, (some (45, false)), false, .pu (.bin .neq (.s 46) (.s 47))⟩,
   ⟨(some 49), some undefA, none, false, .pu (.pick (.s 45) (.c (.bool true)) (.s 48))⟩])
 (.cond (.s 49) (.seq (.ops [⟨(some 6), some undefA, none, false, .pu (.mov (.c (.bool false)))⟩])
  (.ret))
 (.skip)))
 (.seq (.ops [⟨(some 51), some undefA, none, false, .pu (.bget none 3 0 2 true)⟩,
   ⟨(some 52), some undefA, none, false, .pu (.badr none 4)⟩,
   ⟨(some 53), some undefA, none, false, .pu (.bget (some 52) 4 0 1 false)⟩,
   ⟨(some 54), some undefA, none, false, .pu (.badr none 4)⟩,
   ⟨(some 55), some undefA, none, false, .pu (.bget (some 54) 4 1 1 false)⟩,
   ⟨(some 56), some undefA, none, false, .call 25 [(.s 51), (.s 53), (.s 55)]⟩,
   ⟨(some 50), some undefA, none, false, .pu (.mov (.s 56))⟩,
   ⟨(some 57), some undefA, none, false, .pu (.extr 0 (.s 50))⟩,
   ⟨(some 58), some undefA, none, false, .pu (.extr 1 (.s 50))⟩,
   ⟨(some 59), some undefA, none, false, .pu (.extr 2 (.s 50))⟩,
   ⟨(some 11), some undefA, none, false, .pu (.mov (.s 57))⟩,
   ⟨(some 12), some undefA, none, false, .pu (.mov (.s 58))⟩,
   ⟨(some 13), some undefA, none, false, .pu (.mov (.s 59))⟩])
 (.seq (.ops [⟨(some 60), some undefA, none, false, .pu (.mov (.s 8))⟩,
   ⟨(some 61), some undefA, none, false, .pu (.bin .neq (.s 60) (.c (.int .i64 0)))⟩,
   ⟨(some 62), some undefA, none, false, .pu (.mov (.s 61))⟩,
   ⟨(some 63), some undefA, (some (62, false)), false, .pu (.mov (.s 13))⟩,
   ⟨(some 64), some undefA, (some (62, false)), false, .pu (.bin .eql (.s 63) (.c (.int .i64 0)))⟩,
   ⟨(some 65), some undefA, (some (62, false)), false, .pu (.mov (.s 64))⟩,
   ⟨(some 66), some undefA, (some (65, true)), false, .pu (.mov (.s 12))⟩,
   ⟨(some 67), some undefA, (some (62, false)), false, .pu (.pick (.s 65) (.s 66) (.c (.bool false)))⟩,
   ⟨(some 68), some undefA, (some (62, false)), false, .pu (.mov (.s 67))⟩,
   ⟨(some 69), some undefA, (some (68, true)), false, .pu (.mov (.s 11))⟩,
   ⟨(some 70), some undefA, (some (68, true)), false, .pu (.mov (.s 7))⟩,
   ⟨(some 71), some undefA, (some (68, true)), false, .pu (.bin .leq (.s 69) (.s 70))⟩,
   ⟨(some 72), some undefA, (some (62, false)), false, .pu (.pick (.s 68) (.s 71) (.c (.bool false)))⟩,
   ⟨(some 73), some undefA, none, false, .pu (.pick (.s 62) (.c (.bool true)) (.s 72))⟩,
   ⟨(some 74), some undefA, none, false, .pu (.mov (.s 73))⟩,
   ⟨(some 75), some undefA, (some (74, true)), false, .call 18 []⟩,
   ⟨(some 76), some undefA, none, false, .pu (.pick (.s 74) (.s 75) (.c (.bool false)))⟩,
   ⟨(some 6), some undefA, none, false, .pu (.mov (.s 76))⟩])
 (.ret)))))))⟩
theorem t7 : trF Try.prog [3, 4] [] Try.f7 = some m7 := by kernel_rfl
end Go.Proofs.Ytkgfcdpckfhknaa

namespace Go.Proofs.Ytkgfcdpckfhknaa
open Go Go.Eng
/-- One road on a way. -/
def stp (rs : List Rd) (p : Int × Int) (k : Int) : Option (Int × Int) :=
  if p.1 = (rdx rs k).1 then some ((rdx rs k).2.1, max p.2 (wct rs k)) else if p.1 = (rdx rs k).2.1 then some ((rdx rs k).1, max p.2 (wct rs k)) else none
/-- A way from a place: where it ends, and its worst. -/
def wk (rs : List Rd) (p : Int × Int) : List Int → Option (Int × Int)
  | [] => some p
  | k :: ks => match stp rs p k with
    | some q => wk rs q ks
    | none => none
theorem wk_append (rs : List Rd) : ∀ (xs ys : List Int) (p : Int × Int), wk rs p (xs ++ ys) = match wk rs p xs with | some q => wk rs q ys | none => none
  | [], ys, p => rfl
  | x :: xs, ys, p => by
    rw [List.cons_append, wk, wk]
    cases stp rs p x with
    | none => rfl
    | some q => exact wk_append rs xs ys q
theorem wk_snoc {rs : List Rd} {ks : List Int} {i : Nat} {k : Int} {p q : Int × Int} (hz : ks[i]? = some k) (h : wk rs p (ks.take i) = some q) : wk rs p (ks.take (i + 1)) = stp rs q k := by
  rw [List.take_add_one, hz, wk_append, h]
  show wk rs q [k] = _
  rw [wk]
  cases stp rs q k <;> rfl
theorem wk_none {rs : List Rd} {ks : List Int} {i : Nat} {p : Int × Int} (h : wk rs p (ks.take i) = none) : wk rs p ks = none := by
  have := wk_append rs (ks.take i) (ks.drop i) p
  rw [List.take_append_drop, h] at this
  exact this
theorem stp_cn {rs : List Rd} {p q : Int × Int} {k : Int} (h : stp rs p k = some q) : q.2 = max p.2 (wct rs k) ∧ (((rdx rs k).1 = p.1 ∧ (rdx rs k).2.1 = q.1) ∨ ((rdx rs k).1 = q.1 ∧ (rdx rs k).2.1 = p.1)) := by
  unfold stp at h
  split at h
  · rename_i e
    cases h
    exact ⟨rfl, .inl ⟨e.symm, rfl⟩⟩
  · split at h
    · rename_i e
      cases h
      exact ⟨rfl, .inr ⟨rfl, e.symm⟩⟩
    · cases h
theorem wk_cn {rs : List Rd} : ∀ {ks : List Int} {p q : Int × Int}, Nos rs ks → wk rs p ks = some q → p.2 ≤ q.2 ∧ cnT rs (nums rs) q.2 p.1 q.1
  | [], p, q, _, h => by
    cases h
    exact ⟨Int.le_refl _, .refl _⟩
  | k :: ks, p, q, hk, h => by
    rw [wk] at h
    cases hs : stp rs p k with
    | none => rw [hs] at h; cases h
    | some r =>
      rw [hs] at h
      obtain ⟨h1, h2⟩ := wk_cn (fun x hx => hk x (by simp [hx])) h
      obtain ⟨g1, g2⟩ := stp_cn hs
      have hkk := hk k (by simp)
      refine ⟨by omega, ?_⟩
      have hmem : rdx rs k ∈ (upTo (wct rs) (nums rs) q.2).map (rdx rs) := List.mem_map_of_mem (mem_upTo.2 ⟨mem_plc.2 (by omega), by omega⟩)
      have hone : Cn ((upTo (wct rs) (nums rs) q.2).map (rdx rs)) p.1 r.1 := by
        rcases g2 with ⟨e1, e2⟩ | ⟨e1, e2⟩
        · rw [← e1, ← e2]; exact Cn.one hmem
        · rw [← e1, ← e2]; exact (Cn.one hmem).symm
      exact hone.trans h2
section
variable {Q : Int} {rs : List Rd} {ks : List Int} {u v : AV} {A : AHeap} {a b : Int}
/-- The error of a way, and its worst. -/
def yE (Q : Int) (rs : List Rd) (a b : Int) (ks : List Int) : Int :=
  if pE Q rs a b = 0 then (if notOf rs.length ks = true then 4 else match wk rs (a, 0) ks with | some p => (if p.1 = b then 0 else 7) | none => 7) else pE Q rs a b
def yC (Q : Int) (rs : List Rd) (a b : Int) (ks : List Int) : Int := if yE Q rs a b ks = 0 then ((wk rs (a, 0) ks).getD (0, 0)).2 else 0
theorem yE_p (h : ¬ pE Q rs a b = 0) : yE Q rs a b ks = pE Q rs a b := by unfold yE; rw [if_neg h]
theorem yE_4 (h : pE Q rs a b = 0) (h2 : notOf rs.length ks = true) : yE Q rs a b ks = 4 := by unfold yE; rw [if_pos h, if_pos h2]
theorem yE_n (h : pE Q rs a b = 0) (h2 : ¬ notOf rs.length ks = true) (h3 : wk rs (a, 0) ks = none) : yE Q rs a b ks = 7 := by unfold yE; rw [if_pos h, if_neg h2, h3]
theorem yE_s (h : pE Q rs a b = 0) (h2 : ¬ notOf rs.length ks = true) {p : Int × Int} (h3 : wk rs (a, 0) ks = some p) : yE Q rs a b ks = if p.1 = b then 0 else 7 := by unfold yE; rw [if_pos h, if_neg h2, h3]
theorem yC_0 (h : ¬ yE Q rs a b ks = 0) : yC Q rs a b ks = 0 := by unfold yC; rw [if_neg h]
theorem yC_s (h : yE Q rs a b ks = 0) {p : Int × Int} (h3 : wk rs (a, 0) ks = some p) : yC Q rs a b ks = p.2 := by unfold yC; rw [if_pos h, h3]; rfl
theorem notOf_nos (h : ¬ notOf rs.length ks = true) : Nos rs ks := by
  intro k hk
  refine Classical.byContradiction (fun hn => h ?_)
  unfold notOf
  rw [List.any_eq_true]
  refine ⟨k, hk, ?_⟩
  rw [decide_eq_false (by omega)]
  rfl
theorem rs_some {k : Int} (h : ¬ notOf rs.length ks = true) {i : Nat} (hz : ks[i]? = some k) : rs[k.toNat]? = some (rdx rs k) ∧ (0 ≤ k ∧ k < (rs.length : Int)) := by
  have := notOf_nos h k (List.mem_of_getElem? hz)
  exact ⟨(rdx_at this.1 this.2).1, by omega⟩
set_option maxHeartbeats 8000000 in
theorem s30 (hu : L3 A u rs) (hP : W Q) (hx : L1 A v ks) (hl : ks.length ≤ 1000000) (a b : Int) : ACalls Try.prog 30 [.agg [I Q, u], I a, I b, v] A (.tuple [I (yC Q rs a b ks), I (yE Q rs a b ks)]) A := by
  refine acalls hmix Try.func30 (by kernel_rfl) t30 4 rfl (by decide) ?_
  dsimp only [m30]
  simp (maxSteps := 4000000) -implicitDefEqProofs -dsimp (disch := omega) only [↓AW_ops, ↓AW_seq, ↓AOps_nil, ↓AOps_pu, ↓AOps_call, on_some, ↓then_normal, pval, rd_S, rd_C, put_S, chkd, bgot, AV.cells?, partA, eq_self, List.replicate_succ, List.replicate_zero, List.set_cons_zero, List.set_cons_succ, List.getElem?_cons_zero, List.getElem?_cons_succ, List.drop_zero, List.take_succ_cons, List.take_nil, Option.getD_some, map_c, map_n, List.length_cons, List.length_nil, Nat.reduceAdd, Nat.reduceSub, Nat.reduceLeDiff, Nat.reduceEqDiff, Nat.zero_add, List.cons_append, List.nil_append, if_true, if_false]
  refine CallK.of (s72 hu hP a b) ?_
  by_cases h0 : pE Q rs a b = 0
  case neg =>
    have e1 := yE_p (ks := ks) h0
    rw [yC_0 (by rw [e1]; exact h0), e1]
    simp (maxSteps := 4000000) -implicitDefEqProofs -dsimp (disch := omega) only [↓AW_ops, ↓AW_seq, ↓AW_cond, ↓AW_ret, ↓AOps_nil, ↓AOps_pu, on_some, extK_same, condB_t, ↓then_normal, ↓then_ret, ↓Fin_ret, pval, rd_S, rd_C, put_S, resV, resL, List.replicate_succ, List.replicate_zero, List.set_cons_zero, List.set_cons_succ, List.getElem?_cons_zero, List.getElem?_cons_succ, Option.getD_some, Nat.reduceSub, List.cons_append, List.nil_append, bin_neq, decide_true, not_false_eq_true, h0]
    exact gc_same rfl
  have hn := (pE_0.1 h0).1
  simp (maxSteps := 4000000) -implicitDefEqProofs -dsimp (disch := omega) only [↓AW_skip, ↓AW_ops, ↓AW_seq, ↓AW_cond, ↓AOps_nil, ↓AOps_pu, ↓AOps_call, on_some, extK_same, condB_f, ↓then_normal, pval, rd_S, rd_C, put_S, chkd, isAdr, bgot, AV.cells?, partA, eq_self, List.replicate_succ, List.replicate_zero, List.set_cons_zero, List.set_cons_succ, List.getElem?_cons_zero, List.getElem?_cons_succ, List.drop_zero, List.drop_succ_cons, List.take_succ_cons, List.take_nil, Option.getD_some, map_c, map_n, List.length_cons, List.length_nil, Nat.reduceAdd, Nat.reduceSub, Nat.reduceLeDiff, Nat.zero_add, List.cons_append, List.nil_append, bin_neq, if_true, if_false, Bool.false_eq_true, decide_false, not_true_eq_false, h0, hu.len]
  refine CallK.of (s58 hx hl hn.lenb) ?_
  by_cases h1 : notOf rs.length ks = true
  · have e1 := yE_4 (a := a) (b := b) h0 h1
    rw [if_pos h1, yC_0 (by rw [e1]; decide), e1]
    simp (maxSteps := 4000000) -implicitDefEqProofs -dsimp (disch := omega) only [↓AW_ops, ↓AW_seq, ↓AW_cond, ↓AW_ret, ↓AOps_nil, ↓AOps_pu, on_some, extK_same, condB_t, ↓then_normal, ↓then_ret, ↓Fin_ret, pval, rd_S, rd_C, put_S, resV, resL, List.replicate_succ, List.replicate_zero, List.set_cons_zero, List.set_cons_succ, List.getElem?_cons_zero, List.getElem?_cons_succ, Option.getD_some, Nat.reduceSub, List.cons_append, List.nil_append, bin_neq, decide_true, not_false_eq_true, Int.reduceEq]
    exact gc_same rfl
  rw [if_neg h1]
  simp (maxSteps := 4000000) -implicitDefEqProofs -dsimp (disch := omega) only [↓AW_skip, ↓AW_ops, ↓AW_seq, ↓AW_cond, ↓AW_block, ↓AOps_nil, ↓AOps_pu, on_some, extK_same, condB_f, ↓then_normal, pval, rd_S, rd_C, put_S, ↓AW_toLoop, eq_self, List.replicate_succ, List.replicate_zero, List.set_cons_zero, List.set_cons_succ, List.getElem?_cons_zero, List.getElem?_cons_succ, Option.getD_some, Nat.reduceSub, List.cons_append, List.nil_append, bin_neq, decide_false, not_true_eq_false, hx.len]
  refine LoopK.by 64 (fun x : Nat × Int × Int => x.1 ≤ ks.length ∧ wk rs (a, 0) (ks.take x.1) = some x.2) (fun x => [(1, I x.2.1), (2, I b), (4, .agg [I Q, u]), (12, I x.2.2), (31, v), (32, I ks.length), (33, I x.1)]) (fun _ => A) (fun x => ks.length - x.1) (0, a, 0) ⟨by simp only; omega, rfl⟩ rfl (by simp [Has, rd_s]) rfl ?_
  rintro ⟨i, at', w⟩ ⟨hi, hw⟩
  simp only at hi hw
  by_cases hlt : i < ks.length
  · obtain ⟨k, hz⟩ : ∃ z, ks[i]? = some z := ⟨_, List.getElem?_eq_getElem hlt⟩
    have hlt' : (i : Int) < ks.length := by omega
    obtain ⟨hr, k0, k1⟩ := rs_some h1 hz
    have hri := hu.idxI (k := .i64) k0 k1
    have hsn := wk_snoc hz hw
    have hwe : (rdx rs k).2.2 = wct rs k := rfl
    by_cases ha : at' = (rdx rs k).1
    · have hst : stp rs (at', w) k = some ((rdx rs k).2.1, max w (wct rs k)) := by unfold stp; rw [if_pos ha]
      rw [hst] at hsn
      subst ha
      simp (maxSteps := 4000000) -implicitDefEqProofs -dsimp (disch := omega) only [↓AW_skip, ↓AW_ops, ↓AW_seq, ↓AW_cond, ↓AW_block, ↓AOps_nil, ↓AOps_pu, ↓AOps_ld, on_some, condB_t, ↓then_normal, ↓inBlock_normal, pval, lval, rd_S, rd_C, put_S, chkd, isAdr, bput, bgot, AV.cells?, splice, partA, eq_self, mk, List.foldl_cons, List.foldl_nil, List.replicate_succ, List.replicate_zero, List.set_cons_zero, List.set_cons_succ, List.getElem?_cons_zero, List.getElem?_cons_succ, List.drop_zero, List.drop_succ_cons, List.drop_nil, List.take_zero, List.take_succ_cons, List.take_nil, Option.getD_some, map_c, map_n, List.length_cons, List.length_nil, Nat.reduceAdd, Nat.reduceLeDiff, Nat.reduceEqDiff, Nat.zero_add, List.nil_append, List.append_nil, bin_add, bin_eql, bin_lss, mm_max, w64, if_true, if_false, Bool.false_eq_true, decide_true, Go.Eng.e1, true_and, ne_eq, not_true_eq_false, hlt', hx.idx hlt, hx.ld0 hz 1 false (by decide), hri, hu.ld0 hr 3 true (by decide), e3, hwe]
      exact ⟨(i + 1, _), ⟨hlt, hsn⟩, by simp [Has, rd_s], by simp only; omega⟩
    · by_cases hb : at' = (rdx rs k).2.1
      · have hst : stp rs (at', w) k = some ((rdx rs k).1, max w (wct rs k)) := by unfold stp; rw [if_neg ha, if_pos hb]
        rw [hst] at hsn
        subst hb
        simp (maxSteps := 4000000) -implicitDefEqProofs -dsimp (disch := omega) only [↓AW_skip, ↓AW_ops, ↓AW_seq, ↓AW_cond, ↓AW_block, ↓AOps_nil, ↓AOps_pu, ↓AOps_ld, on_some, condB_t, condB_f, ↓then_normal, ↓inBlock_normal, pval, lval, rd_S, rd_C, put_S, chkd, isAdr, bput, bgot, AV.cells?, splice, partA, eq_self, mk, List.foldl_cons, List.foldl_nil, List.replicate_succ, List.replicate_zero, List.set_cons_zero, List.set_cons_succ, List.getElem?_cons_zero, List.getElem?_cons_succ, List.drop_zero, List.drop_succ_cons, List.drop_nil, List.take_zero, List.take_succ_cons, List.take_nil, Option.getD_some, map_c, map_n, List.length_cons, List.length_nil, Nat.reduceAdd, Nat.reduceLeDiff, Nat.reduceEqDiff, Nat.zero_add, List.nil_append, List.append_nil, bin_add, bin_eql, bin_lss, mm_max, w64, if_true, if_false, Bool.false_eq_true, decide_true, decide_false, Go.Eng.e1, true_and, ne_eq, not_true_eq_false, hlt', hx.idx hlt, hx.ld0 hz 1 false (by decide), hri, hu.ld0 hr 3 true (by decide), e3, hwe, ha]
        exact ⟨(i + 1, _), ⟨hlt, hsn⟩, by simp [Has, rd_s], by simp only; omega⟩
      · have hst : stp rs (at', w) k = none := by unfold stp; rw [if_neg ha, if_neg hb]
        rw [hst] at hsn
        have e1 := yE_n (b := b) h0 h1 (wk_none hsn)
        rw [yC_0 (by rw [e1]; decide), e1]
        simp (maxSteps := 4000000) -implicitDefEqProofs -dsimp (disch := omega) only [↓AW_skip, ↓AW_ops, ↓AW_seq, ↓AW_cond, ↓AW_block, ↓AW_ret, ↓AOps_nil, ↓AOps_pu, ↓AOps_ld, on_some, condB_t, condB_f, ↓then_normal, ↓then_ret, ↓inBlock_ret, ↓Fin_ret, pval, lval, rd_S, rd_C, put_S, resV, resL, chkd, isAdr, bput, bgot, AV.cells?, splice, partA, eq_self, mk, List.foldl_cons, List.foldl_nil, List.replicate_succ, List.replicate_zero, List.set_cons_zero, List.set_cons_succ, List.getElem?_cons_zero, List.getElem?_cons_succ, List.drop_zero, List.drop_succ_cons, List.drop_nil, List.take_zero, List.take_succ_cons, List.take_nil, Option.getD_some, List.length_cons, List.length_nil, Nat.reduceAdd, Nat.reduceLeDiff, Nat.reduceEqDiff, Nat.zero_add, List.nil_append, List.append_nil, bin_eql, bin_lss, if_true, if_false, Bool.false_eq_true, decide_true, decide_false, Go.Eng.e1, ne_eq, not_true_eq_false, hlt', hx.idx hlt, hx.ld0 hz 1 false (by decide), hri, hu.ld0 hr 3 true (by decide), e3, hwe, ha, hb]
        exact gc_same rfl
  · have hlt' : ¬ ((i : Int) < ks.length) := by omega
    rw [List.take_of_length_le (by omega)] at hw
    have e1 := yE_s h0 h1 hw
    by_cases hb : at' = b
    · rw [if_pos hb] at e1
      rw [yC_s e1 hw, e1]
      subst hb
      simp (maxSteps := 4000000) -implicitDefEqProofs -dsimp (disch := omega) only [↓AW_skip, ↓AW_ops, ↓AW_seq, ↓AW_cond, ↓AW_exit, ↓AW_ret, ↓AOps_nil, ↓AOps_pu, on_some, condB_f, ↓then_normal, ↓then_exit, ↓inBlock_exit, ↓Fin_ret, pval, rd_S, rd_C, put_S, resV, resL, eq_self, mk, List.foldl_cons, List.foldl_nil, List.replicate_succ, List.replicate_zero, List.set_cons_zero, List.set_cons_succ, List.getElem?_cons_zero, List.getElem?_cons_succ, Option.getD_some, bin_neq, bin_lss, if_true, decide_false, not_true_eq_false, hlt']
      exact gc_same rfl
    · rw [if_neg hb] at e1
      rw [yC_0 (by rw [e1]; decide), e1]
      simp (maxSteps := 4000000) -implicitDefEqProofs -dsimp (disch := omega) only [↓AW_ops, ↓AW_seq, ↓AW_cond, ↓AW_exit, ↓AW_ret, ↓AOps_nil, ↓AOps_pu, on_some, condB_t, condB_f, ↓then_normal, ↓then_exit, ↓then_ret, ↓inBlock_exit, ↓Fin_ret, pval, rd_S, rd_C, put_S, resV, resL, eq_self, mk, List.foldl_cons, List.foldl_nil, List.replicate_succ, List.replicate_zero, List.set_cons_zero, List.set_cons_succ, List.getElem?_cons_zero, List.getElem?_cons_succ, Option.getD_some, bin_neq, bin_lss, if_true, decide_true, decide_false, not_false_eq_true, hlt', hb]
      exact gc_same rfl
/-- The error of a net and numbers of roads. -/
def nE (Q : Int) (rs : List Rd) (ks : List Int) : Int := if vE Q rs = 0 then (if notOf rs.length ks = true then 4 else 0) else vE Q rs
theorem s64 (hu : L3 A u rs) (hP : W Q) (hx : L1 A v ks) (hl : ks.length ≤ 1000000) : ACalls Try.prog 64 [.agg [I Q, u], v] A (I (nE Q rs ks)) A := by
  refine acalls hmix Try.func64 (by kernel_rfl) t64 2 rfl (by decide) ?_
  dsimp only [m64]
  simp (maxSteps := 4000000) -implicitDefEqProofs -dsimp (disch := omega) only [↓AW_ops, ↓AW_seq, ↓AOps_nil, ↓AOps_pu, ↓AOps_call, on_some, ↓then_normal, pval, rd_S, rd_C, put_S, chkd, bgot, AV.cells?, partA, eq_self, List.replicate_succ, List.replicate_zero, List.set_cons_zero, List.set_cons_succ, List.getElem?_cons_zero, List.getElem?_cons_succ, List.drop_zero, List.take_succ_cons, List.take_nil, Option.getD_some, map_c, map_n, List.length_cons, List.length_nil, Nat.reduceAdd, Nat.reduceSub, Nat.reduceLeDiff, Nat.reduceEqDiff, Nat.zero_add, List.cons_append, List.nil_append, if_true, if_false]
  refine CallK.of (s22 hu hP) ?_
  by_cases h0 : vE Q rs = 0
  case neg =>
    have : nE Q rs ks = vE Q rs := if_neg h0
    rw [this]
    simp (maxSteps := 4000000) -implicitDefEqProofs -dsimp (disch := omega) only [↓AW_ops, ↓AW_seq, ↓AW_cond, ↓AW_ret, ↓AOps_nil, ↓AOps_pu, on_some, extK_same, condB_t, ↓then_normal, ↓then_ret, ↓Fin_ret, pval, rd_S, rd_C, put_S, resV, resL, List.replicate_succ, List.replicate_zero, List.set_cons_zero, List.set_cons_succ, List.getElem?_cons_zero, List.getElem?_cons_succ, Option.getD_some, Nat.reduceSub, List.cons_append, List.nil_append, bin_neq, decide_true, not_false_eq_true, h0]
    exact gc_same rfl
  have hE : nE Q rs ks = if notOf rs.length ks = true then 4 else 0 := if_pos h0
  rw [hE]
  have hn := vE_0.1 h0
  have hl14 := hn.l
  simp (maxSteps := 4000000) -implicitDefEqProofs -dsimp (disch := omega) only [↓AW_skip, ↓AW_ops, ↓AW_seq, ↓AW_cond, ↓AW_block, ↓AOps_nil, ↓AOps_pu, on_some, extK_same, condB_f, ↓then_normal, pval, rd_S, rd_C, put_S, ↓AW_toLoop, eq_self, List.replicate_succ, List.replicate_zero, List.set_cons_zero, List.set_cons_succ, List.getElem?_cons_zero, List.getElem?_cons_succ, Option.getD_some, Nat.reduceSub, List.cons_append, List.nil_append, bin_neq, decide_false, not_true_eq_false, h0]
  refine LoopK.by 28 (fun i : Nat => i ≤ ks.length ∧ ∀ k ∈ ks.take i, 0 ≤ k ∧ k ≤ (rs.length : Int) - 1) (fun i => [(1, v), (2, .agg [I Q, u]), (6, I i)]) (fun _ => A) (fun i => ks.length - i) 0 ⟨by omega, by simp⟩ rfl (by simp [Has, rd_s]) rfl ?_
  rintro i ⟨hi, he⟩
  by_cases hlt : i < ks.length
  · obtain ⟨z, hz⟩ : ∃ z, ks[i]? = some z := ⟨_, List.getElem?_eq_getElem hlt⟩
    have hlt' : (i : Int) < ks.length := by omega
    simp (maxSteps := 4000000) -implicitDefEqProofs -dsimp (disch := omega) only [↓AW_skip, ↓AW_ops, ↓AW_seq, ↓AW_cond, ↓AW_block, ↓AOps_nil, ↓AOps_pu, ↓AOps_ld, ↓AOps_call, on_some, condB_t, ↓then_normal, pval, lval, rd_S, rd_C, put_S, chkd, isAdr, bgot, AV.cells?, partA, eq_self, mk, List.foldl_cons, List.foldl_nil, List.replicate_succ, List.replicate_zero, List.set_cons_zero, List.set_cons_succ, List.getElem?_cons_zero, List.getElem?_cons_succ, List.drop_zero, List.drop_succ_cons, List.take_succ_cons, List.take_nil, Option.getD_some, map_c, map_n, List.length_cons, List.length_nil, Nat.reduceAdd, Nat.reduceLeDiff, Nat.zero_add, bin_sub, bin_lss, w64, if_true, if_false, Bool.false_eq_true, decide_true, Go.Eng.e1, hlt', hx.len, hx.idx hlt, hx.ld0 hz 1 false (by decide), hu.len]
    refine CallK.of (c_wi _ _ _ _) ?_
    by_cases g : 0 ≤ z ∧ z ≤ (rs.length : Int) - 1
    · simp (maxSteps := 4000000) -implicitDefEqProofs -dsimp (disch := omega) only [↓AW_skip, ↓AW_ops, ↓AW_cond, ↓AOps_nil, ↓AOps_pu, on_some, extK_same, condB_f, ↓then_normal, ↓inBlock_normal, pval, rd_S, rd_C, put_S, eq_self, mk, List.foldl_cons, List.foldl_nil, List.replicate_succ, List.replicate_zero, List.set_cons_zero, List.set_cons_succ, List.getElem?_cons_zero, List.getElem?_cons_succ, Option.getD_some, List.length_cons, List.length_nil, Nat.reduceAdd, Nat.zero_add, bin_add, w64, Bool.not_true, decide_true, true_and, and_true, g]
      exact ⟨i + 1, ⟨hlt, all_take he hz g⟩, by simp [Has, rd_s], by omega⟩
    · have hno : notOf rs.length ks = true := by
        unfold notOf
        rw [List.any_eq_true]
        exact ⟨z, List.mem_of_getElem? hz, by rw [decide_eq_false g]; rfl⟩
      rw [if_pos hno]
      simp (maxSteps := 4000000) -implicitDefEqProofs -dsimp (disch := omega) only [↓AW_ops, ↓AW_seq, ↓AW_cond, ↓AW_ret, ↓AOps_nil, ↓AOps_pu, on_some, extK_same, condB_t, ↓then_normal, ↓then_ret, ↓inBlock_ret, ↓Fin_ret, pval, rd_S, rd_C, put_S, resV, resL, mk, List.foldl_cons, List.foldl_nil, List.replicate_succ, List.replicate_zero, List.set_cons_zero, List.set_cons_succ, List.getElem?_cons_zero, List.getElem?_cons_succ, Option.getD_some, Bool.not_false, decide_false, g]
      exact gc_same rfl
  · have hlt' : ¬ ((i : Int) < ks.length) := by omega
    rw [List.take_of_length_le (by omega)] at he
    have hno : ¬ notOf rs.length ks = true := fun h => by
      unfold notOf at h
      rw [List.any_eq_true] at h
      obtain ⟨k, hk, hh⟩ := h
      rw [decide_eq_true (he k hk)] at hh
      cases hh
    rw [if_neg hno]
    simp (maxSteps := 4000000) -implicitDefEqProofs -dsimp (disch := omega) only [↓AW_ops, ↓AW_seq, ↓AW_cond, ↓AW_exit, ↓AW_ret, ↓AOps_nil, ↓AOps_pu, on_some, condB_f, ↓then_normal, ↓then_exit, ↓inBlock_exit, ↓Fin_ret, pval, rd_S, rd_C, put_S, resV, resL, eq_self, mk, List.foldl_cons, List.foldl_nil, List.replicate_succ, List.replicate_zero, List.set_cons_zero, List.set_cons_succ, List.getElem?_cons_zero, List.getElem?_cons_succ, Option.getD_some, bin_lss, if_true, decide_false, hlt', hx.len]
    exact gc_same rfl
set_option maxHeartbeats 8000000 in
theorem s31 (hu : L3 A u rs) (hP : W Q) (hx : L1 A v ks) (hl : ks.length ≤ 1000000) (a b : Int) : ACalls Try.prog 31 [.agg [I Q, u], I a, I b, v] A (.tuple [I (yC Q rs a b ks), I (yE Q rs a b ks)]) A := by
  refine acalls hmix Try.func31 (by kernel_rfl) t31 4 rfl (by decide) ?_
  dsimp only [m31]
  simp (maxSteps := 4000000) -implicitDefEqProofs -dsimp (disch := omega) only [↓AW_ops, ↓AW_seq, ↓AOps_nil, ↓AOps_pu, ↓AOps_call, on_some, ↓then_normal, pval, rd_S, rd_C, put_S, chkd, bgot, AV.cells?, partA, eq_self, List.replicate_succ, List.replicate_zero, List.set_cons_zero, List.set_cons_succ, List.getElem?_cons_zero, List.getElem?_cons_succ, List.drop_zero, List.take_succ_cons, List.take_nil, Option.getD_some, map_c, map_n, List.length_cons, List.length_nil, Nat.reduceAdd, Nat.reduceSub, Nat.reduceLeDiff, Nat.reduceEqDiff, Nat.zero_add, List.cons_append, List.nil_append, if_true, if_false]
  refine CallK.of (s77 hu hP a b) ?_
  by_cases h0 : pE Q rs a b = 0
  case neg =>
    have e1 := yE_p (ks := ks) h0
    rw [yC_0 (by rw [e1]; exact h0), e1]
    simp (maxSteps := 4000000) -implicitDefEqProofs -dsimp (disch := omega) only [↓AW_ops, ↓AW_seq, ↓AW_cond, ↓AW_ret, ↓AOps_nil, ↓AOps_pu, on_some, extK_same, condB_t, ↓then_normal, ↓then_ret, ↓Fin_ret, pval, rd_S, rd_C, put_S, resV, resL, List.replicate_succ, List.replicate_zero, List.set_cons_zero, List.set_cons_succ, List.getElem?_cons_zero, List.getElem?_cons_succ, Option.getD_some, Nat.reduceSub, List.cons_append, List.nil_append, bin_neq, decide_true, not_false_eq_true, h0]
    exact gc_same rfl
  have hn := (pE_0.1 h0).1
  simp (maxSteps := 4000000) -implicitDefEqProofs -dsimp (disch := omega) only [↓AW_skip, ↓AW_ops, ↓AW_seq, ↓AW_cond, ↓AOps_nil, ↓AOps_pu, ↓AOps_call, on_some, extK_same, condB_f, ↓then_normal, pval, rd_S, rd_C, put_S, chkd, bgot, partA, eq_self, List.replicate_succ, List.replicate_zero, List.set_cons_zero, List.set_cons_succ, List.getElem?_cons_zero, List.getElem?_cons_succ, List.drop_zero, List.take_succ_cons, List.take_nil, Option.getD_some, map_c, map_n, List.length_cons, List.length_nil, Nat.reduceAdd, Nat.reduceSub, Nat.reduceLeDiff, Nat.reduceEqDiff, Nat.zero_add, List.cons_append, List.nil_append, bin_neq, if_true, if_false, decide_false, not_true_eq_false, h0]
  refine CallK.of (s64 hu hP hx hl) ?_
  have hnE : nE Q rs ks = if notOf rs.length ks = true then 4 else 0 := if_pos (vE_0.2 hn)
  rw [hnE]
  by_cases h1 : notOf rs.length ks = true
  · have e1 := yE_4 (a := a) (b := b) h0 h1
    rw [if_pos h1, yC_0 (by rw [e1]; decide), e1]
    simp (maxSteps := 4000000) -implicitDefEqProofs -dsimp (disch := omega) only [↓AW_ops, ↓AW_seq, ↓AW_cond, ↓AW_ret, ↓AOps_nil, ↓AOps_pu, on_some, extK_same, condB_t, ↓then_normal, ↓then_ret, ↓Fin_ret, pval, rd_S, rd_C, put_S, resV, resL, List.replicate_succ, List.replicate_zero, List.set_cons_zero, List.set_cons_succ, List.getElem?_cons_zero, List.getElem?_cons_succ, Option.getD_some, Nat.reduceSub, List.cons_append, List.nil_append, bin_neq, decide_true, not_false_eq_true, Int.reduceEq]
    exact gc_same rfl
  rw [if_neg h1]
  simp (maxSteps := 4000000) -implicitDefEqProofs -dsimp (disch := omega) only [↓AW_skip, ↓AW_ops, ↓AW_seq, ↓AW_cond, ↓AW_block, ↓AOps_nil, ↓AOps_pu, on_some, extK_same, condB_f, ↓then_normal, pval, rd_S, rd_C, put_S, ↓AW_toLoop, eq_self, List.replicate_succ, List.replicate_zero, List.set_cons_zero, List.set_cons_succ, List.getElem?_cons_zero, List.getElem?_cons_succ, Option.getD_some, Nat.reduceSub, List.cons_append, List.nil_append, bin_neq, decide_false, not_true_eq_false]
  refine LoopK.by 64 (fun x : Nat × Int × Int => x.1 ≤ ks.length ∧ wk rs (a, 0) (ks.take x.1) = some x.2) (fun x => [(2, I b), (3, v), (4, .agg [I Q, u]), (11, I x.2.1), (12, I x.2.2), (13, I x.1)]) (fun _ => A) (fun x => ks.length - x.1) (0, a, 0) ⟨by simp only; omega, rfl⟩ rfl (by simp [Has, rd_s]) rfl ?_
  rintro ⟨i, at', w⟩ ⟨hi, hw⟩
  simp only at hi hw
  by_cases hlt : i < ks.length
  · obtain ⟨k, hz⟩ : ∃ z, ks[i]? = some z := ⟨_, List.getElem?_eq_getElem hlt⟩
    have hlt' : (i : Int) < ks.length := by omega
    obtain ⟨hr, k0, k1⟩ := rs_some h1 hz
    have hri := hu.idxI (k := .i64) k0 k1
    have hsn := wk_snoc hz hw
    have hwe : (rdx rs k).2.2 = wct rs k := rfl
    by_cases ha : at' = (rdx rs k).1
    · have hst : stp rs (at', w) k = some ((rdx rs k).2.1, max w (wct rs k)) := by unfold stp; rw [if_pos ha]
      rw [hst] at hsn
      subst ha
      simp (maxSteps := 4000000) -implicitDefEqProofs -dsimp (disch := omega) only [↓AW_skip, ↓AW_ops, ↓AW_seq, ↓AW_cond, ↓AW_block, ↓AOps_nil, ↓AOps_pu, ↓AOps_ld, on_some, condB_t, ↓then_normal, ↓inBlock_normal, pval, lval, rd_S, rd_C, put_S, chkd, isAdr, bput, bgot, AV.cells?, splice, partA, eq_self, mk, List.foldl_cons, List.foldl_nil, List.replicate_succ, List.replicate_zero, List.set_cons_zero, List.set_cons_succ, List.getElem?_cons_zero, List.getElem?_cons_succ, List.drop_zero, List.drop_succ_cons, List.drop_nil, List.take_zero, List.take_succ_cons, List.take_nil, Option.getD_some, map_c, map_n, List.length_cons, List.length_nil, Nat.reduceAdd, Nat.reduceLeDiff, Nat.reduceEqDiff, Nat.zero_add, List.nil_append, List.append_nil, bin_add, bin_eql, bin_lss, mm_max, w64, if_true, if_false, Bool.false_eq_true, decide_true, Go.Eng.e1, true_and, ne_eq, not_true_eq_false, hlt', hx.len, hx.idx hlt, hx.ld0 hz 1 false (by decide), hri, hu.ld0 hr 3 true (by decide), e3, hwe]
      exact ⟨(i + 1, _), ⟨hlt, hsn⟩, by simp [Has, rd_s], by simp only; omega⟩
    · by_cases hb : at' = (rdx rs k).2.1
      · have hst : stp rs (at', w) k = some ((rdx rs k).1, max w (wct rs k)) := by unfold stp; rw [if_neg ha, if_pos hb]
        rw [hst] at hsn
        subst hb
        simp (maxSteps := 4000000) -implicitDefEqProofs -dsimp (disch := omega) only [↓AW_skip, ↓AW_ops, ↓AW_seq, ↓AW_cond, ↓AW_block, ↓AOps_nil, ↓AOps_pu, ↓AOps_ld, on_some, condB_t, condB_f, ↓then_normal, ↓inBlock_normal, pval, lval, rd_S, rd_C, put_S, chkd, isAdr, bput, bgot, AV.cells?, splice, partA, eq_self, mk, List.foldl_cons, List.foldl_nil, List.replicate_succ, List.replicate_zero, List.set_cons_zero, List.set_cons_succ, List.getElem?_cons_zero, List.getElem?_cons_succ, List.drop_zero, List.drop_succ_cons, List.drop_nil, List.take_zero, List.take_succ_cons, List.take_nil, Option.getD_some, map_c, map_n, List.length_cons, List.length_nil, Nat.reduceAdd, Nat.reduceLeDiff, Nat.reduceEqDiff, Nat.zero_add, List.nil_append, List.append_nil, bin_add, bin_eql, bin_lss, mm_max, w64, if_true, if_false, Bool.false_eq_true, decide_true, decide_false, Go.Eng.e1, true_and, ne_eq, not_true_eq_false, hlt', hx.len, hx.idx hlt, hx.ld0 hz 1 false (by decide), hri, hu.ld0 hr 3 true (by decide), e3, hwe, ha]
        exact ⟨(i + 1, _), ⟨hlt, hsn⟩, by simp [Has, rd_s], by simp only; omega⟩
      · have hst : stp rs (at', w) k = none := by unfold stp; rw [if_neg ha, if_neg hb]
        rw [hst] at hsn
        have e1 := yE_n (b := b) h0 h1 (wk_none hsn)
        rw [yC_0 (by rw [e1]; decide), e1]
        simp (maxSteps := 4000000) -implicitDefEqProofs -dsimp (disch := omega) only [↓AW_skip, ↓AW_ops, ↓AW_seq, ↓AW_cond, ↓AW_block, ↓AW_ret, ↓AOps_nil, ↓AOps_pu, ↓AOps_ld, on_some, condB_t, condB_f, ↓then_normal, ↓then_ret, ↓inBlock_ret, ↓Fin_ret, pval, lval, rd_S, rd_C, put_S, resV, resL, chkd, isAdr, bput, bgot, AV.cells?, splice, partA, eq_self, mk, List.foldl_cons, List.foldl_nil, List.replicate_succ, List.replicate_zero, List.set_cons_zero, List.set_cons_succ, List.getElem?_cons_zero, List.getElem?_cons_succ, List.drop_zero, List.drop_succ_cons, List.drop_nil, List.take_zero, List.take_succ_cons, List.take_nil, Option.getD_some, List.length_cons, List.length_nil, Nat.reduceAdd, Nat.reduceLeDiff, Nat.reduceEqDiff, Nat.zero_add, List.nil_append, List.append_nil, bin_eql, bin_lss, if_true, if_false, Bool.false_eq_true, decide_true, decide_false, Go.Eng.e1, ne_eq, not_true_eq_false, hlt', hx.len, hx.idx hlt, hx.ld0 hz 1 false (by decide), hri, hu.ld0 hr 3 true (by decide), e3, hwe, ha, hb]
        exact gc_same rfl
  · have hlt' : ¬ ((i : Int) < ks.length) := by omega
    rw [List.take_of_length_le (by omega)] at hw
    have e1 := yE_s h0 h1 hw
    by_cases hb : at' = b
    · rw [if_pos hb] at e1
      rw [yC_s e1 hw, e1]
      subst hb
      simp (maxSteps := 4000000) -implicitDefEqProofs -dsimp (disch := omega) only [↓AW_skip, ↓AW_ops, ↓AW_seq, ↓AW_cond, ↓AW_exit, ↓AW_ret, ↓AOps_nil, ↓AOps_pu, on_some, condB_f, ↓then_normal, ↓then_exit, ↓inBlock_exit, ↓Fin_ret, pval, rd_S, rd_C, put_S, resV, resL, eq_self, mk, List.foldl_cons, List.foldl_nil, List.replicate_succ, List.replicate_zero, List.set_cons_zero, List.set_cons_succ, List.getElem?_cons_zero, List.getElem?_cons_succ, Option.getD_some, bin_neq, bin_lss, if_true, decide_false, not_true_eq_false, hlt', hx.len]
      exact gc_same rfl
    · rw [if_neg hb] at e1
      rw [yC_0 (by rw [e1]; decide), e1]
      simp (maxSteps := 4000000) -implicitDefEqProofs -dsimp (disch := omega) only [↓AW_ops, ↓AW_seq, ↓AW_cond, ↓AW_exit, ↓AW_ret, ↓AOps_nil, ↓AOps_pu, on_some, condB_t, condB_f, ↓then_normal, ↓then_exit, ↓then_ret, ↓inBlock_exit, ↓Fin_ret, pval, rd_S, rd_C, put_S, resV, resL, eq_self, mk, List.foldl_cons, List.foldl_nil, List.replicate_succ, List.replicate_zero, List.set_cons_zero, List.set_cons_succ, List.getElem?_cons_zero, List.getElem?_cons_succ, Option.getD_some, bin_neq, bin_lss, if_true, decide_true, decide_false, not_false_eq_true, hlt', hx.len, hb]
      exact gc_same rfl
/-- None is better than the smallest worst. -/
theorem way_worst (h : yE Q rs a b ks = 0) : pE Q rs a b = 0 ∧ wB Q rs a b = true ∧ wC Q rs a b ≤ yC Q rs a b ks := by
  have h0 : pE Q rs a b = 0 := Classical.byContradiction (fun hn => by rw [yE_p hn] at h; exact hn h)
  have h1 : ¬ notOf rs.length ks = true := fun hn => by rw [yE_4 h0 hn] at h; cases h
  cases hw : wk rs (a, 0) ks with
  | none => rw [yE_n h0 h1 hw] at h; cases h
  | some p =>
    have e1 := yE_s h0 h1 hw
    have hb : p.1 = b := Classical.byContradiction (fun hn => by rw [if_neg hn] at e1; rw [e1] at h; cases h)
    obtain ⟨g1, g2⟩ := wk_cn (notOf_nos h1) hw
    simp only at g1 g2
    rw [hb] at g2
    obtain ⟨hn, _, _⟩ := pE_0.1 h0
    have eC := yC_s h hw
    rw [eC]
    have e2 : wC Q rs a b = (bt rs (nums rs) a b).getD 0 := if_pos h0
    have e3 : wB Q rs a b = (bt rs (nums rs) a b).isSome := by unfold wB; rw [decide_eq_true h0, Bool.true_and]
    rw [e2, e3]
    refine ⟨h0, ?_⟩
    cases hbt : bt rs (nums rs) a b with
    | none =>
      have := (bt_none' (fun k hk => (hn.wb (mem_plc.1 hk).1 (by have := (mem_plc.1 hk).2; omega)).2) hbt).2 p.2
      exact absurd g2 this
    | some c =>
      refine ⟨rfl, ?_⟩
      show c ≤ p.2
      rcases bt_spec hbt with ⟨_, hc⟩ | ⟨_, _, _, hmin⟩
      · omega
      · exact hmin _ g2 g1
set_option maxRecDepth 20000 in
set_option maxHeartbeats 8000000 in
theorem s7 (hu : L3 A u rs) (hP : W Q) (a b : Int) (hx : L1 A v ks) : ACalls Try.prog 7 [.agg [I Q, u], .agg [I a, I b], v] A (B true) A := by
  refine acalls hmix Try.func7 (by kernel_rfl) t7 3 rfl (by decide) ?_
  dsimp only [m7]
  simp (maxSteps := 4000000) -implicitDefEqProofs -dsimp (disch := omega) only [↓AW_ops, ↓AW_seq, ↓AOps_nil, ↓AOps_pu, ↓AOps_call, on_some, ↓then_normal, pval, rd_S, rd_C, put_S, chkd, bgot, AV.cells?, partA, eq_self, List.replicate_succ, List.replicate_zero, List.set_cons_zero, List.set_cons_succ, List.getElem?_cons_zero, List.getElem?_cons_succ, List.drop_zero, List.take_succ_cons, List.take_nil, Option.getD_some, map_c, map_n, List.length_cons, List.length_nil, Nat.reduceAdd, Nat.reduceSub, Nat.reduceLeDiff, Nat.reduceEqDiff, Nat.zero_add, List.cons_append, List.nil_append, if_true, if_false]
  refine CallK.of (s17 hu Q) ?_
  by_cases h1 : (100 : Int) < rs.length
  · simp (maxSteps := 4000000) -implicitDefEqProofs -dsimp (disch := omega) only [↓AW_ops, ↓AW_seq, ↓AW_cond, ↓AOps_nil, ↓AOps_pu, ↓AOps_call, ↓AOps_guard, on_some, extK_same, guardB_tf, skipS_some, condB_t, ↓then_normal, pval, rd_S, rd_C, put_S, eq_self, List.replicate_succ, List.replicate_zero, List.set_cons_zero, List.set_cons_succ, List.getElem?_cons_zero, List.getElem?_cons_succ, Option.getD_some, map_n, Nat.reduceSub, List.cons_append, List.nil_append, if_true, decide_true, h1]
    refine CallK.of (known A) ?_
    simp (maxSteps := 4000000) -implicitDefEqProofs -dsimp (disch := omega) only [↓AW_ret, ↓AOps_nil, ↓AOps_pu, on_some, extK_same, skipS_some, ↓then_normal, ↓then_ret, ↓Fin_ret, pval, rd_S, put_S, resV, resL, List.replicate_succ, List.replicate_zero, List.set_cons_zero, List.set_cons_succ, List.getElem?_cons_zero, List.getElem?_cons_succ, Option.getD_some, Nat.reduceSub, List.cons_append, List.nil_append]
    exact gc_same rfl
  by_cases h2 : (200 : Int) < ks.length
  · simp (maxSteps := 4000000) -implicitDefEqProofs -dsimp (disch := omega) only [↓AW_ops, ↓AW_seq, ↓AW_cond, ↓AOps_nil, ↓AOps_pu, ↓AOps_call, ↓AOps_guard, on_some, extK_same, guardB_ff, condB_t, ↓then_normal, pval, rd_S, rd_C, put_S, List.replicate_succ, List.replicate_zero, List.set_cons_zero, List.set_cons_succ, List.getElem?_cons_zero, List.getElem?_cons_succ, Option.getD_some, map_n, Nat.reduceSub, List.cons_append, List.nil_append, bin_gtr, if_false, Bool.false_eq_true, decide_true, decide_false, h1, hx.len, h2]
    refine CallK.of (known A) ?_
    simp (maxSteps := 4000000) -implicitDefEqProofs -dsimp (disch := omega) only [↓AW_ret, ↓AOps_nil, ↓AOps_pu, on_some, extK_same, ↓then_normal, ↓then_ret, ↓Fin_ret, pval, rd_S, put_S, resV, resL, List.replicate_succ, List.replicate_zero, List.set_cons_zero, List.set_cons_succ, List.getElem?_cons_zero, List.getElem?_cons_succ, Option.getD_some, Nat.reduceSub, List.cons_append, List.nil_append]
    exact gc_same rfl
  have hl : ks.length ≤ 1000000 := by omega
  simp (maxSteps := 4000000) -implicitDefEqProofs -dsimp (disch := omega) only [↓AW_skip, ↓AW_ops, ↓AW_seq, ↓AW_cond, ↓AOps_nil, ↓AOps_pu, ↓AOps_call, ↓AOps_guard, on_some, extK_same, guardB_ff, condB_f, ↓then_normal, pval, rd_S, rd_C, put_S, chkd, isAdr, bgot, AV.cells?, partA, eq_self, List.replicate_succ, List.replicate_zero, List.set_cons_zero, List.set_cons_succ, List.getElem?_cons_zero, List.getElem?_cons_succ, List.drop_zero, List.drop_succ_cons, List.take_zero, List.take_succ_cons, List.take_nil, Option.getD_some, map_c, map_n, List.length_cons, List.length_nil, Nat.reduceAdd, Nat.reduceSub, Nat.reduceLeDiff, Nat.reduceEqDiff, Nat.zero_add, List.cons_append, List.nil_append, bin_gtr, if_true, if_false, Bool.false_eq_true, decide_false, h1, hx.len, h2]
  refine CallK.of (s30 hu hP hx hl a b) ?_
  simp (maxSteps := 4000000) -implicitDefEqProofs -dsimp (disch := omega) only [↓AW_ops, ↓AW_seq, ↓AOps_nil, ↓AOps_pu, ↓AOps_call, on_some, extK_same, ↓then_normal, pval, rd_S, put_S, chkd, isAdr, bgot, AV.cells?, partA, eq_self, List.replicate_succ, List.replicate_zero, List.set_cons_zero, List.set_cons_succ, List.getElem?_cons_zero, List.getElem?_cons_succ, List.drop_zero, List.drop_succ_cons, List.take_zero, List.take_succ_cons, List.take_nil, Option.getD_some, map_c, map_n, List.length_cons, List.length_nil, Nat.reduceAdd, Nat.reduceSub, Nat.reduceLeDiff, Nat.reduceEqDiff, Nat.zero_add, List.cons_append, List.nil_append, if_true, if_false, Bool.false_eq_true]
  refine CallK.of (s31 hu hP hx hl a b) ?_
  simp (maxSteps := 4000000) -implicitDefEqProofs -dsimp (disch := omega) only [↓AW_skip, ↓AW_ops, ↓AW_seq, ↓AW_cond, ↓AOps_nil, ↓AOps_pu, ↓AOps_call, ↓AOps_guard, on_some, extK_same, guardB_ff, condB_f, ↓then_normal, pval, rd_S, rd_C, put_S, chkd, isAdr, bgot, AV.cells?, partA, eq_self, List.replicate_succ, List.replicate_zero, List.set_cons_zero, List.set_cons_succ, List.getElem?_cons_zero, List.getElem?_cons_succ, List.drop_zero, List.drop_succ_cons, List.take_zero, List.take_succ_cons, List.take_nil, Option.getD_some, map_c, map_n, List.length_cons, List.length_nil, Nat.reduceAdd, Nat.reduceSub, Nat.reduceLeDiff, Nat.reduceEqDiff, Nat.zero_add, List.cons_append, List.nil_append, bin_neq, if_true, if_false, Bool.false_eq_true, decide_false, not_true_eq_false]
  refine CallK.of (s25 hu hP a b) ?_
  by_cases he : yE Q rs a b ks = 0
  · obtain ⟨g1, g2, g3⟩ := way_worst he
    rw [g1, g2, he]
    simp (maxSteps := 4000000) -implicitDefEqProofs -dsimp (disch := omega) only [↓AW_ops, ↓AW_seq, ↓AOps_nil, ↓AOps_pu, ↓AOps_call, ↓AOps_guard, on_some, extK_same, guardB_tt, guardB_ff, ↓then_normal, pval, rd_S, rd_C, put_S, eq_self, List.replicate_succ, List.replicate_zero, List.set_cons_zero, List.set_cons_succ, List.getElem?_cons_zero, List.getElem?_cons_succ, Option.getD_some, map_n, Nat.reduceSub, List.cons_append, List.nil_append, bin_eql, bin_neq, bin_leq, if_true, if_false, Bool.false_eq_true, decide_true, decide_false, not_true_eq_false, g3]
    refine CallK.of (known A) ?_
    simp (maxSteps := 4000000) -implicitDefEqProofs -dsimp (disch := omega) only [↓AW_ret, ↓AOps_nil, ↓AOps_pu, on_some, extK_same, ↓then_normal, ↓Fin_ret, pval, rd_S, rd_C, put_S, resV, resL, eq_self, List.replicate_succ, List.replicate_zero, List.set_cons_zero, List.set_cons_succ, List.getElem?_cons_zero, List.getElem?_cons_succ, Option.getD_some, Nat.reduceSub, List.cons_append, List.nil_append, if_true]
    exact gc_same rfl
  · simp (maxSteps := 4000000) -implicitDefEqProofs -dsimp (disch := omega) only [↓AW_ops, ↓AW_seq, ↓AOps_nil, ↓AOps_pu, ↓AOps_call, ↓AOps_guard, on_some, extK_same, guardB_tt, guardB_tf, guardB_undef, skipS_some, ↓then_normal, pval, rd_S, rd_C, put_S, eq_self, List.replicate_succ, List.replicate_zero, List.set_cons_zero, List.set_cons_succ, List.getElem?_cons_zero, List.getElem?_cons_succ, Option.getD_some, map_n, Nat.reduceSub, List.cons_append, List.nil_append, bin_neq, if_true, decide_true, not_false_eq_true, he]
    refine CallK.of (known A) ?_
    simp (maxSteps := 4000000) -implicitDefEqProofs -dsimp (disch := omega) only [↓AW_ret, ↓AOps_nil, ↓AOps_pu, on_some, extK_same, skipS_some, ↓then_normal, ↓Fin_ret, pval, rd_S, rd_C, put_S, resV, resL, eq_self, List.replicate_succ, List.replicate_zero, List.set_cons_zero, List.set_cons_succ, List.getElem?_cons_zero, List.getElem?_cons_succ, Option.getD_some, Nat.reduceSub, List.cons_append, List.nil_append, if_true]
    exact gc_same rfl
end
end Go.Proofs.Ytkgfcdpckfhknaa

