/- What the law's proof rests on, part 4: for all that is said in each line. No conditions. -/
import Derived.Test.YtkgfcdpckfhknaaRows
import Derived.Test.YtkgfcdpckfhknaaCgA
namespace Go.Proofs.Ytkgfcdpckfhknaa
open Go Go.Eng
def eb (b : Bool) : List AV := [.bool b]
def bl (P : Nat) (g : Int → Bool) : List AV := ((plc P).map g).flatMap eb
def updB (g : Int → Bool) (k : Int) (x : Bool) : Int → Bool := fun p => if p = k then x else g p
theorem bl_eq (P : Nat) (g : Int → Bool) : bl P g = (plc P).map (fun p => .bool (g p)) := by
  unfold bl
  induction plc P with
  | nil => rfl
  | cons x xs ih => rw [List.map_cons, List.flatMap_cons, ih]; rfl
theorem bl_len (P : Nat) (g : Int → Bool) : (bl P g).length = P := by rw [bl_eq, List.length_map, plc_len]
theorem bl_get {P : Nat} {g : Int → Bool} {k : Int} (h0 : 0 ≤ k) (h1 : k < P) : (bl P g)[k.toNat]? = some (.bool (g k)) := by
  rw [bl_eq, List.getElem?_map, plc_get (by omega)]
  show some (AV.bool (g ((k.toNat : Nat) : Int))) = _
  rw [Int.toNat_of_nonneg h0]
theorem bl_set {P : Nat} {g : Int → Bool} {k : Int} {x : Bool} (h0 : 0 ≤ k) (h1 : k < P) : (bl P g).set k.toNat (.bool x) = bl P (updB g k x) := by
  rw [bl_eq, bl_eq]
  apply List.ext_getElem?
  intro i
  rw [List.getElem?_set]
  by_cases hi : i < P
  · rw [List.getElem?_map, List.getElem?_map, plc_get hi]
    by_cases he : k.toNat = i
    · rw [if_pos he, if_pos (by rw [List.length_map, plc_len]; omega)]
      show _ = some (AV.bool (updB g k x (i : Int)))
      unfold updB
      rw [if_pos (by omega)]
    · rw [if_neg he]
      show some (AV.bool (g (i : Int))) = some (AV.bool (updB g k x (i : Int)))
      unfold updB
      rw [if_neg (by omega)]
  · have hn : ∀ f : Int → AV, ((plc P).map f)[i]? = none := fun f => List.getElem?_eq_none (by rw [List.length_map, plc_len]; omega)
    rw [hn, hn, if_neg (by omega)]
theorem bl_congr {P : Nat} {f g : Int → Bool} (h : ∀ p : Int, 0 ≤ p → p < P → f p = g p) : bl P f = bl P g := by
  rw [bl_eq, bl_eq]
  exact List.map_congr_left (fun p hp => by
    have := mem_plc.1 hp
    rw [h p this.1 this.2])
theorem bl_repl (P : Nat) : repl [.bool false] P = bl P (fun _ => false) := by
  rw [bl_eq]
  have : ∀ n, repl [.bool false] n = List.replicate n (AV.bool false) := by
    intro n
    induction n with
    | zero => rfl
    | succ n ih => rw [repl, ih]; rfl
  rw [this, List.map_const', plc_len]
theorem idxB {n P : Nat} {full : Bool} {k : Int} (h0 : 0 ≤ k) (h1 : k < P) : idxA 1 (.sl 1 n 0 P full) (I k) = some (.ptr n k.toNat) := by
  simp only [idxA]
  rw [if_pos ⟨h0, h1⟩, Nat.zero_add, Nat.mul_one]
theorem ldB {H : AHeap} {n P : Nat} {rw : Bool} {g : Int → Bool} (h : H[n]? = some (.cells rw (bl P g))) {k : Int} (h0 : 0 ≤ k) (h1 : k < P) : ldA 1 false (.ptr n k.toNat) H = some (.bool (g k)) := by
  unfold ldA
  simp only [h]
  unfold partA
  rw [if_pos (by rw [bl_len]; omega)]
  simp only [Bool.false_eq_true, if_false, if_true]
  exact bl_get h0 h1
theorem splice_one {l : List AV} {i : Nat} (h : i < l.length) (x : AV) : splice l i [x] = l.set i x := by
  unfold splice
  rw [List.set_eq_take_append_cons_drop, if_pos h]
  simp
theorem stB {H : AHeap} {n P : Nat} {g : Int → Bool} (h : H[n]? = some (.cells true (bl P g))) {k : Int} (h0 : 0 ≤ k) (h1 : k < P) (x : Bool) : stA 1 (.ptr n k.toNat) (.bool x) H = some (H.set n (.cells true (bl P (updB g k x)))) := by
  unfold stA
  simp only [cells_bool, h]
  rw [if_pos ⟨rfl, by rw [bl_len]; omega⟩, splice_one (by rw [bl_len]; omega), bl_set h0 h1]
def bst (g : Int → Bool) (r : Rd) : Int → Bool := if g r.1 = true ∨ g r.2.1 = true then (fun p => if p = r.2.1 then true else if p = r.1 then true else g p) else g
def brnd (S : List Rd) : Nat → (Int → Bool) → Int → Bool
  | 0, g => g
  | n + 1, g => S.foldl bst (brnd S n g)
theorem bst_mono {g : Int → Bool} {r : Rd} {p : Int} (h : g p = true) : bst g r p = true := by
  unfold bst
  split
  · simp only
    split
    · rfl
    · split
      · rfl
      · exact h
  · exact h
theorem bfold_mono : ∀ (L : List Rd) {g : Int → Bool} {p : Int}, g p = true → L.foldl bst g p = true
  | [], _, _, h => h
  | r :: L, g, p, h => bfold_mono L (bst_mono h)
theorem bfold_next : ∀ (L : List Rd) {g : Int → Bool} {p q : Int}, (∃ r ∈ L, (r.1 = p ∧ r.2.1 = q) ∨ (r.1 = q ∧ r.2.1 = p)) → g p = true → L.foldl bst g q = true
  | [], _, _, _, ⟨r, hr, _⟩, _ => by simp at hr
  | e :: L, g, p, q, ⟨r, hr, hpq⟩, h => by
    rcases List.mem_cons.1 hr with rfl | hr
    · refine bfold_mono L ?_
      unfold bst
      rcases hpq with ⟨rfl, rfl⟩ | ⟨rfl, rfl⟩
      · rw [if_pos (.inl h)]; simp
      · rw [if_pos (.inr h)]
        simp only
        split
        · rfl
        · simp
    · exact bfold_next L ⟨r, hr, hpq⟩ (bst_mono h)
theorem bfold_cn {S : List Rd} {s : Int} : ∀ (L : List Rd) {g : Int → Bool}, (∀ r ∈ L, r ∈ S) → (∀ p, g p = true → Cn S s p) → ∀ p, L.foldl bst g p = true → Cn S s p
  | [], _, _, h => h
  | r :: L, g, hL, h => by
    refine bfold_cn L (fun x hx => hL x (by simp [hx])) (fun p hp => ?_)
    have hab : Cn S r.1 r.2.1 := Cn.one (hL r (by simp))
    unfold bst at hp
    split at hp
    · rename_i hg
      simp only at hp
      have ha : Cn S s r.1 := by
        rcases hg with hg | hg
        · exact h _ hg
        · exact (h _ hg).trans hab.symm
      split at hp
      · rename_i e; rw [e]; exact ha.trans hab
      · split at hp
        · rename_i e; rw [e]; exact ha
        · exact h p hp
    · exact h p hp
theorem brnd_cn {P : Nat} {S : List Rd} (hS : ∀ e ∈ S, InP P e) {s : Int} (s0 : 0 ≤ s) (s1 : s < P) {p : Int} (p0 : 0 ≤ p) (p1 : p < P) : brnd S P (updB (fun _ => false) s true) p = decide (Cn S s p) := by
  have h0 : updB (fun _ => false) s true s = true := by unfold updB; rw [if_pos rfl]
  by_cases hc : Cn S s p
  · rw [decide_eq_true hc]
    exact saturate hS (X := fun t q => brnd S t (updB (fun _ => false) s true) q = true) (fun t q h => bfold_mono S h) (fun t q r _ _ h hadj => bfold_next S hadj h) (s := s) h0 s0 s1 hc
  · rw [decide_eq_false hc, ← Bool.not_eq_true]
    intro h
    refine hc ?_
    have : ∀ n p, brnd S n (updB (fun _ => false) s true) p = true → Cn S s p := by
      intro n
      induction n with
      | zero =>
        intro p hp
        have hp : updB (fun _ => false) s true p = true := hp
        unfold updB at hp
        split at hp
        · rename_i e; rw [e]; exact .refl _
        · cases hp
      | succ n ih => exact bfold_cn S (fun _ h => h) ih
    exact this P p h
section
variable {P : Nat} {rs : List Rd} {ks : List Int} {u v : AV} {A : AHeap}
/-- Where the walk's truth values stand. -/
noncomputable def rchH (A : AHeap) (P : Nat) (S : List Rd) (s : Int) : AHeap := A ++ [.cells true (bl P (fun p => decide (Cn S s p)))]
set_option maxHeartbeats 8000000 in
theorem s66 (hu : L3 A u rs) (hx : L1 A v ks) (hn : Net P rs) (hk : Nos rs ks) (hl : ks.length ≤ 1000000) {s : Int} (s0 : 0 ≤ s) (s1 : s < P) : ACalls Try.prog 66 [.agg [I P, u], I s, v] A (.sl 1 A.length 0 P true) (rchH A P (ks.map (rdx rs)) s) := by
  refine acalls hmix Try.func66 (by kernel_rfl) t66 3 rfl (by decide) ?_
  have hP7 := hn.p7
  have hP1 := hn.p1
  have hS : ∀ e ∈ ks.map (rdx rs), InP P e := inP_map (hk.inP hn)
  have hlim : (P : Int) ≤ (lim : Nat) := by simp only [lim]; omega
  have hP0 : (0 : Int) ≤ P := by omega
  dsimp only [m66]
  simp (maxSteps := 4000000) -implicitDefEqProofs -dsimp (disch := omega) only [↓AW_ops, ↓AW_seq, ↓AW_block, ↓AOps_nil, ↓AOps_pu, ↓AOps_ha, on_some, extK_false, extK_app, ↓then_normal, pval, hval_st, hval_mks, rd_S, rd_C, put_S, putS_none, ↓AW_toLoop, chkd, isAdr, bgot, cells_agg, partA, beq_self_eq_true, eq_self, List.replicate_succ, List.replicate_zero, List.set_cons_zero, List.set_cons_succ, List.getElem?_cons_zero, List.getElem?_cons_succ, List.drop_zero, List.take_zero, List.take_succ_cons, Option.getD_some, Option.map_some, List.length_cons, List.length_nil, Nat.reduceAdd, Nat.reduceSub, Nat.reduceLeDiff, Nat.zero_add, List.cons_append, List.nil_append, if_true, if_false, Bool.false_eq_true, and_true, hP0, bl_repl, Int.toNat_natCast, hlim, Int.le_refl, idxB, stB (mp_new A (.cells true (bl P (fun _ => false)))), mp_set]
  refine LoopK.by 58 (fun t : Nat => t ≤ P) (fun t => [(2, v), (3, .agg [I P, u]), (7, .sl 1 A.length 0 P true), (8, I t)]) (fun t => A ++ [.cells true (bl P (brnd (ks.map (rdx rs)) t (updB (fun _ => false) s true)))]) (fun t => P - t) 0 (by omega) rfl (by simp [Has, rd_s]) rfl ?_
  intro t ht
  by_cases htl : t < P
  · have htl' : (t : Int) < P := by omega
    simp (maxSteps := 4000000) -implicitDefEqProofs -dsimp (disch := omega) only [↓AW_skip, ↓AW_ops, ↓AW_seq, ↓AW_cond, ↓AW_block, ↓AOps_nil, ↓AOps_pu, on_some, condB_t, ↓then_normal, pval, rd_S, rd_C, put_S, ↓AW_toLoop, chkd, isAdr, bgot, cells_agg, partA, eq_self, mk, List.foldl_cons, List.foldl_nil, List.replicate_succ, List.replicate_zero, List.set_cons_zero, List.set_cons_succ, List.getElem?_cons_zero, List.getElem?_cons_succ, List.drop_zero, List.take_zero, List.take_succ_cons, Option.getD_some, List.length_cons, List.length_nil, Nat.reduceAdd, Nat.reduceLeDiff, Nat.zero_add, bin_lss, if_true, if_false, Bool.false_eq_true, decide_true, htl']
    refine LoopK.by 58 (fun j : Nat => j ≤ ks.length) (fun j => [(2, v), (3, .agg [I P, u]), (7, .sl 1 A.length 0 P true), (8, I t), (9, I j)]) (fun j => A ++ [.cells true (bl P (((ks.map (rdx rs)).take j).foldl bst (brnd (ks.map (rdx rs)) t (updB (fun _ => false) s true))))]) (fun j => ks.length - j) 0 (by omega) rfl (by simp [Has, rd_s]) rfl ?_
    intro j hj
    generalize hg : ((ks.map (rdx rs)).take j).foldl bst (brnd (ks.map (rdx rs)) t (updB (fun _ => false) s true)) = g
    have hxm := hx.mono (pre_app A [.cells true (bl P g)])
    have hum := hu.mono (pre_app A [.cells true (bl P g)])
    by_cases hlt : j < ks.length
    · obtain ⟨z, hz⟩ : ∃ z, ks[j]? = some z := ⟨_, List.getElem?_eq_getElem hlt⟩
      have hlt' : (j : Int) < ks.length := by omega
      obtain ⟨k0, k1⟩ := hk z (List.mem_of_getElem? hz)
      obtain ⟨hr, _⟩ := rdx_at k0 k1
      obtain ⟨⟨a0, a1⟩, ⟨b0, b1⟩⟩ := hn.inP k0 k1
      have hri := hum.idxI (k := .i64) k0 (show z < (rs.length : Int) by omega)
      have hld1 := ldB (mp_new A (.cells true (bl P g))) a0 a1
      have hld2 := ldB (mp_new A (.cells true (bl P g))) b0 b1
      have hst1 := stB (mp_new A (.cells true (bl P g))) a0 a1 true
      rw [mp_set] at hst1
      have hst2 := stB (mp_new A (.cells true (bl P (updB g (rdx rs z).1 true)))) b0 b1 true
      rw [mp_set] at hst2
      have done : ∀ g', g' = bst g (rdx rs z) → (∃ y, y ≤ ks.length ∧ A ++ [AObj.cells true (bl P g')] = A ++ [AObj.cells true (bl P (((ks.map (rdx rs)).take y).foldl bst (brnd (ks.map (rdx rs)) t (updB (fun _ => false) s true))))] ∧ y = j + 1) := by
        rintro g' rfl
        refine ⟨j + 1, hlt, ?_, rfl⟩
        rw [map_take_snoc _ hz, List.foldl_append, hg]
        rfl
      by_cases ga : g (rdx rs z).1 = true
      · obtain ⟨y, y1, y2, y3⟩ := done (updB (updB g (rdx rs z).1 true) (rdx rs z).2.1 true) (by unfold bst; rw [if_pos (.inl ga)]; rfl)
        simp (maxSteps := 4000000) -implicitDefEqProofs -dsimp (disch := omega) only [↓AW_skip, ↓AW_ops, ↓AW_seq, ↓AW_cond, ↓AW_block, ↓AOps_nil, ↓AOps_pu, ↓AOps_ld, ↓AOps_ha, ↓AOps_guard, on_some, extK_false, guardB_tf, skipS_some, condB_t, ↓then_normal, ↓inBlock_normal, pval, lval, hval_st, rd_S, rd_C, put_S, putS_none, chkd, isAdr, bput, bgot, cells_agg, splice, partA, eq_self, mk, List.foldl_cons, List.foldl_nil, List.replicate_succ, List.replicate_zero, List.set_cons_zero, List.set_cons_succ, List.getElem?_cons_zero, List.getElem?_cons_succ, List.drop_zero, List.drop_succ_cons, List.drop_nil, List.take_zero, List.take_succ_cons, List.take_nil, Option.getD_some, Option.map_some, List.length_cons, List.length_nil, Nat.reduceAdd, Nat.reduceLeDiff, Nat.reduceEqDiff, Nat.zero_add, List.nil_append, List.append_nil, bin_add, bin_lss, w64, if_true, if_false, Bool.false_eq_true, decide_true, Go.Eng.e1, true_and, ne_eq, not_true_eq_false, hlt', hxm.len, hxm.idx hlt, hxm.ld0 hz 1 false (by decide), hri, hum.ld0 hr 3 true (by decide), e3, idxB, hld1, ga, hst1, hst2]
        exact ⟨y, y1, by simp [Has, rd_s, y3], y2, by omega⟩
      · have ga' : g (rdx rs z).1 = false := by simpa using ga
        by_cases gb : g (rdx rs z).2.1 = true
        · obtain ⟨y, y1, y2, y3⟩ := done (updB (updB g (rdx rs z).1 true) (rdx rs z).2.1 true) (by unfold bst; rw [if_pos (.inr gb)]; rfl)
          simp (maxSteps := 4000000) -implicitDefEqProofs -dsimp (disch := omega) only [↓AW_skip, ↓AW_ops, ↓AW_seq, ↓AW_cond, ↓AW_block, ↓AOps_nil, ↓AOps_pu, ↓AOps_ld, ↓AOps_ha, ↓AOps_guard, on_some, extK_false, guardB_ff, condB_t, ↓then_normal, ↓inBlock_normal, pval, lval, hval_st, rd_S, rd_C, put_S, putS_none, chkd, isAdr, bput, bgot, cells_agg, splice, partA, eq_self, mk, List.foldl_cons, List.foldl_nil, List.replicate_succ, List.replicate_zero, List.set_cons_zero, List.set_cons_succ, List.getElem?_cons_zero, List.getElem?_cons_succ, List.drop_zero, List.drop_succ_cons, List.drop_nil, List.take_zero, List.take_succ_cons, List.take_nil, Option.getD_some, Option.map_some, List.length_cons, List.length_nil, Nat.reduceAdd, Nat.reduceLeDiff, Nat.reduceEqDiff, Nat.zero_add, List.nil_append, List.append_nil, bin_add, bin_lss, w64, if_true, if_false, Bool.false_eq_true, decide_true, Go.Eng.e1, true_and, ne_eq, not_true_eq_false, hlt', hxm.len, hxm.idx hlt, hxm.ld0 hz 1 false (by decide), hri, hum.ld0 hr 3 true (by decide), e3, idxB, hld1, hld2, ga', gb, hst1, hst2]
          exact ⟨y, y1, by simp [Has, rd_s, y3], y2, by omega⟩
        · have gb' : g (rdx rs z).2.1 = false := by simpa using gb
          obtain ⟨y, y1, y2, y3⟩ := done g (by unfold bst; rw [if_neg (by rw [ga', gb']; simp)])
          simp (maxSteps := 4000000) -implicitDefEqProofs -dsimp (disch := omega) only [↓AW_skip, ↓AW_ops, ↓AW_seq, ↓AW_cond, ↓AW_block, ↓AOps_nil, ↓AOps_pu, ↓AOps_ld, ↓AOps_guard, on_some, guardB_ff, condB_t, condB_f, ↓then_normal, ↓inBlock_normal, pval, lval, rd_S, rd_C, put_S, chkd, isAdr, bput, bgot, cells_agg, splice, partA, eq_self, mk, List.foldl_cons, List.foldl_nil, List.replicate_succ, List.replicate_zero, List.set_cons_zero, List.set_cons_succ, List.getElem?_cons_zero, List.getElem?_cons_succ, List.drop_zero, List.drop_succ_cons, List.drop_nil, List.take_zero, List.take_succ_cons, List.take_nil, Option.getD_some, List.length_cons, List.length_nil, Nat.reduceAdd, Nat.reduceLeDiff, Nat.reduceEqDiff, Nat.zero_add, List.nil_append, List.append_nil, bin_add, bin_lss, w64, if_true, if_false, Bool.false_eq_true, decide_true, Go.Eng.e1, true_and, ne_eq, not_true_eq_false, hlt', hxm.len, hxm.idx hlt, hxm.ld0 hz 1 false (by decide), hri, hum.ld0 hr 3 true (by decide), e3, idxB, hld1, hld2, ga', gb']
          exact ⟨y, y1, by simp [Has, rd_s, y3], y2, by omega⟩
    · have hlt' : ¬ ((j : Int) < ks.length) := by omega
      simp (maxSteps := 4000000) -implicitDefEqProofs -dsimp (disch := omega) only [↓AW_ops, ↓AW_seq, ↓AW_cond, ↓AW_exit, ↓AW_ret, ↓AOps_nil, ↓AOps_pu, on_some, condB_f, ↓then_normal, ↓then_exit, ↓inBlock_normal, ↓inBlock_exit, ↓Fin_ret, pval, rd_S, rd_C, put_S, resV, resL, eq_self, mk, List.foldl_cons, List.foldl_nil, List.replicate_succ, List.replicate_zero, List.set_cons_zero, List.set_cons_succ, List.getElem?_cons_zero, List.getElem?_cons_succ, Option.getD_some, List.length_cons, List.length_nil, Nat.reduceAdd, Nat.reduceEqDiff, Nat.zero_add, bin_add, bin_lss, w64, if_true, if_false, decide_false, true_and, reduceCtorEq, hlt', hxm.len]
      refine ⟨t + 1, htl, by simp [Has, rd_s], ?_⟩
      rw [List.take_of_length_le (by simp; omega)] at hg
      rw [← hg]
      exact ⟨rfl, by omega⟩
  · have htl' : ¬ (t : Int) < P := by omega
    have hti : t = P := by omega
    subst hti
    simp (maxSteps := 4000000) -implicitDefEqProofs -dsimp (disch := omega) only [↓AW_ops, ↓AW_seq, ↓AW_cond, ↓AW_exit, ↓AW_ret, ↓AOps_nil, ↓AOps_pu, on_some, condB_f, ↓then_normal, ↓then_exit, ↓inBlock_exit, ↓Fin_ret, pval, rd_S, put_S, resV, resL, chkd, isAdr, bgot, cells_agg, partA, eq_self, mk, List.foldl_cons, List.foldl_nil, List.replicate_succ, List.replicate_zero, List.set_cons_zero, List.set_cons_succ, List.getElem?_cons_zero, List.getElem?_cons_succ, List.drop_zero, List.take_zero, List.take_succ_cons, Option.getD_some, List.length_cons, List.length_nil, Nat.reduceAdd, Nat.reduceLeDiff, Nat.zero_add, bin_lss, if_true, if_false, Bool.false_eq_true, decide_false, htl']
    refine gc_same_all rfl ?_
    unfold rchH
    rw [bl_congr (fun p p0 p1 => brnd_cn hS s0 s1 p0 p1)]
theorem s87 (hu : L3 A u rs) (hx : L1 A v ks) (hn : Net P rs) (hk : Nos rs ks) (hl : ks.length ≤ 1000000) : ACalls Try.prog 87 [.agg [I P, u], v] A (B (decide (Tree P (rdx rs) ks))) A := by
  refine acalls hmix Try.func87 (by kernel_rfl) t87 2 rfl (by decide) ?_
  have hP7 := hn.p7
  have hP1 := hn.p1
  by_cases h1 : (ks.length : Int) = P - 1
  case neg =>
    dsimp only [m87]
    simp (maxSteps := 4000000) -implicitDefEqProofs -dsimp (disch := omega) only [↓AW_ops, ↓AW_seq, ↓AW_cond, ↓AW_ret, ↓AOps_nil, ↓AOps_pu, on_some, condB_t, ↓then_normal, ↓then_ret, ↓Fin_ret, pval, rd_S, rd_C, put_S, resV, resL, chkd, isAdr, bgot, AV.cells?, partA, eq_self, List.replicate_succ, List.replicate_zero, List.set_cons_zero, List.set_cons_succ, List.getElem?_cons_zero, List.getElem?_cons_succ, List.drop_zero, List.take_zero, List.take_succ_cons, Option.getD_some, List.length_cons, List.length_nil, Nat.reduceAdd, Nat.reduceSub, Nat.reduceLeDiff, Nat.zero_add, List.cons_append, List.nil_append, bin_sub, bin_neq, w64, if_true, if_false, Bool.false_eq_true, decide_true, not_false_eq_true, hx.len, h1]
    exact gc_same (by rw [decide_eq_false (fun hh => h1 (by have := hh.1; omega))])
  dsimp only [m87]
  simp (maxSteps := 4000000) -implicitDefEqProofs -dsimp (disch := omega) only [↓AW_skip, ↓AW_ops, ↓AW_seq, ↓AW_cond, ↓AOps_nil, ↓AOps_pu, ↓AOps_call, on_some, condB_f, ↓then_normal, pval, rd_S, rd_C, put_S, chkd, isAdr, bgot, AV.cells?, partA, eq_self, List.replicate_succ, List.replicate_zero, List.set_cons_zero, List.set_cons_succ, List.getElem?_cons_zero, List.getElem?_cons_succ, List.drop_zero, List.take_zero, List.take_succ_cons, List.take_nil, Option.getD_some, map_c, map_n, List.length_cons, List.length_nil, Nat.reduceAdd, Nat.reduceSub, Nat.reduceLeDiff, Nat.reduceEqDiff, Nat.zero_add, List.cons_append, List.nil_append, bin_sub, bin_neq, w64, if_true, if_false, Bool.false_eq_true, decide_false, not_true_eq_false, hx.len, h1]
  refine CallK.of (s66 hu hx hn hk hl (s := 0) (by omega) (by omega)) ?_
  have hp : A <+: rchH A P (ks.map (rdx rs)) 0 := pre_app _ _
  have hm : (rchH A P (ks.map (rdx rs)) 0)[A.length]? = some (.cells true (bl P (fun p => decide (Cn (ks.map (rdx rs)) 0 p)))) := mp_new _ _
  generalize rchH A P (ks.map (rdx rs)) 0 = A1 at *
  simp (maxSteps := 4000000) -implicitDefEqProofs -dsimp (disch := omega) only [↓AW_ops, ↓AW_seq, ↓AW_block, ↓AOps_nil, ↓AOps_pu, on_some, extK_false, ↓then_normal, pval, rd_S, rd_C, put_S, ↓AW_toLoop, List.replicate_succ, List.replicate_zero, List.set_cons_zero, List.set_cons_succ, List.getElem?_cons_zero, List.getElem?_cons_succ, Option.getD_some, Nat.reduceSub, List.cons_append, List.nil_append]
  refine LoopK.by 27 (fun i : Nat => i ≤ P ∧ ∀ p : Int, 0 ≤ p → p < i → Cn (ks.map (rdx rs)) 0 p) (fun i => [(2, .agg [I P, u]), (5, .sl 1 A.length 0 P true), (6, I i)]) (fun _ => A1) (fun i => P - i) 0 ⟨by omega, fun p _ _ => by omega⟩ rfl (by simp [Has, rd_s]) rfl ?_
  rintro i ⟨hi, he⟩
  by_cases hlt : i < P
  · have hlt' : (i : Int) < P := by omega
    have hld := ldB hm (k := (i : Int)) (by omega) hlt'
    by_cases hc : Cn (ks.map (rdx rs)) 0 (i : Int)
    · rw [decide_eq_true hc] at hld
      simp (maxSteps := 4000000) -implicitDefEqProofs -dsimp (disch := omega) only [↓AW_skip, ↓AW_ops, ↓AW_seq, ↓AW_cond, ↓AW_block, ↓AOps_nil, ↓AOps_pu, ↓AOps_ld, on_some, condB_t, condB_f, ↓then_normal, ↓inBlock_normal, pval, lval, rd_S, rd_C, put_S, chkd, isAdr, bgot, AV.cells?, partA, eq_self, mk, List.foldl_cons, List.foldl_nil, List.replicate_succ, List.replicate_zero, List.set_cons_zero, List.set_cons_succ, List.getElem?_cons_zero, List.getElem?_cons_succ, List.drop_zero, List.take_zero, List.take_succ_cons, Option.getD_some, List.length_cons, List.length_nil, Nat.reduceAdd, Nat.reduceLeDiff, Nat.zero_add, bin_add, bin_lss, w64, if_true, if_false, Bool.false_eq_true, Bool.not_true, decide_true, true_and, hlt', idxB, hld]
      refine ⟨i + 1, ⟨hlt, fun p p0 p1 => ?_⟩, by simp [Has, rd_s], by omega⟩
      by_cases hpi : p = (i : Int)
      · rw [hpi]; exact hc
      · exact he p p0 (by omega)
    · rw [decide_eq_false hc] at hld
      simp (maxSteps := 4000000) -implicitDefEqProofs -dsimp (disch := omega) only [↓AW_skip, ↓AW_ops, ↓AW_seq, ↓AW_cond, ↓AW_block, ↓AW_ret, ↓AOps_nil, ↓AOps_pu, ↓AOps_ld, on_some, condB_t, ↓then_normal, ↓then_ret, ↓inBlock_ret, ↓Fin_ret, pval, lval, rd_S, rd_C, put_S, resV, resL, chkd, isAdr, bgot, AV.cells?, partA, eq_self, mk, List.foldl_cons, List.foldl_nil, List.replicate_succ, List.replicate_zero, List.set_cons_zero, List.set_cons_succ, List.getElem?_cons_zero, List.getElem?_cons_succ, List.drop_zero, List.take_zero, List.take_succ_cons, Option.getD_some, List.length_cons, List.length_nil, Nat.reduceAdd, Nat.reduceLeDiff, Nat.zero_add, bin_lss, if_true, if_false, Bool.false_eq_true, Bool.not_false, decide_true, hlt', idxB, hld]
      exact gc_val hp (by
        rw [decide_eq_false (fun hh : Tree P (rdx rs) ks => hc ((comps_one (by omega)).1 hh.2 _ (by omega) hlt'))]
        rfl)
  · have hlt' : ¬ ((i : Int) < P) := by omega
    simp (maxSteps := 4000000) -implicitDefEqProofs -dsimp (disch := omega) only [↓AW_ops, ↓AW_seq, ↓AW_cond, ↓AW_exit, ↓AW_ret, ↓AOps_nil, ↓AOps_pu, on_some, condB_f, ↓then_normal, ↓then_exit, ↓inBlock_exit, ↓Fin_ret, pval, rd_S, rd_C, put_S, resV, resL, chkd, isAdr, bgot, AV.cells?, partA, eq_self, mk, List.foldl_cons, List.foldl_nil, List.replicate_succ, List.replicate_zero, List.set_cons_zero, List.set_cons_succ, List.getElem?_cons_zero, List.getElem?_cons_succ, List.drop_zero, List.take_zero, List.take_succ_cons, Option.getD_some, List.length_cons, List.length_nil, Nat.reduceAdd, Nat.reduceLeDiff, Nat.zero_add, bin_lss, if_true, if_false, Bool.false_eq_true, decide_false, hlt']
    refine gc_val hp ?_
    rw [decide_eq_true (show Tree P (rdx rs) ks from ⟨by omega, (comps_one (by omega)).2 (fun p p0 p1 => he p p0 (by omega))⟩)]
    rfl
end
end Go.Proofs.Ytkgfcdpckfhknaa

namespace Go.Proofs.Ytkgfcdpckfhknaa
open Go Go.Eng
/-- A road's cost. -/
def wct (rs : List Rd) (k : Int) : Int := (rdx rs k).2.2
theorem Net.wb {P : Int} {rs : List Rd} (h : Net P rs) {k : Int} (h0 : 0 ≤ k) (h1 : k ≤ (rs.length : Int) - 1) : 0 ≤ wct rs k ∧ wct rs k ≤ 99 := by
  have := h.r _ (rdx_at h0 h1).2
  exact this.2.2
theorem Net.nat {P : Int} {rs : List Rd} (h : Net P rs) : ∃ p : Nat, P = p := ⟨P.toNat, by have := h.p1; omega⟩
section
variable {P : Nat} {rs : List Rd} {ks : List Int} {u v : AV} {A : AHeap}
end
section
variable {Q : Int} {rs : List Rd} {ks : List Int} {u v : AV} {A : AHeap}
theorem s17 (hu : L3 A u rs) (P : Int) : ACalls Try.prog 17 [.agg [I P, u]] A (B (decide ((100 : Int) < rs.length))) A := by
  refine acalls hmix Try.func17 (by kernel_rfl) t17 1 rfl (by decide) ?_
  dsimp only [m17]
  simp (maxSteps := 4000000) -implicitDefEqProofs -dsimp (disch := omega) only [↓AW_ops, ↓AW_seq, ↓AW_ret, ↓AOps_nil, ↓AOps_pu, on_some, ↓then_normal, ↓Fin_ret, pval, rd_S, rd_C, put_S, resV, resL, chkd, isAdr, bgot, AV.cells?, partA, eq_self, List.replicate_succ, List.replicate_zero, List.set_cons_zero, List.set_cons_succ, List.getElem?_cons_zero, List.getElem?_cons_succ, List.drop_zero, List.drop_succ_cons, List.take_succ_cons, List.take_nil, Option.getD_some, List.length_cons, List.length_nil, Nat.reduceAdd, Nat.reduceSub, Nat.reduceLeDiff, Nat.zero_add, List.cons_append, List.nil_append, bin_gtr, if_true, if_false, Bool.false_eq_true, hu.len]
  exact gc_same rfl
end
end Go.Proofs.Ytkgfcdpckfhknaa

namespace Go.Proofs.Ytkgfcdpckfhknaa
open Go Go.Eng
/-- The first elements are in order. -/
def SU (w : Int → Int) (zs : List Int) (i : Nat) : Prop := ∀ (p q : Nat) (a b : Int), p < q → q < i → zs[p]? = some a → zs[q]? = some b → w a ≤ w b
theorem SU.one (w : Int → Int) (zs : List Int) : SU w zs 1 := fun p q a b h k => by omega
theorem SU.zero (w : Int → Int) (zs : List Int) : SU w zs 0 := fun p q a b h k => by omega
theorem SU.all {w : Int → Int} {zs : List Int} (h : SU w zs zs.length) : zs.Pairwise (fun a b => w a ≤ w b) := by
  rw [List.pairwise_iff_getElem]
  intro i j hi hj hij
  exact h i j _ _ hij hj (List.getElem?_eq_getElem hi) (List.getElem?_eq_getElem hj)
/-- An element that goes down to its place. -/
structure IS (w : Int → Int) (xs zs : List Int) (i j : Nat) : Prop where
  perm : zs.Perm xs
  a : ∀ (p q : Nat) (a b : Int), p < q → q ≤ i → p ≠ j → q ≠ j → zs[p]? = some a → zs[q]? = some b → w a ≤ w b
  b : ∀ (q : Nat) (x y : Int), j < q → q ≤ i → zs[j]? = some x → zs[q]? = some y → w x ≤ w y
theorem IS.start {w : Int → Int} {xs zs : List Int} {i : Nat} (hp : zs.Perm xs) (h : SU w zs i) : IS w xs zs i i :=
  ⟨hp, fun p q a b h1 h2 _ h4 => h p q a b h1 (by omega), fun q x y h1 h2 => by omega⟩
theorem IS.zero {w : Int → Int} {xs zs : List Int} {i : Nat} (h : IS w xs zs i 0) : SU w zs (i + 1) := by
  intro p q a b h1 h2 h3 h4
  by_cases hp : p = 0
  · subst hp
    exact h.b q a b h1 (by omega) h3 h4
  · exact h.a p q a b h1 (by omega) hp (by omega) h3 h4
theorem IS.stop {w : Int → Int} {xs zs : List Int} {i j : Nat} {x y : Int} (h : IS w xs zs i (j + 1)) (hx : zs[j + 1]? = some x) (hy : zs[j]? = some y) (hxy : ¬ w x < w y) : SU w zs (i + 1) := by
  intro p q a b h1 h2 h3 h4
  by_cases hq : q = j + 1
  · subst hq
    have hbx : b = x := by rw [hx] at h4; exact (Option.some.inj h4).symm
    subst hbx
    by_cases hp : p = j
    · subst hp
      have e : a = y := by rw [hy] at h3; exact (Option.some.inj h3).symm
      rw [e]
      omega
    · have := h.a p j a y (by omega) (by omega) (by omega) (by omega) h3 hy
      omega
  · by_cases hp : p = j + 1
    · subst hp
      exact h.b q a b h1 (by omega) h3 h4
    · exact h.a p q a b h1 (by omega) hp hq h3 h4
theorem swap_get {zs : List Int} {j : Nat} {x y : Int} (hj : j + 1 < zs.length) (k : Nat) : ((zs.set (j + 1) y).set j x)[k]? = if k = j then some x else if k = j + 1 then some y else zs[k]? := by
  rw [List.getElem?_set, List.getElem?_set]
  by_cases h1 : k = j
  · subst h1
    rw [if_pos rfl, if_pos rfl, if_pos (by simp; omega)]
  · rw [if_neg (Ne.symm h1), if_neg h1]
    by_cases h2 : k = j + 1
    · subst h2
      rw [if_pos rfl, if_pos rfl, if_pos hj]
    · rw [if_neg (Ne.symm h2), if_neg h2]
theorem IS.swap {w : Int → Int} {xs zs : List Int} {i j : Nat} {x y : Int} (h : IS w xs zs i (j + 1)) (hi : j + 1 ≤ i) (hx : zs[j + 1]? = some x) (hy : zs[j]? = some y) (hxy : w x < w y) : IS w xs ((zs.set (j + 1) y).set j x) i j := by
  obtain ⟨h1, rfl⟩ := List.getElem?_eq_some_iff.1 hx
  obtain ⟨h2, rfl⟩ := List.getElem?_eq_some_iff.1 hy
  refine ⟨(List.set_set_perm h1 h2).trans h.perm, fun p q a b hpq hqi hp hq ha hb => ?_, fun q a b hjq hqi ha hb => ?_⟩
  · rw [swap_get h1] at ha hb
    rw [if_neg hp] at ha
    rw [if_neg hq] at hb
    by_cases hq1 : q = j + 1
    · rw [if_pos hq1] at hb
      rw [if_neg (by omega)] at ha
      have := h.a p j a zs[j] (by omega) (by omega) (by omega) (by omega) ha hy
      have e := Option.some.inj hb
      rw [← e]
      omega
    · rw [if_neg hq1] at hb
      by_cases hp1 : p = j + 1
      · rw [if_pos hp1] at ha
        have := h.a j q zs[j] b (by omega) hqi (by omega) hq1 hy hb
        have e := Option.some.inj ha
        rw [← e]
        omega
      · rw [if_neg hp1] at ha
        exact h.a p q a b hpq hqi hp1 hq1 ha hb
  · rw [swap_get h1] at ha hb
    rw [if_pos rfl] at ha
    rw [if_neg (by omega)] at hb
    have ha := Option.some.inj ha
    by_cases hq1 : q = j + 1
    · rw [if_pos hq1] at hb
      have e := Option.some.inj hb
      rw [← e, ← ha]
      omega
    · rw [if_neg hq1] at hb
      have := h.b q _ b (by omega) hqi hx hb
      rw [← ha]
      omega
section
variable {P : Nat} {rs : List Rd} {ks : List Int} {u v : AV} {A : AHeap}
theorem s98 {H : AHeap} {q : Nat} (hq : ldA 1 false (.ptr q 1) H = some u) (hu : L3 H u rs) (hn : Net P rs) {i k : Int} (i0 : 0 ≤ i) (i1 : i ≤ (rs.length : Int) - 1) (k0 : 0 ≤ k) (k1 : k ≤ (rs.length : Int) - 1) :
    ACalls Try.prog 98 [I i, I k, .ptr q 0] H (I (wct rs i - wct rs k)) H := by
  refine acalls hmix Try.func98 (by kernel_rfl) t98 3 rfl (by decide) ?_
  obtain ⟨hi, _⟩ := rdx_at i0 i1
  obtain ⟨hk, _⟩ := rdx_at k0 k1
  have wi := hn.wb i0 i1
  have wk := hn.wb k0 k1
  have hii := hu.idxI (k := .i64) i0 (show i < (rs.length : Int) by omega)
  have hki := hu.idxI (k := .i64) k0 (show k < (rs.length : Int) by omega)
  have e1 : (rdx rs i).2.2 = wct rs i := rfl
  have e2 : (rdx rs k).2.2 = wct rs k := rfl
  dsimp only [m98]
  simp (maxSteps := 4000000) -implicitDefEqProofs -dsimp (disch := omega) only [↓AW_ops, ↓AW_seq, ↓AW_ret, ↓AOps_nil, ↓AOps_pu, ↓AOps_ld, on_some, ↓then_normal, ↓Fin_ret, pval, lval, rd_S, rd_C, put_S, resV, resL, partA, eq_self, List.replicate_succ, List.replicate_zero, List.set_cons_zero, List.set_cons_succ, List.getElem?_cons_zero, List.getElem?_cons_succ, List.drop_zero, List.drop_succ_cons, List.take_succ_cons, List.take_nil, Option.getD_some, List.length_cons, List.length_nil, Nat.reduceAdd, Nat.reduceSub, Nat.reduceLeDiff, Nat.zero_add, List.cons_append, List.nil_append, bin_sub, w64, if_true, if_false, Bool.false_eq_true, hq, hii, hki, hu.ld hi 1 2 false (by decide), hu.ld hk 1 2 false (by decide), e3, e1, e2]
  exact gc_same rfl
/-- Comparing two of a list's numbers, wherever they stand. -/
def CmpOK (w : Int → Int) (H : AHeap) (n q : Nat) (xs : List Int) : Prop := ∀ zs : List Int, zs.Perm xs → ∀ x ∈ xs, ∀ y ∈ xs, ACalls Try.prog 98 [I x, I y, .ptr q 0] (H.set n (.cells true (zs.flatMap e1))) (I (w x - w y)) (H.set n (.cells true (zs.flatMap e1)))
set_option maxHeartbeats 8000000 in
theorem c_insC {w : Int → Int} {xs : List Int} {H : AHeap} {n q : Nat} (h : OL 1 e1 A H n v xs) (hl : xs.length ≤ 1000) (hc : CmpOK w H n q xs) : ∃ zs : List Int, ACalls Try.prog 112 [v, I 0, I xs.length, .fn 98 [.ptr q 0]] H (.tuple []) (H.set n (.cells true (zs.flatMap e1))) ∧ zs.Perm xs ∧ zs.Pairwise (fun a b => w a ≤ w b) := by
  have key : ∃ r H', ACalls Try.prog 112 [v, I 0, I xs.length, .fn 98 [.ptr q 0]] H r H' ∧ ∃ zs : List Int, r = .tuple [] ∧ H' = H.set n (.cells true (zs.flatMap e1)) ∧ zs.Perm xs ∧ zs.Pairwise (fun a b => w a ≤ w b) := by
    refine acallsR hmix Try.func112 (by kernel_rfl) t112 _ 4 rfl (by decide) ?_
    dsimp only [m112]
    simp (maxSteps := 4000000) -implicitDefEqProofs -dsimp (disch := omega) only [↓AW_ops, ↓AW_seq, ↓AW_block, ↓AOps_nil, ↓AOps_pu, on_some, ↓then_normal, pval, rd_S, rd_C, put_S, ↓AW_toLoop, List.replicate_succ, List.replicate_zero, List.set_cons_zero, List.set_cons_succ, List.getElem?_cons_zero, List.getElem?_cons_succ, Option.getD_some, Nat.reduceSub, List.cons_append, List.nil_append, bin_add, w64, Int.reduceAdd]
    refine LoopK.by 53 (fun x : Nat × List Int => (1 ≤ x.1 ∧ x.1 ≤ xs.length + 1) ∧ x.2.Perm xs ∧ SU w x.2 x.1) (fun x => [(0, v), (1, I 0), (2, I xs.length), (3, .fn 98 [.ptr q 0]), (8, I x.1)]) (fun x => H.set n (.cells true (x.2.flatMap e1))) (fun x => xs.length + 1 - x.1) (1, xs) ⟨by simp only; omega, List.Perm.refl _, SU.one _ _⟩ rfl (by simp [Has, rd_s]) (by simp only; rw [set_same h.ob]) ?_
    rintro ⟨i, zs⟩ ⟨hi, hpz, hz⟩
    simp only at hi hpz hz
    by_cases hlt : i < xs.length
    · have hlt' : (i : Int) < xs.length := by omega
      simp (maxSteps := 4000000) -implicitDefEqProofs -dsimp (disch := omega) only [↓AW_skip, ↓AW_ops, ↓AW_seq, ↓AW_cond, ↓AW_block, ↓AOps_nil, ↓AOps_pu, on_some, condB_t, ↓then_normal, pval, rd_S, put_S, ↓AW_toLoop, mk, List.foldl_cons, List.foldl_nil, List.replicate_succ, List.replicate_zero, List.set_cons_zero, List.set_cons_succ, List.getElem?_cons_zero, List.getElem?_cons_succ, Option.getD_some, bin_lss, decide_true, hlt']
      refine LoopK.by 53 (fun x : Nat × List Int => x.1 ≤ i ∧ IS w xs x.2 i x.1) (fun x => [(0, v), (1, I 0), (2, I xs.length), (3, .fn 98 [.ptr q 0]), (8, I i), (9, I x.1)]) (fun x => H.set n (.cells true (x.2.flatMap e1))) (fun x => x.1) (i, zs) ⟨by simp only; omega, IS.start hpz hz⟩ rfl (by simp [Has, rd_s]) rfl ?_
      rintro ⟨j, ws⟩ ⟨hj, hs⟩
      simp only at hj hs
      have hlen := hs.perm.length_eq
      have ho := OL_setAll h ws hlen
      cases j with
      | zero =>
        simp (maxSteps := 4000000) -implicitDefEqProofs -dsimp (disch := omega) only [↓AW_ops, ↓AW_seq, ↓AW_cond, ↓AW_exit, ↓AOps_nil, ↓AOps_pu, ↓AOps_guard, on_some, guardB_ft, skipS_some, condB_f, ↓then_normal, ↓then_exit, ↓inBlock_normal, ↓inBlock_exit, ↓FinR_normal, pval, rd_S, rd_C, put_S, resV, resL, eq_self, mk, List.foldl_cons, List.foldl_nil, List.replicate_succ, List.replicate_zero, List.set_cons_zero, List.set_cons_succ, List.getElem?_cons_zero, List.getElem?_cons_succ, Option.getD_some, List.length_cons, List.length_nil, Nat.reduceAdd, Nat.reduceEqDiff, Nat.zero_add, bin_add, bin_gtr, w64, if_true, if_false, Bool.false_eq_true, decide_false, true_and, reduceCtorEq, Int.reduceLT, Int.ofNat_zero]
        exact ⟨(i + 1, ws), ⟨by simp only; omega, hs.perm, hs.zero⟩, by simp [Has, rd_s], rfl, by simp only; omega⟩
      | succ k =>
        have hk1 : k + 1 < ws.length := by omega
        have hk0 : k < ws.length := by omega
        have hjp : (0 : Int) < ((k + 1 : Nat) : Int) := by omega
        have hjm : ((k + 1 : Nat) : Int) - 1 = (k : Int) := by omega
        obtain ⟨x, hx⟩ : ∃ x, ws[k + 1]? = some x := ⟨_, List.getElem?_eq_getElem hk1⟩
        obtain ⟨y, hy⟩ : ∃ y, ws[k]? = some y := ⟨_, List.getElem?_eq_getElem hk0⟩
        have h1 := ho.st hk1 (I y) y rfl
        rw [List.set_set] at h1
        have ho2 := OL_setAll h (ws.set (k + 1) y) (by simp [hlen])
        have h2 := ho2.st (i := k) (by simp; omega) (I x) x rfl
        rw [List.set_set] at h2
        have hswap := hs.swap (x := x) (y := y) hj hx hy
        have hstop := hs.stop hx hy
        generalize hJ : ((k + 1 : Nat) : Int) = J at *
        have hidx1 : idxA 1 v (.int .i64 J) = some (.ptr (nm v) (of v + (k + 1) * 1)) := by rw [← hJ]; exact ho.ls.idx hk1
        simp (maxSteps := 4000000) -implicitDefEqProofs -dsimp (disch := omega) only [↓AW_ops, ↓AW_seq, ↓AOps_pu, ↓AOps_ld, ↓AOps_callv, ↓AOps_guard, on_some, CallF_fn, guardB_tt, pval, lval, rd_S, rd_C, put_S, partA, eq_self, mk, List.foldl_cons, List.foldl_nil, List.replicate_succ, List.replicate_zero, List.set_cons_zero, List.set_cons_succ, List.getElem?_cons_zero, List.getElem?_cons_succ, List.drop_zero, List.take_succ_cons, List.take_nil, Option.getD_some, map_c, map_n, List.length_cons, List.length_nil, Nat.reduceLeDiff, Nat.zero_add, List.cons_append, List.nil_append, bin_sub, bin_gtr, w64, if_true, if_false, Bool.false_eq_true, decide_true, Go.Eng.e1, hjp, hjm, hidx1, ho.ls.ld0 hx 1 false (by decide), ho.ls.idx hk0, ho.ls.ld0 hy 1 false (by decide)]
        refine CallK.of (hc ws hs.perm x (hs.perm.mem_iff.1 (List.mem_of_getElem? hx)) y (hs.perm.mem_iff.1 (List.mem_of_getElem? hy))) ?_
        by_cases hxy : w x < w y
        · have hxy' : w x - w y < 0 := by omega
          simp (maxSteps := 4000000) -implicitDefEqProofs -dsimp (disch := omega) only [↓AW_skip, ↓AW_ops, ↓AW_seq, ↓AW_cond, ↓AW_block, ↓AOps_nil, ↓AOps_pu, ↓AOps_ld, ↓AOps_ha, ↓AOps_guard, on_some, extK_false, extK_same, guardB_tt, condB_t, ↓then_normal, ↓inBlock_normal, pval, lval, hval_st, rd_S, rd_C, put_S, putS_none, partA, eq_self, mk, List.foldl_cons, List.foldl_nil, List.replicate_succ, List.replicate_zero, List.set_cons_zero, List.set_cons_succ, List.getElem?_cons_zero, List.getElem?_cons_succ, List.drop_zero, List.take_succ_cons, List.take_nil, Option.getD_some, Option.map_some, List.length_cons, List.length_nil, Nat.reduceAdd, Nat.reduceLeDiff, Nat.zero_add, bin_sub, bin_lss, w64, if_true, if_false, Bool.false_eq_true, decide_true, Go.Eng.e1, true_and, hxy', hjm, hidx1, ho.ls.ld0 hx 1 false (by decide), ho.ls.idx hk0, ho.ls.ld0 hy 1 false (by decide), h1, h2]
          exact ⟨(k, (ws.set (k + 1) y).set k x), ⟨by simp only; omega, hswap hxy⟩, by simp [Has, rd_s], rfl, by simp only; omega⟩
        · have hxy' : ¬ w x - w y < 0 := by omega
          simp (maxSteps := 4000000) -implicitDefEqProofs -dsimp (disch := omega) only [↓AW_ops, ↓AW_cond, ↓AW_exit, ↓AOps_nil, ↓AOps_pu, ↓AOps_guard, on_some, extK_same, guardB_tt, condB_f, ↓then_normal, ↓then_exit, ↓inBlock_normal, ↓inBlock_exit, ↓FinR_normal, pval, rd_S, rd_C, put_S, resV, resL, eq_self, mk, List.foldl_cons, List.foldl_nil, List.replicate_succ, List.replicate_zero, List.set_cons_zero, List.set_cons_succ, List.getElem?_cons_zero, List.getElem?_cons_succ, Option.getD_some, List.length_cons, List.length_nil, Nat.reduceAdd, Nat.reduceEqDiff, Nat.zero_add, bin_add, bin_lss, w64, if_true, if_false, decide_false, true_and, reduceCtorEq, hxy']
          exact ⟨(i + 1, ws), ⟨by simp only; omega, hs.perm, hstop hxy⟩, by simp [Has, rd_s], rfl, by simp only; omega⟩
    · have hlt' : ¬ (i : Int) < xs.length := by omega
      simp (maxSteps := 4000000) -implicitDefEqProofs -dsimp (disch := omega) only [↓AW_ops, ↓AW_seq, ↓AW_cond, ↓AW_exit, ↓AOps_nil, ↓AOps_pu, on_some, condB_f, ↓then_normal, ↓then_exit, ↓inBlock_exit, ↓FinR_normal, pval, rd_S, put_S, resV, resL, eq_self, mk, List.foldl_cons, List.foldl_nil, List.replicate_succ, List.replicate_zero, List.set_cons_zero, List.set_cons_succ, List.getElem?_cons_zero, List.getElem?_cons_succ, Option.getD_some, bin_lss, if_true, decide_false, hlt']
      have hle := hpz.length_eq
      exact ⟨_, _, gc_all, zs, rfl, rfl, hpz, SU.all (fun p q a b h1 h2 => hz p q a b h1 (by omega))⟩
  obtain ⟨r, H', h1, zs, rfl, rfl, h2, h3⟩ := key
  exact ⟨zs, h1, h2, h3⟩
theorem c_stable {w : Int → Int} {xs : List Int} {H : AHeap} {n q : Nat} (h : OL 1 e1 A H n v xs) (hl : xs.length ≤ 19) (hc : CmpOK w H n q xs) : ∃ zs : List Int, ACalls Try.prog 97 [v, .fn 98 [.ptr q 0]] H (.tuple []) (H.set n (.cells true (zs.flatMap e1))) ∧ zs.Perm xs ∧ zs.Pairwise (fun a b => w a ≤ w b) := by
  obtain ⟨zs, h1, h2, h3⟩ := c_insC h (by omega) hc
  refine ⟨zs, ?_, h2, h3⟩
  have hst : ACalls Try.prog 109 [v, I xs.length, .fn 98 [.ptr q 0]] H (.tuple []) (H.set n (.cells true (zs.flatMap e1))) := by
    refine acalls hmix Try.func109 (by kernel_rfl) t109 3 rfl (by decide) ?_
    have hb : ¬ (20 : Int) ≤ xs.length := by omega
    have hb2 : ¬ (20 : Int) < xs.length := by omega
    dsimp only [m109]
    simp (maxSteps := 4000000) -implicitDefEqProofs -dsimp (disch := omega) only [↓AW_ops, ↓AW_seq, ↓AW_block, ↓AOps_nil, ↓AOps_pu, on_some, ↓then_normal, pval, rd_S, rd_C, put_S, ↓AW_toLoop, List.replicate_succ, List.replicate_zero, List.set_cons_zero, List.set_cons_succ, List.getElem?_cons_zero, List.getElem?_cons_succ, Option.getD_some, Nat.reduceSub, List.cons_append, List.nil_append]
    refine LoopK.by 63 (fun _ : Unit => True) (fun _ => [(0, v), (1, I xs.length), (2, .fn 98 [.ptr q 0]), (6, I 20), (7, I 0), (8, I 20)]) (fun _ => H) (fun _ => 0) () trivial rfl (by simp [Has, rd_s]) rfl ?_
    rintro _ _
    simp (maxSteps := 4000000) -implicitDefEqProofs -dsimp (disch := omega) only [↓AW_ops, ↓AW_seq, ↓AW_cond, ↓AW_exit, ↓AOps_nil, ↓AOps_pu, ↓AOps_call, on_some, condB_f, ↓then_normal, ↓then_exit, ↓inBlock_exit, pval, rd_S, put_S, eq_self, mk, List.foldl_cons, List.foldl_nil, List.replicate_succ, List.replicate_zero, List.set_cons_zero, List.set_cons_succ, List.getElem?_cons_zero, List.getElem?_cons_succ, Option.getD_some, map_c, map_n, bin_leq, if_true, decide_false, hb]
    refine CallK.of h1 ?_
    simp (maxSteps := 4000000) -implicitDefEqProofs -dsimp (disch := omega) only [↓AW_block, ↓AOps_nil, extK_false, ↓then_normal, put_S, ↓AW_toLoop, mk, List.foldl_cons, List.foldl_nil, List.replicate_succ, List.replicate_zero, List.set_cons_zero, List.set_cons_succ]
    refine LoopK.by 63 (fun _ : Unit => True) (fun _ => [(0, v), (1, I xs.length), (2, .fn 98 [.ptr q 0]), (6, I 20)]) (fun _ => H.set n (.cells true (zs.flatMap e1))) (fun _ => 0) () trivial rfl (by simp [Has, rd_s]) rfl ?_
    rintro _ _
    simp (maxSteps := 4000000) -implicitDefEqProofs -dsimp (disch := omega) only [↓AW_ops, ↓AW_seq, ↓AW_cond, ↓AW_exit, ↓AOps_nil, ↓AOps_pu, on_some, condB_f, ↓then_normal, ↓then_exit, ↓inBlock_exit, ↓Fin_normal, pval, rd_S, put_S, resV, resL, eq_self, mk, List.foldl_cons, List.foldl_nil, List.replicate_succ, List.replicate_zero, List.set_cons_zero, List.set_cons_succ, List.getElem?_cons_zero, List.getElem?_cons_succ, Option.getD_some, bin_lss, if_true, decide_false, hb2]
    exact gc_same_all rfl rfl
  refine acalls hmix Try.func97 (by kernel_rfl) t97 2 rfl (by decide) ?_
  dsimp only [m97]
  simp (maxSteps := 4000000) -implicitDefEqProofs -dsimp (disch := omega) only [↓AW_ops, ↓AOps_pu, ↓AOps_call, on_some, pval, rd_S, put_S, List.replicate_succ, List.replicate_zero, List.set_cons_zero, List.set_cons_succ, List.getElem?_cons_zero, List.getElem?_cons_succ, Option.getD_some, map_c, map_n, Nat.reduceSub, List.cons_append, List.nil_append, h.ls.len]
  refine CallK.of hst ?_
  simp (maxSteps := 4000000) -implicitDefEqProofs -dsimp (disch := omega) only [↓AOps_nil, on_some, extK_false, ↓Fin_normal, resV, resL]
  exact gc_same_all rfl rfl
/-- The numbers of all roads. -/
abbrev nums (rs : List Rd) : List Int := plc rs.length
/-- The numbers of all roads, the cheapest first. -/
structure Ord (rs : List Rd) (L : List Int) : Prop where
  p : L.Perm (nums rs)
  s : L.Pairwise (fun a b => wct rs a ≤ wct rs b)
theorem Ord.mem {L : List Int} (h : Ord rs L) {k : Int} : k ∈ L ↔ 0 ≤ k ∧ k ≤ (rs.length : Int) - 1 := by
  rw [h.p.mem_iff, mem_plc]
  omega
theorem Ord.nos {L : List Int} (h : Ord rs L) : Nos rs L := fun k hk => h.mem.1 hk
theorem Ord.nodup {L : List Int} (h : Ord rs L) : L.Nodup := h.p.nodup_iff.2 (plc_nodup _)
theorem Ord.len {L : List Int} (h : Ord rs L) : L.length = rs.length := by rw [h.p.length_eq, plc_len]
set_option maxHeartbeats 8000000 in
theorem c_all (hu : L3 A u rs) (hn : Net P rs) : ∃ r H, ACalls Try.prog 59 [.agg [I P, u]] A r H ∧ A <+: H ∧ ∃ L, L1 H r L ∧ Ord rs L := by
  refine acallsR hmix Try.func59 (by kernel_rfl) t59 _ 1 rfl (by decide) ?_
  have hl14 := hn.l
  have hpA := pre_app A [.cells true [I P, u]]
  have hld1 : ldA 1 false (.ptr A.length 1) (A ++ [.cells true [I P, u]]) = some u := by simp [ldA, partA]
  have hu1 := hu.mono hpA
  dsimp only [m59]
  simp (maxSteps := 4000000) -implicitDefEqProofs -dsimp (disch := omega) only [↓AW_ops, ↓AW_seq, ↓AOps_nil, ↓AOps_pu, ↓AOps_ld, ↓AOps_ha, on_some, extK_app, ↓then_normal, pval, lval, hval_newv, rd_S, rd_C, put_S, cells_agg, List.replicate_succ, List.replicate_zero, List.set_cons_zero, List.set_cons_succ, List.getElem?_cons_zero, List.getElem?_cons_succ, Option.getD_some, Nat.reduceSub, Nat.zero_add, List.cons_append, List.nil_append]
  generalize hA1 : A ++ [.cells true [I P, u]] = A1 at *
  simp (maxSteps := 4000000) -implicitDefEqProofs -dsimp (disch := omega) only [↓AW_block, ↓AOps_nil, ↓AOps_pu, on_some, ↓then_normal, pval, rd_S, rd_C, put_S, ↓AW_toLoop, List.replicate_succ, List.replicate_zero, List.set_cons_zero, List.set_cons_succ, List.getElem?_cons_zero, List.getElem?_cons_succ, Option.getD_some, Nat.reduceSub, List.cons_append, List.nil_append, hld1, hu1.len]
  refine LoopK.by 20 (fun x : Nat × AV × AHeap => x.1 ≤ rs.length ∧ AccL 1 e1 A1 x.2.2 x.2.1 (plc x.1)) (fun x => [(1, .ptr A.length 0), (3, x.2.1), (7, I rs.length), (8, I x.1)]) (fun x => x.2.2) (fun x => rs.length - x.1) (0, .nilS, A1) ⟨by simp only; omega, AccL.nil (List.prefix_refl _)⟩ rfl (by simp [Has, rd_s]) rfl ?_
  rintro ⟨i, z, H⟩ ⟨hi, hac⟩
  simp only at hi hac
  by_cases hlt : i < rs.length
  · have hlt' : (i : Int) < rs.length := by omega
    obtain ⟨v', H2, happ, hacc, _, n, len, rfl, _⟩ := AccL_push2 hac e1_len (by omega) (i : Int) (by rw [plc_len]; simp only [lim]; omega)
    simp only [Go.Eng.e1] at happ
    simp (maxSteps := 4000000) -implicitDefEqProofs -dsimp (disch := omega) only [↓AW_skip, ↓AW_ops, ↓AW_seq, ↓AW_cond, ↓AW_block, ↓AOps_nil, ↓AOps_pu, ↓AOps_ha, on_some, extK_false, extK_app, condB_t, ↓then_normal, ↓inBlock_normal, pval, hval_blds, hval_app, rd_S, rd_C, put_S, cells_int, splice, fillA, repl, eq_self, mk, List.foldl_cons, List.foldl_nil, List.replicate_succ, List.replicate_zero, List.set_cons_zero, List.set_cons_succ, List.getElem?_cons_zero, List.getElem?_cons_succ, List.drop_succ_cons, List.drop_nil, List.take_zero, Option.getD_some, map_c, map_n, List.length_cons, List.length_nil, Nat.reduceAdd, Nat.reduceLeDiff, Nat.zero_add, List.nil_append, List.append_nil, bin_add, bin_lss, w64, if_true, decide_true, true_and, and_true, hlt', happ, List.replicate_zero, repl]
    refine ⟨(i + 1, .sl 1 n 0 len false, H2), ⟨hlt, ?_⟩, by simp [Has, rd_s], rfl, by simp only; omega⟩
    simp only
    rw [plc_succ]
    exact hacc
  · have hlt' : ¬ (i : Int) < rs.length := by omega
    have hil : i = rs.length := by omega
    subst hil
    simp (maxSteps := 4000000) -implicitDefEqProofs -dsimp (disch := omega) only [↓AW_ops, ↓AW_seq, ↓AW_cond, ↓AW_exit, ↓AOps_nil, ↓AOps_pu, ↓AOps_call, on_some, condB_f, ↓then_normal, ↓then_exit, ↓inBlock_exit, pval, rd_S, put_S, eq_self, mk, List.foldl_cons, List.foldl_nil, List.replicate_succ, List.replicate_zero, List.set_cons_zero, List.set_cons_succ, List.getElem?_cons_zero, List.getElem?_cons_succ, Option.getD_some, map_c, map_n, bin_lss, if_true, decide_false, hlt']
    by_cases h0 : rs.length = 0
    · -- there is none
      have hz0 : z = .nilS := by
        rcases hac.2.2 with ⟨_, h4⟩ | ⟨h3, _⟩
        · exact h4
        · rw [plc_len] at h3; omega
      have hpl : plc rs.length = [] := by rw [h0]; rfl
      have hnil : ∀ H : AHeap, ACalls Try.prog 97 [.nilS, .fn 98 [.ptr A.length 0]] H (.tuple []) H := by
        intro H
        have h112 : ACalls Try.prog 112 [.nilS, I 0, I 0, .fn 98 [.ptr A.length 0]] H (.tuple []) H := by
          refine acalls hmix Try.func112 (by kernel_rfl) t112 4 rfl (by decide) ?_
          dsimp only [m112]
          simp (maxSteps := 4000000) -implicitDefEqProofs -dsimp (disch := omega) only [↓AW_ops, ↓AW_seq, ↓AW_block, ↓AOps_nil, ↓AOps_pu, on_some, ↓then_normal, pval, rd_S, rd_C, put_S, ↓AW_toLoop, List.replicate_succ, List.replicate_zero, List.set_cons_zero, List.set_cons_succ, List.getElem?_cons_zero, List.getElem?_cons_succ, Option.getD_some, Nat.reduceSub, List.cons_append, List.nil_append, bin_add, w64, Int.reduceAdd]
          refine LoopK.by 53 (fun _ : Unit => True) (fun _ => [(0, .nilS), (1, I 0), (2, I 0), (3, .fn 98 [.ptr A.length 0]), (8, I 1)]) (fun _ => H) (fun _ => 0) () trivial rfl (by simp [Has, rd_s]) rfl ?_
          rintro _ _
          simp (maxSteps := 4000000) -implicitDefEqProofs -dsimp (disch := omega) only [↓AW_ops, ↓AW_seq, ↓AW_cond, ↓AW_exit, ↓AOps_nil, ↓AOps_pu, on_some, condB_f, ↓then_normal, ↓then_exit, ↓inBlock_exit, ↓Fin_normal, pval, rd_S, put_S, resV, resL, eq_self, mk, List.foldl_cons, List.foldl_nil, List.replicate_succ, List.replicate_zero, List.set_cons_zero, List.set_cons_succ, List.getElem?_cons_zero, List.getElem?_cons_succ, Option.getD_some, bin_lss, if_true, decide_false, Int.reduceLT]
          exact gc_same rfl
        have h109 : ACalls Try.prog 109 [.nilS, I 0, .fn 98 [.ptr A.length 0]] H (.tuple []) H := by
          refine acalls hmix Try.func109 (by kernel_rfl) t109 3 rfl (by decide) ?_
          dsimp only [m109]
          simp (maxSteps := 4000000) -implicitDefEqProofs -dsimp (disch := omega) only [↓AW_ops, ↓AW_seq, ↓AW_block, ↓AOps_nil, ↓AOps_pu, on_some, ↓then_normal, pval, rd_S, rd_C, put_S, ↓AW_toLoop, List.replicate_succ, List.replicate_zero, List.set_cons_zero, List.set_cons_succ, List.getElem?_cons_zero, List.getElem?_cons_succ, Option.getD_some, Nat.reduceSub, List.cons_append, List.nil_append]
          refine LoopK.by 63 (fun _ : Unit => True) (fun _ => [(0, .nilS), (1, I 0), (2, .fn 98 [.ptr A.length 0]), (6, I 20), (7, I 0), (8, I 20)]) (fun _ => H) (fun _ => 0) () trivial rfl (by simp [Has, rd_s]) rfl ?_
          rintro _ _
          simp (maxSteps := 4000000) -implicitDefEqProofs -dsimp (disch := omega) only [↓AW_ops, ↓AW_seq, ↓AW_cond, ↓AW_exit, ↓AOps_nil, ↓AOps_pu, ↓AOps_call, on_some, condB_f, ↓then_normal, ↓then_exit, ↓inBlock_exit, pval, rd_S, put_S, eq_self, mk, List.foldl_cons, List.foldl_nil, List.replicate_succ, List.replicate_zero, List.set_cons_zero, List.set_cons_succ, List.getElem?_cons_zero, List.getElem?_cons_succ, Option.getD_some, map_c, map_n, bin_leq, if_true, decide_false, Int.reduceLE]
          refine CallK.of h112 ?_
          simp (maxSteps := 4000000) -implicitDefEqProofs -dsimp (disch := omega) only [↓AW_block, ↓AOps_nil, extK_same, ↓then_normal, put_S, ↓AW_toLoop, mk, List.foldl_cons, List.foldl_nil, List.replicate_succ, List.replicate_zero, List.set_cons_zero, List.set_cons_succ]
          refine LoopK.by 63 (fun _ : Unit => True) (fun _ => [(0, .nilS), (1, I 0), (2, .fn 98 [.ptr A.length 0]), (6, I 20)]) (fun _ => H) (fun _ => 0) () trivial rfl (by simp [Has, rd_s]) rfl ?_
          rintro _ _
          simp (maxSteps := 4000000) -implicitDefEqProofs -dsimp (disch := omega) only [↓AW_ops, ↓AW_seq, ↓AW_cond, ↓AW_exit, ↓AOps_nil, ↓AOps_pu, on_some, condB_f, ↓then_normal, ↓then_exit, ↓inBlock_exit, ↓Fin_normal, pval, rd_S, put_S, resV, resL, eq_self, mk, List.foldl_cons, List.foldl_nil, List.replicate_succ, List.replicate_zero, List.set_cons_zero, List.set_cons_succ, List.getElem?_cons_zero, List.getElem?_cons_succ, Option.getD_some, bin_lss, if_true, decide_false, Int.reduceLT]
          exact gc_same rfl
        refine acalls hmix Try.func97 (by kernel_rfl) t97 2 rfl (by decide) ?_
        dsimp only [m97]
        simp (maxSteps := 4000000) -implicitDefEqProofs -dsimp (disch := omega) only [↓AW_ops, ↓AOps_pu, ↓AOps_call, on_some, pval, rd_S, put_S, List.replicate_succ, List.replicate_zero, List.set_cons_zero, List.set_cons_succ, List.getElem?_cons_zero, List.getElem?_cons_succ, Option.getD_some, map_c, map_n, Nat.reduceSub, List.cons_append, List.nil_append, lenA]
        refine CallK.of h109 ?_
        simp (maxSteps := 4000000) -implicitDefEqProofs -dsimp (disch := omega) only [↓AOps_nil, on_some, extK_same, ↓Fin_normal, resV, resL]
        exact gc_same rfl
      subst hz0
      refine CallK.of (hnil H) ?_
      simp (maxSteps := 4000000) -implicitDefEqProofs -dsimp (disch := omega) only [↓AW_ops, ↓AW_seq, ↓AW_ret, ↓AOps_nil, ↓AOps_pu, on_some, extK_same, ↓then_normal, ↓FinR_ret, pval, rd_S, put_S, resV, resL, mk, List.foldl_cons, List.foldl_nil, List.replicate_succ, List.replicate_zero, List.set_cons_zero, List.set_cons_succ, List.getElem?_cons_zero, List.getElem?_cons_succ, Option.getD_some]
      exact ⟨_, _, gc_all, hpA.trans hac.1, [], L1_nil _, by rw [show nums rs = [] from hpl], .nil⟩
    · obtain ⟨n, ho, hzv⟩ := AccL_ol hac e1_len (by rw [plc_len]; omega)
      have hcmp : CmpOK (wct rs) H n A.length (plc rs.length) := by
        intro zs hzs x hx y hy
        have ho2 := OL_setAll ho zs hzs.length_eq
        have hx' := mem_plc.1 hx
        have hy' := mem_plc.1 hy
        exact s98 (ld_mono ho2.pre hld1) (hu1.mono ho2.pre) hn hx'.1 (by omega) hy'.1 (by omega)
      obtain ⟨zs, hcs, hp, hs⟩ := c_stable ho (by rw [plc_len]; omega) hcmp
      refine CallK.of hcs ?_
      simp (maxSteps := 4000000) -implicitDefEqProofs -dsimp (disch := omega) only [↓AW_ops, ↓AW_seq, ↓AW_ret, ↓AOps_nil, ↓AOps_pu, on_some, extK_false, ↓then_normal, ↓FinR_ret, pval, rd_S, put_S, resV, resL, mk, List.foldl_cons, List.foldl_nil, List.replicate_succ, List.replicate_zero, List.set_cons_zero, List.set_cons_succ, List.getElem?_cons_zero, List.getElem?_cons_succ, Option.getD_some]
      have ho2 := OL_setAll ho zs hp.length_eq
      exact ⟨_, _, gc_all, hpA.trans ho2.pre, zs, ho2.ls, hp, hs⟩
end
end Go.Proofs.Ytkgfcdpckfhknaa

namespace Go.Proofs.Ytkgfcdpckfhknaa
open Go Go.Eng
/-- Numbers in ascending order. -/
def srt (xs : List Int) : List Int := xs.mergeSort (fun a b => decide (a ≤ b))
theorem srt_perm (xs : List Int) : (srt xs).Perm xs := List.mergeSort_perm xs _
theorem srt_pw (xs : List Int) : (srt xs).Pairwise (· ≤ ·) := by
  have := List.pairwise_mergeSort (le := fun a b : Int => decide (a ≤ b)) (fun a b c h k => by simp at *; omega) (fun a b => by simp; omega) xs
  exact this.imp (fun h => by simpa using h)
theorem srt_len (xs : List Int) : (srt xs).length = xs.length := (srt_perm xs).length_eq
theorem srt_uniq {zs xs : List Int} (hp : zs.Perm xs) (h : zs.Pairwise (· ≤ ·)) : zs = srt xs :=
  List.Perm.eq_of_pairwise (le := fun a b : Int => a ≤ b) (fun a b _ _ h1 h2 => by omega) h (srt_pw xs) (hp.trans (srt_perm xs).symm)
theorem SU.srt {zs xs : List Int} (hp : zs.Perm xs) {i : Nat} (h : SU (fun a => a) zs i) (hi : xs.length ≤ i) : zs = srt xs := by
  refine srt_uniq hp (SU.all (w := fun a => a) (fun p q a b h1 h2 => h p q a b h1 ?_))
  have := hp.length_eq
  omega
theorem s131 (a : Int) (A : AHeap) : ACalls Try.prog 131 [I a] A (B false) A := by
  refine acalls hmix Try.func131 (by kernel_rfl) t131 1 rfl (by decide) ?_
  dsimp only [m131]
  simp (maxSteps := 4000000) -implicitDefEqProofs -dsimp (disch := omega) only [↓AW_ops, ↓AW_seq, ↓AW_ret, ↓AOps_nil, ↓AOps_pu, on_some, ↓then_normal, ↓Fin_ret, pval, rd_S, rd_C, put_S, resV, resL, eq_self, List.replicate_succ, List.replicate_zero, List.set_cons_zero, List.set_cons_succ, List.getElem?_cons_zero, List.getElem?_cons_succ, Option.getD_some, Nat.reduceSub, List.cons_append, List.nil_append, bin_neq, decide_false, not_true_eq_false]
  exact gc_same rfl
theorem sLess (a b : Int) (A : AHeap) : ACalls Try.prog 120 [I a, I b] A (B (decide (a < b))) A := by
  refine acalls hmix Try.func120 (by kernel_rfl) t120 2 rfl (by decide) ?_
  dsimp only [m120]
  simp (maxSteps := 4000000) -implicitDefEqProofs -dsimp (disch := omega) only [↓AW_ops, ↓AW_seq, ↓AOps_nil, ↓AOps_pu, ↓AOps_call, on_some, ↓then_normal, pval, rd_S, rd_C, put_S, List.replicate_succ, List.replicate_zero, List.set_cons_zero, List.set_cons_succ, List.getElem?_cons_zero, List.getElem?_cons_succ, Option.getD_some, map_c, map_n, Nat.reduceSub, List.cons_append, List.nil_append]
  refine CallK.of (s131 a A) ?_
  simp (maxSteps := 4000000) -implicitDefEqProofs -dsimp (disch := omega) only [↓AW_ret, ↓AOps_nil, ↓AOps_pu, ↓AOps_guard, on_some, extK_same, guardB_ft, guardB_ff, skipS_some, ↓then_normal, ↓Fin_ret, pval, rd_S, rd_C, put_S, resV, resL, List.replicate_succ, List.replicate_zero, List.set_cons_zero, List.set_cons_succ, List.getElem?_cons_zero, List.getElem?_cons_succ, Option.getD_some, Nat.reduceSub, List.cons_append, List.nil_append, bin_lss, if_false, Bool.false_eq_true]
  exact gc_same rfl
theorem c_ins {xs : List Int} {v : AV} {A H : AHeap} {n : Nat} (h : OL 1 e1 A H n v xs) (hl : xs.length ≤ 1000) : ACalls Try.prog 114 [v, I 0, I xs.length] H (.tuple []) (H.set n (.cells true ((srt xs).flatMap e1))) := by
  refine acalls hmix Try.func114 (by kernel_rfl) t114 3 rfl (by decide) ?_
  dsimp only [m114]
  simp (maxSteps := 4000000) -implicitDefEqProofs -dsimp (disch := omega) only [↓AW_ops, ↓AW_seq, ↓AW_block, ↓AOps_nil, ↓AOps_pu, on_some, ↓then_normal, pval, rd_S, rd_C, put_S, ↓AW_toLoop, List.replicate_succ, List.replicate_zero, List.set_cons_zero, List.set_cons_succ, List.getElem?_cons_zero, List.getElem?_cons_succ, Option.getD_some, Nat.reduceSub, List.cons_append, List.nil_append, bin_add, w64, Int.reduceAdd]
  refine LoopK.by 49 (fun x : Nat × List Int => (1 ≤ x.1 ∧ x.1 ≤ xs.length + 1) ∧ x.2.Perm xs ∧ SU (fun a => a) x.2 x.1) (fun x => [(0, v), (1, I 0), (2, I xs.length), (6, I x.1)]) (fun x => H.set n (.cells true (x.2.flatMap e1))) (fun x => xs.length + 1 - x.1) (1, xs) ⟨by simp only; omega, List.Perm.refl _, SU.one _ _⟩ rfl (by simp [Has, rd_s]) (by simp only; rw [set_same h.ob]) ?_
  rintro ⟨i, zs⟩ ⟨hi, hpz, hz⟩
  simp only at hi hpz hz
  by_cases hlt : i < xs.length
  · have hlt' : (i : Int) < xs.length := by omega
    simp (maxSteps := 4000000) -implicitDefEqProofs -dsimp (disch := omega) only [↓AW_skip, ↓AW_ops, ↓AW_seq, ↓AW_cond, ↓AW_block, ↓AOps_nil, ↓AOps_pu, on_some, condB_t, ↓then_normal, pval, rd_S, put_S, ↓AW_toLoop, mk, List.foldl_cons, List.foldl_nil, List.replicate_succ, List.replicate_zero, List.set_cons_zero, List.set_cons_succ, List.getElem?_cons_zero, List.getElem?_cons_succ, Option.getD_some, bin_lss, decide_true, hlt']
    refine LoopK.by 49 (fun x : Nat × List Int => x.1 ≤ i ∧ IS (fun a => a) xs x.2 i x.1) (fun x => [(0, v), (1, I 0), (2, I xs.length), (6, I i), (7, I x.1)]) (fun x => H.set n (.cells true (x.2.flatMap e1))) (fun x => x.1) (i, zs) ⟨by simp only; omega, IS.start hpz hz⟩ rfl (by simp [Has, rd_s]) rfl ?_
    rintro ⟨j, ws⟩ ⟨hj, hs⟩
    simp only at hj hs
    have hlen := hs.perm.length_eq
    have ho := OL_setAll h ws hlen
    cases j with
    | zero =>
      have hz0 : ¬ ((0 : Nat) : Int) > 0 := by omega
      simp (maxSteps := 4000000) -implicitDefEqProofs -dsimp (disch := omega) only [↓AW_ops, ↓AW_seq, ↓AW_cond, ↓AW_exit, ↓AOps_nil, ↓AOps_pu, ↓AOps_guard, on_some, guardB_ft, skipS_some, condB_f, ↓then_normal, ↓then_exit, ↓inBlock_normal, ↓inBlock_exit, ↓Fin_normal, pval, rd_S, rd_C, put_S, resV, resL, eq_self, mk, List.foldl_cons, List.foldl_nil, List.replicate_succ, List.replicate_zero, List.set_cons_zero, List.set_cons_succ, List.getElem?_cons_zero, List.getElem?_cons_succ, Option.getD_some, List.length_cons, List.length_nil, Nat.reduceAdd, Nat.reduceEqDiff, Nat.zero_add, bin_add, bin_gtr, w64, if_true, if_false, Bool.false_eq_true, decide_false, true_and, reduceCtorEq, Int.reduceLT, Int.ofNat_zero]
      exact ⟨(i + 1, ws), ⟨by simp only; omega, hs.perm, hs.zero⟩, by simp [Has, rd_s], rfl, by simp only; omega⟩
    | succ k =>
      have hk1 : k + 1 < ws.length := by omega
      have hk0 : k < ws.length := by omega
      have hjp : (0 : Int) < ((k + 1 : Nat) : Int) := by omega
      have hjm : ((k + 1 : Nat) : Int) - 1 = (k : Int) := by omega
      obtain ⟨x, hx⟩ : ∃ x, ws[k + 1]? = some x := ⟨_, List.getElem?_eq_getElem hk1⟩
      obtain ⟨y, hy⟩ : ∃ y, ws[k]? = some y := ⟨_, List.getElem?_eq_getElem hk0⟩
      have h1 := ho.st hk1 (I y) y rfl
      rw [List.set_set] at h1
      have ho2 := OL_setAll h (ws.set (k + 1) y) (by simp [hlen])
      have h2 := ho2.st (i := k) (by simp; omega) (I x) x rfl
      rw [List.set_set] at h2
      have hswap := hs.swap (x := x) (y := y) hj hx hy
      have hstop := hs.stop hx hy
      generalize hJ : ((k + 1 : Nat) : Int) = J at *
      have hidx1 : idxA 1 v (.int .i64 J) = some (.ptr (nm v) (of v + (k + 1) * 1)) := by rw [← hJ]; exact ho.ls.idx hk1
      simp (maxSteps := 4000000) -implicitDefEqProofs -dsimp (disch := omega) only [↓AW_ops, ↓AW_seq, ↓AOps_pu, ↓AOps_ld, ↓AOps_call, ↓AOps_guard, on_some, guardB_tt, pval, lval, rd_S, rd_C, put_S, partA, eq_self, mk, List.foldl_cons, List.foldl_nil, List.replicate_succ, List.replicate_zero, List.set_cons_zero, List.set_cons_succ, List.getElem?_cons_zero, List.getElem?_cons_succ, List.drop_zero, List.take_succ_cons, List.take_nil, Option.getD_some, map_c, map_n, List.length_cons, List.length_nil, Nat.reduceLeDiff, Nat.zero_add, bin_sub, bin_gtr, w64, if_true, if_false, Bool.false_eq_true, decide_true, Go.Eng.e1, hjp, hjm, hidx1, ho.ls.ld0 hx 1 false (by decide), ho.ls.idx hk0, ho.ls.ld0 hy 1 false (by decide)]
      refine CallK.of (sLess x y _) ?_
      by_cases hxy : x < y
      · simp (maxSteps := 4000000) -implicitDefEqProofs -dsimp (disch := omega) only [↓AW_skip, ↓AW_ops, ↓AW_seq, ↓AW_cond, ↓AW_block, ↓AOps_nil, ↓AOps_pu, ↓AOps_ld, ↓AOps_ha, on_some, extK_false, extK_same, condB_t, ↓then_normal, ↓inBlock_normal, pval, lval, hval_st, rd_S, rd_C, put_S, putS_none, partA, eq_self, mk, List.foldl_cons, List.foldl_nil, List.replicate_succ, List.replicate_zero, List.set_cons_zero, List.set_cons_succ, List.getElem?_cons_zero, List.getElem?_cons_succ, List.drop_zero, List.take_succ_cons, List.take_nil, Option.getD_some, Option.map_some, List.length_cons, List.length_nil, Nat.reduceAdd, Nat.reduceLeDiff, Nat.zero_add, bin_sub, w64, if_true, if_false, Bool.false_eq_true, decide_true, Go.Eng.e1, true_and, hxy, hjm, hidx1, ho.ls.ld0 hx 1 false (by decide), ho.ls.idx hk0, ho.ls.ld0 hy 1 false (by decide), h1, h2]
        exact ⟨(k, (ws.set (k + 1) y).set k x), ⟨by simp only; omega, hswap hxy⟩, by simp [Has, rd_s], rfl, by simp only; omega⟩
      · simp (maxSteps := 4000000) -implicitDefEqProofs -dsimp (disch := omega) only [↓AW_ops, ↓AW_cond, ↓AW_exit, ↓AOps_nil, ↓AOps_pu, on_some, extK_same, condB_f, ↓then_normal, ↓then_exit, ↓inBlock_normal, ↓inBlock_exit, ↓Fin_normal, pval, rd_S, rd_C, put_S, resV, resL, eq_self, mk, List.foldl_cons, List.foldl_nil, List.replicate_succ, List.replicate_zero, List.set_cons_zero, List.set_cons_succ, List.getElem?_cons_zero, List.getElem?_cons_succ, Option.getD_some, List.length_cons, List.length_nil, Nat.reduceAdd, Nat.reduceEqDiff, Nat.zero_add, bin_add, w64, if_true, if_false, decide_false, true_and, reduceCtorEq, hxy]
        exact ⟨(i + 1, ws), ⟨by simp only; omega, hs.perm, hstop hxy⟩, by simp [Has, rd_s], rfl, by simp only; omega⟩
  · have hlt' : ¬ (i : Int) < xs.length := by omega
    have he := SU.srt hpz hz (by omega)
    simp (maxSteps := 4000000) -implicitDefEqProofs -dsimp (disch := omega) only [↓AW_ops, ↓AW_seq, ↓AW_cond, ↓AW_exit, ↓AOps_nil, ↓AOps_pu, on_some, condB_f, ↓then_normal, ↓then_exit, ↓inBlock_exit, ↓Fin_normal, pval, rd_S, put_S, resV, resL, eq_self, mk, List.foldl_cons, List.foldl_nil, List.replicate_succ, List.replicate_zero, List.set_cons_zero, List.set_cons_succ, List.getElem?_cons_zero, List.getElem?_cons_succ, Option.getD_some, bin_lss, if_true, decide_false, hlt']
    rw [he]
    exact gc_same_all rfl rfl
theorem c_pdq {xs : List Int} {v : AV} {A H : AHeap} {n : Nat} (h : OL 1 e1 A H n v xs) (hl : xs.length ≤ 12) (k : Int) : ACalls Try.prog 110 [v, I 0, I xs.length, I k] H (.tuple []) (H.set n (.cells true ((srt xs).flatMap e1))) := by
  refine acalls hmix Try.func110 (by kernel_rfl) t110 4 rfl (by decide) ?_
  dsimp only [m110]
  simp (maxSteps := 4000000) -implicitDefEqProofs -dsimp (disch := omega) only [↓AW_ops, ↓AW_seq, ↓AW_block, ↓AOps_nil, ↓AOps_pu, on_some, ↓then_normal, pval, rd_C, put_S, ↓AW_toLoop, List.replicate_succ, List.replicate_zero, List.set_cons_zero, List.set_cons_succ, Nat.reduceSub, List.cons_append, List.nil_append]
  refine LoopK.by 134 (fun _ : Unit => True) (fun _ => [(0, v), (1, I 0), (2, I xs.length), (3, I k), (8, B true), (9, B true)]) (fun _ => H) (fun _ => 0) () trivial rfl (by simp [Has, rd_s]) rfl ?_
  rintro _ _
  have h12 : (xs.length : Int) ≤ 12 := by omega
  have h0 : (xs.length : Int) - 0 = xs.length := by omega
  simp (maxSteps := 4000000) -implicitDefEqProofs -dsimp (disch := omega) only [↓AW_ops, ↓AW_seq, ↓AW_cond, ↓AW_block, ↓AOps_nil, ↓AOps_pu, ↓AOps_call, on_some, condB_t, ↓then_normal, pval, rd_S, rd_C, put_S, mk, List.foldl_cons, List.foldl_nil, List.replicate_succ, List.replicate_zero, List.set_cons_zero, List.set_cons_succ, List.getElem?_cons_zero, List.getElem?_cons_succ, Option.getD_some, map_c, map_n, bin_sub, bin_leq, w64, decide_true, h0, h12]
  refine CallK.of (c_ins h (by omega)) ?_
  simp (maxSteps := 4000000) -implicitDefEqProofs -dsimp (disch := omega) only [↓AW_ret, ↓AOps_nil, on_some, extK_false, ↓then_normal, ↓then_ret, ↓inBlock_ret, ↓Fin_ret, resV, resL]
  exact gc_same_all rfl rfl
def isI : Option (AV × AHeap) → Bool
  | some (.int .i64 _, _) => true
  | _ => false
set_option maxRecDepth 100000 in
theorem len_run : (List.range 13).all (fun k => isI (runF tab 300 14 111 [.int .u64 (k : Int)] [])) = true := by kernel_rfl
theorem c_Len {k : Nat} (hk : k ≤ 12) (A : AHeap) : ∃ n : Int, ACalls Try.prog 111 [.int .u64 (k : Int)] A (I n) A := by
  have h := List.all_eq_true.1 len_run k (List.mem_range.2 (by omega))
  cases hr : runF tab 300 14 111 [.int .u64 (k : Int)] [] with
  | none => rw [hr] at h; cases h
  | some p =>
    obtain ⟨v, A'⟩ := p
    rw [hr] at h
    have h2 : ∃ n, v = I n := by
      unfold isI at h
      split at h
      · rename_i m _ e; cases e; exact ⟨m, rfl⟩
      · cases h
    obtain ⟨n, rfl⟩ := h2
    exact ⟨n, (runF_ok hmix tabOK 300 14 111 [.int .u64 (k : Int)] [] _ _ hr).lift (by simp [flat]) rfl A⟩
theorem wu64 {n : Int} (h0 : 0 ≤ n) (h1 : n < 18446744073709551616) : IntKind.u64.wrap n = n := by
  have : (2 : Int) ^ IntKind.u64.bits = 18446744073709551616 := by decide
  unfold IntKind.wrap
  simp only [this, IntKind.signed, Bool.false_and, Bool.false_eq_true, if_false]
  exact Int.emod_eq_of_lt h0 h1
theorem c_Sort {xs : List Int} {v : AV} {A H : AHeap} {n : Nat} (h : OL 1 e1 A H n v xs) (hl : xs.length ≤ 12) : ACalls Try.prog 100 [v] H (.tuple []) (H.set n (.cells true ((srt xs).flatMap e1))) := by
  refine acalls hmix Try.func100 (by kernel_rfl) t100 1 rfl (by decide) ?_
  obtain ⟨k, hk⟩ := c_Len hl H
  have hw := wu64 (n := (xs.length : Int)) (by omega) (by omega)
  dsimp only [m100]
  simp (maxSteps := 4000000) -implicitDefEqProofs -dsimp (disch := omega) only [↓AW_ops, ↓AW_seq, ↓AOps_nil, ↓AOps_pu, ↓AOps_call, on_some, ↓then_normal, pval, rd_S, put_S, List.replicate_succ, List.replicate_zero, List.set_cons_zero, List.set_cons_succ, List.getElem?_cons_zero, List.getElem?_cons_succ, Option.getD_some, map_c, map_n, Nat.reduceSub, List.cons_append, List.nil_append, h.ls.len, hw]
  refine CallK.of hk ?_
  simp (maxSteps := 4000000) -implicitDefEqProofs -dsimp (disch := omega) only [↓AOps_call, extK_same, rd_S, rd_C, put_S, List.replicate_succ, List.replicate_zero, List.set_cons_zero, List.set_cons_succ, List.getElem?_cons_zero, List.getElem?_cons_succ, Option.getD_some, map_c, map_n, Nat.reduceSub, List.cons_append, List.nil_append]
  refine CallK.of (c_pdq h hl k) ?_
  simp (maxSteps := 4000000) -implicitDefEqProofs -dsimp (disch := omega) only [↓AOps_nil, on_some, extK_false, ↓Fin_normal, resV, resL]
  exact gc_same_all rfl rfl
theorem c_SortNil (A : AHeap) : ACalls Try.prog 100 [.nilS] A (.tuple []) A := by
  have h114 : ACalls Try.prog 114 [.nilS, I 0, I 0] A (.tuple []) A := by
    refine acalls hmix Try.func114 (by kernel_rfl) t114 3 rfl (by decide) ?_
    dsimp only [m114]
    simp (maxSteps := 4000000) -implicitDefEqProofs -dsimp (disch := omega) only [↓AW_ops, ↓AW_seq, ↓AW_block, ↓AOps_nil, ↓AOps_pu, on_some, ↓then_normal, pval, rd_S, rd_C, put_S, ↓AW_toLoop, List.replicate_succ, List.replicate_zero, List.set_cons_zero, List.set_cons_succ, List.getElem?_cons_zero, List.getElem?_cons_succ, Option.getD_some, Nat.reduceSub, List.cons_append, List.nil_append, bin_add, w64, Int.reduceAdd]
    refine LoopK.by 49 (fun _ : Unit => True) (fun _ => [(0, .nilS), (1, I 0), (2, I 0), (6, I 1)]) (fun _ => A) (fun _ => 0) () trivial rfl (by simp [Has, rd_s]) rfl ?_
    rintro _ _
    simp (maxSteps := 4000000) -implicitDefEqProofs -dsimp (disch := omega) only [↓AW_ops, ↓AW_seq, ↓AW_cond, ↓AW_exit, ↓AOps_nil, ↓AOps_pu, on_some, condB_f, ↓then_normal, ↓then_exit, ↓inBlock_exit, ↓Fin_normal, pval, rd_S, put_S, resV, resL, eq_self, mk, List.foldl_cons, List.foldl_nil, List.replicate_succ, List.replicate_zero, List.set_cons_zero, List.set_cons_succ, List.getElem?_cons_zero, List.getElem?_cons_succ, Option.getD_some, bin_lss, if_true, decide_false, Int.reduceLT]
    exact gc_same rfl
  have h110 : ∀ k : Int, ACalls Try.prog 110 [.nilS, I 0, I 0, I k] A (.tuple []) A := by
    intro k
    refine acalls hmix Try.func110 (by kernel_rfl) t110 4 rfl (by decide) ?_
    dsimp only [m110]
    simp (maxSteps := 4000000) -implicitDefEqProofs -dsimp (disch := omega) only [↓AW_ops, ↓AW_seq, ↓AW_block, ↓AOps_nil, ↓AOps_pu, on_some, ↓then_normal, pval, rd_C, put_S, ↓AW_toLoop, List.replicate_succ, List.replicate_zero, List.set_cons_zero, List.set_cons_succ, Nat.reduceSub, List.cons_append, List.nil_append]
    refine LoopK.by 134 (fun _ : Unit => True) (fun _ => [(0, .nilS), (1, I 0), (2, I 0), (3, I k), (8, B true), (9, B true)]) (fun _ => A) (fun _ => 0) () trivial rfl (by simp [Has, rd_s]) rfl ?_
    rintro _ _
    simp (maxSteps := 4000000) -implicitDefEqProofs -dsimp (disch := omega) only [↓AW_ops, ↓AW_seq, ↓AW_cond, ↓AW_block, ↓AOps_nil, ↓AOps_pu, ↓AOps_call, on_some, condB_t, ↓then_normal, pval, rd_S, rd_C, put_S, mk, List.foldl_cons, List.foldl_nil, List.replicate_succ, List.replicate_zero, List.set_cons_zero, List.set_cons_succ, List.getElem?_cons_zero, List.getElem?_cons_succ, Option.getD_some, map_c, map_n, bin_sub, bin_leq, w64, decide_true, Int.reduceLE, Int.reduceSub]
    refine CallK.of h114 ?_
    simp (maxSteps := 4000000) -implicitDefEqProofs -dsimp (disch := omega) only [↓AW_ret, ↓AOps_nil, on_some, extK_same, ↓then_normal, ↓then_ret, ↓inBlock_ret, ↓Fin_ret, resV, resL]
    exact gc_same rfl
  refine acalls hmix Try.func100 (by kernel_rfl) t100 1 rfl (by decide) ?_
  obtain ⟨k, hk⟩ := c_Len (k := 0) (by omega) A
  have hw := wu64 (n := 0) (by omega) (by omega)
  dsimp only [m100]
  simp (maxSteps := 4000000) -implicitDefEqProofs -dsimp (disch := omega) only [↓AW_ops, ↓AW_seq, ↓AOps_nil, ↓AOps_pu, ↓AOps_call, on_some, ↓then_normal, pval, rd_S, put_S, List.replicate_succ, List.replicate_zero, List.set_cons_zero, List.set_cons_succ, List.getElem?_cons_zero, List.getElem?_cons_succ, Option.getD_some, map_c, map_n, Nat.reduceSub, List.cons_append, List.nil_append, lenA, hw]
  refine CallK.of hk ?_
  simp (maxSteps := 4000000) -implicitDefEqProofs -dsimp (disch := omega) only [↓AOps_call, extK_same, rd_S, rd_C, put_S, List.replicate_succ, List.replicate_zero, List.set_cons_zero, List.set_cons_succ, List.getElem?_cons_zero, List.getElem?_cons_succ, Option.getD_some, map_c, map_n, Nat.reduceSub, List.cons_append, List.nil_append]
  refine CallK.of (h110 k) ?_
  simp (maxSteps := 4000000) -implicitDefEqProofs -dsimp (disch := omega) only [↓AOps_nil, on_some, extK_same, ↓Fin_normal, resV, resL]
  exact gc_same rfl
/-- A list that the call has made is sorted in place. -/
theorem c_SortAcc {A H : AHeap} {v : AV} {xs : List Int} (h : AccL 1 e1 A H v xs) (hl : xs.length ≤ 12) : ∃ H', ACalls Try.prog 100 [v] H (.tuple []) H' ∧ A <+: H' ∧ L1 H' v (srt xs) ∧ AccL 1 e1 A H' v (srt xs) := by
  by_cases h0 : xs.length = 0
  · have hz : v = .nilS := by
      rcases h.2.2 with ⟨_, h4⟩ | ⟨h3, _⟩
      · exact h4
      · omega
    have hx : xs = [] := List.eq_nil_of_length_eq_zero h0
    subst hz
    subst hx
    have hs : srt [] = [] := by simp [srt]
    rw [hs]
    exact ⟨H, c_SortNil H, h.1, L1_nil _, h⟩
  · obtain ⟨n, ho, hv⟩ := AccL_ol h e1_len (by omega)
    have ho2 := OL_setAll ho (srt xs) (srt_len xs)
    refine ⟨_, c_Sort ho hl, ho2.pre, ho2.ls, ?_⟩
    have := ho2.acc (by rw [srt_len]; omega)
    rw [srt_len] at this
    rw [hv]
    exact this
section
variable {P : Nat} {rs : List Rd} {ks : List Int} {u v : AV} {A : AHeap}
theorem grw_snoc {R : Int → Rd} {L : List Int} {i : Nat} {k : Int} (h : L[i]? = some k) : grw R [] (L.take (i + 1)) = if Cn ((grw R [] (L.take i)).map R) (R k).1 (R k).2.1 then grw R [] (L.take i) else grw R [] (L.take i) ++ [k] := by
  rw [List.take_add_one, h]
  show grw R [] (L.take i ++ [k]) = _
  rw [grw_append]
  rfl
theorem grw_nos {L : List Int} (h : Nos rs L) : Nos rs (grw (rdx rs) [] L) := fun k hk => h k ((grw_sub L).subset hk)
theorem grw_small (hn : Net P rs) {L : List Int} (h : Nos rs L) : (grw (rdx rs) [] L).length + 1 ≤ P := by
  have h1 := grw_len (P := P) (h.inP hn)
  have := hn.p1
  have h2 := comps_pos (P := P) (S := L.map (rdx rs)) (by omega)
  omega
theorem Nos.take {L : List Int} (h : Nos rs L) (i : Nat) : Nos rs (L.take i) := fun k hk => h k (List.mem_of_mem_take hk)
set_option maxHeartbeats 8000000 in
theorem c_grow {L : List Int} (hu : L3 A u rs) (hx : L1 A v L) (hn : Net P rs) (hk : Nos rs L) (hl : L.length ≤ 1000000) : ∃ r H, ACalls Try.prog 61 [.agg [I P, u], v] A r H ∧ A <+: H ∧ L1 H r (srt (grw (rdx rs) [] L)) := by
  refine acallsR hmix Try.func61 (by kernel_rfl) t61 _ 2 rfl (by decide) ?_
  have hP7 := hn.p7
  dsimp only [m61]
  simp (maxSteps := 4000000) -implicitDefEqProofs -dsimp (disch := omega) only [↓AW_ops, ↓AW_seq, ↓AW_block, ↓AOps_nil, ↓AOps_pu, on_some, ↓then_normal, pval, rd_S, rd_C, put_S, ↓AW_toLoop, cells_agg, List.replicate_succ, List.replicate_zero, List.set_cons_zero, List.set_cons_succ, List.getElem?_cons_zero, List.getElem?_cons_succ, Option.getD_some, Nat.reduceSub, List.cons_append, List.nil_append, hx.len]
  refine LoopK.by 43 (fun x : Nat × AV × AHeap => x.1 ≤ L.length ∧ AccL 1 e1 A x.2.2 x.2.1 (grw (rdx rs) [] (L.take x.1))) (fun x => [(2, .agg [I P, u]), (5, x.2.1), (9, v), (10, I L.length), (11, I x.1)]) (fun x => x.2.2) (fun x => L.length - x.1) (0, .nilS, A) ⟨by simp only; omega, by rw [List.take_zero]; exact AccL.nil (List.prefix_refl _)⟩ rfl (by simp [Has, rd_s]) rfl ?_
  rintro ⟨i, y, H⟩ ⟨hi, hac⟩
  simp only at hi hac
  have hxH := hx.mono hac.1
  have huH := hu.mono hac.1
  by_cases hlt : i < L.length
  · obtain ⟨z, hz⟩ : ∃ z, L[i]? = some z := ⟨_, List.getElem?_eq_getElem hlt⟩
    have hlt' : (i : Int) < L.length := by omega
    obtain ⟨k0, k1⟩ := hk z (List.mem_of_getElem? hz)
    obtain ⟨hr, _⟩ := rdx_at k0 k1
    obtain ⟨⟨a0, a1⟩, ⟨b0, b1⟩⟩ := hn.inP k0 k1
    have hsm := grw_small hn (hk.take i)
    have hs := grw_snoc (R := rdx rs) hz
    have hgn := grw_nos (hk.take i)
    generalize hg : grw (rdx rs) [] (L.take i) = xs at *
    simp (maxSteps := 4000000) -implicitDefEqProofs -dsimp (disch := omega) only [↓AW_skip, ↓AW_ops, ↓AW_seq, ↓AW_cond, ↓AW_block, ↓AOps_nil, ↓AOps_pu, ↓AOps_ld, ↓AOps_call, on_some, condB_t, ↓then_normal, pval, lval_ld, rd_S, put_S, chkd, bgot, partA, eq_self, mk, List.foldl_cons, List.foldl_nil, List.replicate_succ, List.replicate_zero, List.set_cons_zero, List.set_cons_succ, List.getElem?_cons_zero, List.getElem?_cons_succ, List.drop_zero, List.take_succ_cons, List.take_nil, Option.getD_some, map_c, map_n, List.length_cons, List.length_nil, Nat.reduceAdd, Nat.reduceLeDiff, Nat.reduceEqDiff, Nat.zero_add, bin_lss, if_true, if_false, Bool.false_eq_true, decide_true, Go.Eng.e1, hlt', hxH.idx hlt, hxH.ld0 hz 1 false (by decide)]
    refine CallK.of (s99 huH (AccL_ls hac e1_len) hn hgn (by omega)) ?_
    have hpm := pre_app H [.mp (mI P (lab (xs.map (rdx rs))))]
    have hm := mp_new H (.mp (mI P (lab (xs.map (rdx rs)))))
    have hacm := hac.mono hpm
    have hum := huH.mono hpm
    generalize H ++ [AObj.mp (mI P (lab (xs.map (rdx rs))))] = H1 at *
    have hri := hum.idxI (k := .i64) k0 (show z < (rs.length : Int) by omega)
    have hla := lkI' hm a0 a1
    have hlb := lkI' hm b0 b1
    by_cases hc : Cn (xs.map (rdx rs)) (rdx rs z).1 (rdx rs z).2.1
    · have hq : lab (xs.map (rdx rs)) (rdx rs z).1 = lab (xs.map (rdx rs)) (rdx rs z).2.1 := (lab_eq_iff a0 b0).2 hc
      rw [if_pos hc] at hs
      simp (maxSteps := 4000000) -implicitDefEqProofs -dsimp (disch := omega) only [↓AW_skip, ↓AW_ops, ↓AW_seq, ↓AW_cond, ↓AOps_nil, ↓AOps_pu, ↓AOps_ld, on_some, extK_false, condB_f, ↓then_normal, ↓inBlock_normal, pval, lval_ld, lval_look, rd_S, rd_C, put_S, chkd, isAdr, bgot, cells_agg, partA, eq_self, mk, List.foldl_cons, List.foldl_nil, List.replicate_succ, List.replicate_zero, List.set_cons_zero, List.set_cons_succ, List.getElem?_cons_zero, List.getElem?_cons_succ, List.drop_zero, List.drop_succ_cons, List.take_zero, List.take_succ_cons, List.take_nil, Option.getD_some, List.length_cons, List.length_nil, Nat.reduceAdd, Nat.reduceLeDiff, Nat.zero_add, Nat.add_zero, bin_add, bin_neq, w64, if_true, if_false, Bool.false_eq_true, decide_false, true_and, not_true_eq_false, hri, hum.ld0 hr 1 false (by decide), hum.ld hr 1 1 false (by decide), e3, hla, hlb, hq]
      exact ⟨(i + 1, y, H1), ⟨hlt, by rw [hs]; exact hacm⟩, by simp [Has, rd_s], rfl, by simp only; omega⟩
    · have hq : ¬ lab (xs.map (rdx rs)) (rdx rs z).1 = lab (xs.map (rdx rs)) (rdx rs z).2.1 := fun e => hc ((lab_eq_iff a0 b0).1 e)
      rw [if_neg hc] at hs
      obtain ⟨v', H2, happ, hacc, _, n, len, rfl, _⟩ := AccL_push2 hacm e1_len (by omega) z (by simp only [lim]; omega)
      simp only [Go.Eng.e1] at happ
      simp (maxSteps := 4000000) -implicitDefEqProofs -dsimp (disch := omega) only [↓AW_ops, ↓AW_seq, ↓AW_cond, ↓AOps_nil, ↓AOps_pu, ↓AOps_ld, ↓AOps_ha, on_some, extK_false, extK_app, condB_t, ↓then_normal, ↓inBlock_normal, pval, lval_ld, lval_look, hval_blds, hval_app, rd_S, rd_C, put_S, chkd, isAdr, bgot, cells_agg, cells_int, splice, partA, fillA, repl, eq_self, mk, List.foldl_cons, List.foldl_nil, List.replicate_succ, List.replicate_zero, List.set_cons_zero, List.set_cons_succ, List.getElem?_cons_zero, List.getElem?_cons_succ, List.drop_zero, List.drop_succ_cons, List.drop_nil, List.take_zero, List.take_succ_cons, List.take_nil, Option.getD_some, map_c, map_n, List.length_cons, List.length_nil, Nat.reduceAdd, Nat.reduceLeDiff, Nat.zero_add, Nat.add_zero, List.nil_append, List.append_nil, bin_add, bin_neq, w64, if_true, if_false, Bool.false_eq_true, decide_true, true_and, and_true, not_false_eq_true, hri, hum.ld0 hr 1 false (by decide), hum.ld hr 1 1 false (by decide), e3, hla, hlb, hq, happ, List.replicate_zero, repl]
      exact ⟨(i + 1, .sl 1 n 0 len false, H2), ⟨hlt, by rw [hs]; exact hacc⟩, by simp [Has, rd_s], rfl, by simp only; omega⟩
  · have hlt' : ¬ ((i : Int) < L.length) := by omega
    rw [List.take_of_length_le (by omega)] at hac
    have hsm := grw_small hn hk
    obtain ⟨H', hcs, hp, hl1, _⟩ := c_SortAcc hac (by omega)
    simp (maxSteps := 4000000) -implicitDefEqProofs -dsimp (disch := omega) only [↓AW_ops, ↓AW_seq, ↓AW_cond, ↓AW_exit, ↓AOps_nil, ↓AOps_pu, ↓AOps_call, on_some, condB_f, ↓then_normal, ↓then_exit, ↓inBlock_exit, pval, rd_S, put_S, eq_self, mk, List.foldl_cons, List.foldl_nil, List.replicate_succ, List.replicate_zero, List.set_cons_zero, List.set_cons_succ, List.getElem?_cons_zero, List.getElem?_cons_succ, Option.getD_some, map_c, map_n, bin_lss, if_true, decide_false, hlt']
    refine CallK.of hcs ?_
    simp (maxSteps := 4000000) -implicitDefEqProofs -dsimp (disch := omega) only [↓AW_ops, ↓AW_seq, ↓AW_ret, ↓AOps_nil, ↓AOps_pu, on_some, extK_false, ↓then_normal, ↓FinR_ret, pval, rd_S, put_S, resV, resL, mk, List.foldl_cons, List.foldl_nil, List.replicate_succ, List.replicate_zero, List.set_cons_zero, List.set_cons_succ, List.getElem?_cons_zero, List.getElem?_cons_succ, Option.getD_some]
    exact ⟨_, _, gc_all, hp, hl1⟩
end
end Go.Proofs.Ytkgfcdpckfhknaa

namespace Go.Proofs.Ytkgfcdpckfhknaa
open Go Go.Eng
def bset (m s : Nat) : List Int := (plc m).filter (fun i => s.testBit i.toNat)
theorem bset_succ (m s : Nat) : bset (m + 1) s = bset m s ++ (if s.testBit m = true then [(m : Int)] else []) := filt_succ _ m
theorem plc_sorted : ∀ m : Nat, (plc m).Pairwise (· < ·)
  | 0 => List.Pairwise.nil
  | m + 1 => by
    rw [plc_succ, List.pairwise_append]
    refine ⟨plc_sorted m, List.pairwise_singleton _ _, fun a ha b hb => ?_⟩
    have h1 := (mem_plc.1 ha).2
    have h2 : b = (m : Int) := by simpa using hb
    omega
theorem bset_okS (m s : Nat) : okS m (bset m s) := by
  refine ⟨fun x hx => ?_, (plc_sorted m).filter _⟩
  have := mem_plc.1 (List.mem_filter.1 hx).1
  omega
theorem okS_split {m : Nat} {l : List Int} (h : okS ((m + 1 : Nat) : Int) l) : okS m l ∨ ∃ l', l = l' ++ [(m : Int)] ∧ okS m l' := by
  by_cases hm : (m : Int) ∈ l
  · right
    obtain ⟨a, b, rfl⟩ := List.append_of_mem hm
    have hp := List.pairwise_append.1 h.2
    have hb : b = [] := by
      cases b with
      | nil => rfl
      | cons y b =>
        have h1 := (List.pairwise_cons.1 hp.2.1).1 y (by simp)
        have h2 := h.1 y (by simp)
        omega
    subst hb
    refine ⟨a, rfl, fun x hx => ?_, hp.1⟩
    have h1 := hp.2.2 x hx m (by simp)
    have h2 := h.1 x (by simp [hx])
    omega
  · left
    refine ⟨fun x hx => ?_, h.2⟩
    have h2 := h.1 x hx
    have h3 : x ≠ (m : Int) := fun e => hm (e ▸ hx)
    omega
theorem bset_congr {m s t : Nat} (h : ∀ i, i < m → s.testBit i = t.testBit i) : bset m s = bset m t := by
  unfold bset
  refine List.filter_congr (fun x hx => ?_)
  have := mem_plc.1 hx
  rw [h x.toNat (by omega)]
theorem bset_ex : ∀ {m : Nat} {l : List Int}, okS m l → ∃ s, s < 2 ^ m ∧ bset m s = l
  | 0, l, h => by
    refine ⟨0, by simp, ?_⟩
    cases l with
    | nil => rfl
    | cons x l => have := h.1 x (by simp); omega
  | m + 1, l, h => by
    have e2 : 2 ^ (m + 1) = 2 ^ m + 2 ^ m := by rw [Nat.pow_succ]; omega
    rcases okS_split h with h1 | ⟨l', rfl, h1⟩
    · obtain ⟨s, hs, rfl⟩ := bset_ex h1
      refine ⟨s, by omega, ?_⟩
      rw [bset_succ, Nat.testBit_lt_two_pow hs]
      simp
    · obtain ⟨s, hs, rfl⟩ := bset_ex h1
      refine ⟨2 ^ m + s, by omega, ?_⟩
      rw [bset_succ, Nat.testBit_two_pow_add_eq, Nat.testBit_lt_two_pow hs, bset_congr (t := s) (fun i hi => Nat.testBit_two_pow_add_gt hi s)]
      simp
/-- How many bits of a number are 1. -/
def popc (n : Nat) : Nat := if h : n = 0 then 0 else n % 2 + popc (n / 2)
termination_by n
theorem popc_0 : popc 0 = 0 := by rw [popc]; simp
theorem popc_pos {n : Nat} (h : n ≠ 0) : popc n = n % 2 + popc (n / 2) := by rw [popc, dif_neg h]
theorem filter_len_map (f : Nat → Bool) (m : Nat) : ((plc m).filter (fun i => f i.toNat)).length = ((List.range m).filter f).length := by
  unfold plc
  rw [List.filter_map, List.length_map]
  rfl
theorem bset_len : ∀ (m s : Nat), s < 2 ^ m → (bset m s).length = popc s
  | 0, s, h => by
    have : s = 0 := by simpa using h
    subst this
    rw [popc_0]; rfl
  | m + 1, s, h => by
    have e2 : 2 ^ (m + 1) = 2 ^ m * 2 := Nat.pow_succ 2 m
    have ih := bset_len m (s / 2) (by omega)
    unfold bset at *
    rw [filter_len_map (fun i => (s / 2).testBit i)] at ih
    rw [filter_len_map (fun i => s.testBit i), List.range_succ_eq_map, List.filter_cons]
    have e3 : ((List.range m).map Nat.succ).filter (fun i => s.testBit i) = ((List.range m).filter (fun i => (s / 2).testBit i)).map Nat.succ := by
      rw [List.filter_map]
      congr 1
      refine List.filter_congr (fun i _ => ?_)
      exact Nat.testBit_succ s i
    by_cases h0 : s = 0
    · subst h0
      rw [e3]
      simp only [Nat.zero_testBit, Bool.false_eq_true, if_false, List.length_map]
      rw [popc_0]
      simp
    · rw [popc_pos h0, e3, ← ih, Nat.testBit_zero]
      by_cases h1 : s % 2 = 1
      · rw [if_pos (by simpa using h1)]
        simp only [List.length_cons, List.length_map]
        omega
      · rw [if_neg (by simpa using h1)]
        simp only [List.length_map]
        omega
def subs (m : Nat) : List (List Int) := (List.range (2 ^ m)).map (bset m)
/-- All trees of a net. -/
noncomputable def trees (P : Nat) (rs : List Rd) : List (List Int) := (subs rs.length).filter (fun l => decide (Tree P (rdx rs) l))
theorem mem_subs {m : Nat} {l : List Int} : l ∈ subs m ↔ okS m l := by
  unfold subs
  rw [List.mem_map]
  constructor
  · rintro ⟨s, _, rfl⟩; exact bset_okS m s
  · intro h
    obtain ⟨s, hs, rfl⟩ := bset_ex h
    exact ⟨s, List.mem_range.2 hs, rfl⟩
theorem mem_trees {P : Nat} {rs : List Rd} {l : List Int} : l ∈ trees P rs ↔ okS rs.length l ∧ Tree P (rdx rs) l := by
  unfold trees
  rw [List.mem_filter, mem_subs, decide_eq_true_eq]
section
variable {P : Nat} {rs : List Rd}
/-- One order of the roads. -/
def ordL (rs : List Rd) : List Int := (nums rs).mergeSort (fun a b => decide (wct rs a ≤ wct rs b))
theorem ordL_ord (rs : List Rd) : Ord rs (ordL rs) := by
  refine ⟨List.mergeSort_perm _ _, ?_⟩
  have := List.pairwise_mergeSort (le := fun a b : Int => decide (wct rs a ≤ wct rs b)) (fun a b c h k => by simp at *; omega) (fun a b => by simp; omega) (nums rs)
  exact this.imp (fun h => by simpa using h)
theorem okS_nos {l : List Int} (h : okS rs.length l) : Nos rs l := fun k hk => by have := h.1 k hk; omega
theorem srt_okS {l : List Int} (hn : l.Nodup) (h : Nos rs l) : okS rs.length (srt l) := by
  refine ⟨fun x hx => by have := h x ((srt_perm l).mem_iff.1 hx); omega, ?_⟩
  have h1 := srt_pw l
  have h2 : (srt l).Nodup := (srt_perm l).nodup_iff.2 hn
  rw [List.nodup_iff_pairwise_ne] at h2
  exact (h1.and h2).imp (fun hh => by have := hh.1; have := hh.2; omega)
theorem Ord.wb {L : List Int} (h : Ord rs L) (hn : Net P rs) : ∀ k ∈ L, 0 ≤ wct rs k ∧ wct rs k ≤ (99 : Nat) := fun k hk => hn.wb (h.nos k hk).1 (h.nos k hk).2
theorem comps_ord {L M : List Int} (h : ∀ k, k ∈ L ↔ k ∈ M) : comps P (L.map (rdx rs)) = comps P (M.map (rdx rs)) := comps_mem (fun e => by
  rw [List.mem_map, List.mem_map]
  constructor
  · rintro ⟨k, hk, rfl⟩; exact ⟨k, (h k).1 hk, rfl⟩
  · rintro ⟨k, hk, rfl⟩; exact ⟨k, (h k).2 hk, rfl⟩)
/-- All places can be joined. -/
def Jbl (P : Nat) (rs : List Rd) : Prop := comps P ((nums rs).map (rdx rs)) = 1
theorem jbl_of {L : List Int} (h : Ord rs L) : comps P (L.map (rdx rs)) = 1 ↔ Jbl P rs := by
  unfold Jbl
  rw [comps_ord (L := L) (M := nums rs) (fun k => by rw [h.mem, mem_plc]; omega)]
theorem jbl_grw {L : List Int} (hn : Net P rs) (h : Ord rs L) : Tree P (rdx rs) (srt (grw (rdx rs) [] L)) ↔ Jbl P rs := by
  have hP1 := hn.p1
  rw [← jbl_of h, ← grw_tree (h.nos.inP hn) (by omega)]
  exact ⟨fun k => k.perm (srt_perm _).symm, fun k => k.perm (srt_perm _)⟩
theorem jbl_trees (hn : Net P rs) : Jbl P rs ↔ trees P rs ≠ [] := by
  have h0 := ordL_ord rs
  constructor
  · intro h
    have hm : srt (grw (rdx rs) [] (ordL rs)) ∈ trees P rs := by
      rw [mem_trees]
      exact ⟨srt_okS (h0.nodup.sublist (grw_sub _)) (grw_nos h0.nos), (jbl_grw hn h0).2 h⟩
    intro e
    rw [e] at hm
    cases hm
  · intro h
    obtain ⟨T, hT⟩ := List.exists_mem_of_ne_nil _ h
    rw [mem_trees] at hT
    rw [← jbl_of h0]
    exact tree_all (fun k hk => h0.mem.2 (okS_nos hT.1 k hk)) hT.2
end
end Go.Proofs.Ytkgfcdpckfhknaa

namespace Go.Proofs.Ytkgfcdpckfhknaa
open Go Go.Eng
section
variable {P : Nat} {rs : List Rd} {a b : Int}
/-- Roads of a list up to a cost join two places. -/
def cnT (rs : List Rd) (M : List Int) (t a b : Int) : Prop := Cn ((upTo (wct rs) M t).map (rdx rs)) a b
theorem cnT_mono {M : List Int} {t s : Int} (h : t ≤ s) (hc : cnT rs M t a b) : cnT rs M s a b :=
  map_sub (fun k hk => by
    rw [mem_upTo] at hk ⊢
    exact ⟨hk.1, by omega⟩) hc
noncomputable instance cnTDec (rs : List Rd) (M : List Int) (t a b : Int) : Decidable (cnT rs M t a b) := Classical.propDecidable _
/-- The smallest cost up to which roads of a list join two places. -/
noncomputable def bt (rs : List Rd) (M : List Int) (a b : Int) : Option Int := if a = b then some 0 else ((List.range 100).find? (fun c : Nat => decide (cnT rs M (c : Int) a b))).map Int.ofNat
theorem find_first {f : Nat → Bool} {n c : Nat} (hc : c < n) (h : f c = true) (hn : ∀ j, j < c → f j = false) : (List.range n).find? f = some c := by
  rw [List.find?_eq_some_iff_getElem]
  refine ⟨h, c, by simpa using hc, by simp, fun j hj => ?_⟩
  rw [List.getElem_range, hn j hj]
  rfl
theorem bt_at {M : List Int} {c : Int} (hab : ¬ a = b) (c0 : 0 ≤ c) (c1 : c ≤ 99) (h : cnT rs M c a b) (hn : ¬ cnT rs M (c - 1) a b) : bt rs M a b = some c := by
  unfold bt
  rw [if_neg hab, find_first (c := c.toNat) (by omega) (by
    refine decide_eq_true ?_
    rw [Int.toNat_of_nonneg c0]
    exact h) (fun j hj => decide_eq_false (fun hh => hn (cnT_mono (by omega) hh)))]
  show some (Int.ofNat c.toNat) = _
  congr 1
  exact Int.toNat_of_nonneg c0
theorem bt_none {M : List Int} (hab : ¬ a = b) (h : ¬ cnT rs M 99 a b) : bt rs M a b = none := by
  unfold bt
  rw [if_neg hab, Option.map_eq_none_iff, List.find?_eq_none]
  intro j hj
  have := List.mem_range.1 hj
  simp only [decide_eq_true_eq]
  exact fun hh => h (cnT_mono (by omega) hh)
/-- What is found by taking one road after another. -/
def LS (rs : List Rd) (L : List Int) (a b c : Int) (ok : Bool) : Prop :=
  (a = b ∧ c = 0 ∧ ok = true) ∨ (¬ a = b ∧ ok = true ∧ ∃ (i : Nat) (k : Int), L[i]? = some k ∧ c = wct rs k ∧ Cn ((L.take (i + 1)).map (rdx rs)) a b ∧ ¬ Cn ((L.take i).map (rdx rs)) a b) ∨
  (¬ a = b ∧ ok = false ∧ c = 0 ∧ ¬ Cn (L.map (rdx rs)) a b)
theorem LS_bt {L M : List Int} {c : Int} {ok : Bool} (hs : L.Pairwise (fun x y => wct rs x ≤ wct rs y)) (hM : ∀ k, k ∈ L ↔ k ∈ M) (hb : ∀ k ∈ L, 0 ≤ wct rs k ∧ wct rs k ≤ 99) (h : LS rs L a b c ok) : bt rs M a b = (if ok = true then some c else none) ∧ (ok = false → c = 0) := by
  rcases h with ⟨h1, h2, h3⟩ | ⟨h1, h2, i, k, h3, h4, h5, h6⟩ | ⟨h1, h2, h3, h4⟩
  · subst h3; subst h2
    refine ⟨?_, fun e => by cases e⟩
    unfold bt
    rw [if_pos h1, if_pos rfl]
  · subst h2
    refine ⟨?_, fun e => by cases e⟩
    rw [if_pos rfl]
    have hkL := List.mem_of_getElem? h3
    have hkb := hb k hkL
    have hil := (List.getElem?_eq_some_iff.1 h3).1
    have hke := (List.getElem?_eq_some_iff.1 h3).2
    refine bt_at h1 (by omega) (by omega) (map_sub (fun x hx => ?_) h5) (fun hh => h6 (map_sub (fun x hx => ?_) hh))
    · rw [mem_upTo]
      refine ⟨(hM x).1 (List.mem_of_mem_take hx), ?_⟩
      obtain ⟨j, hj, hje⟩ := List.mem_iff_getElem.1 hx
      rw [List.length_take] at hj
      rw [List.getElem_take] at hje
      by_cases hji : j = i
      · subst hji
        rw [h4, ← hje, hke]
        exact Int.le_refl _
      · have := List.pairwise_iff_getElem.1 hs j i (by omega) hil (by omega)
        rw [hje, hke] at this
        omega
    · rw [mem_upTo] at hx
      obtain ⟨j, hj, hje⟩ := List.mem_iff_getElem.1 ((hM x).2 hx.1)
      have hji : j < i := by
        refine Classical.byContradiction (fun hn => ?_)
        by_cases he : i = j
        · subst he
          rw [hke] at hje
          rw [← hje] at hx
          omega
        · have := List.pairwise_iff_getElem.1 hs i j hil hj (by omega)
          rw [hje, hke] at this
          omega
      rw [List.mem_take_iff_getElem]
      exact ⟨j, by omega, hje⟩
  · subst h2; subst h3
    refine ⟨?_, fun _ => rfl⟩
    simp only [Bool.false_eq_true, if_false]
    refine bt_none h1 (fun hh => h4 (map_sub (fun x hx => ?_) hh))
    rw [mem_upTo] at hx
    exact (hM x).2 hx.1
end
end Go.Proofs.Ytkgfcdpckfhknaa

namespace Go.Proofs.Ytkgfcdpckfhknaa
open Go Go.Eng
theorem shl_one {k : IntKind} {m : Nat} (h : m ≤ 14) : binI .shl (I 1) (.int k (m : Int)) = some (I ((2 ^ m : Nat) : Int)) := by
  have hp : 2 ^ m ≤ 2 ^ 14 := Nat.pow_le_pow_right (by omega) h
  have hp2 : (2 : Nat) ^ 14 = 16384 := rfl
  have hc : ((2 ^ m : Nat) : Int) = (2 : Int) ^ m := Int.natCast_pow 2 m
  have hz : (0 : Int) ≤ ((2 ^ m : Nat) : Int) := Int.natCast_nonneg _
  show (if (m : Int) < 0 then none else some (AV.int .i64 (IntKind.i64.wrap (1 * 2 ^ (min (m : Int).toNat IntKind.i64.bits))))) = _
  rw [if_neg (by omega), Int.toNat_natCast, show IntKind.i64.bits = 64 from rfl, Nat.min_eq_left (by omega), Int.one_mul, ← hc, w64 _ (by omega) (by omega)]
theorem shr_by {k : IntKind} {s j : Nat} (h : j ≤ 14) : binI .shr (I s) (.int k (j : Int)) = some (I ((s / 2 ^ j : Nat) : Int)) := by
  have hc : ((2 ^ j : Nat) : Int) = (2 : Int) ^ j := Int.natCast_pow 2 j
  have hz : (0 : Int) ≤ ((2 ^ j : Nat) : Int) := Int.natCast_nonneg _
  show (if (j : Int) < 0 then none else some (AV.int .i64 ((s : Int).fdiv (2 ^ (min (j : Int).toNat IntKind.i64.bits))))) = _
  rw [if_neg (by omega), Int.toNat_natCast, show IntKind.i64.bits = 64 from rfl, Nat.min_eq_left (by omega), ← hc, Int.fdiv_eq_ediv_of_nonneg _ (by omega), ← Int.natCast_ediv]
theorem and_one {n : Nat} (h : n ≤ 16384) : binI .and (I n) (I 1) = some (I ((n % 2 : Nat) : Int)) := by
  have e1 : (BitVec.ofInt 64 ((n : Nat) : Int) &&& BitVec.ofInt 64 1).toNat = n % 2 := by
    have h1 : BitVec.ofInt 64 ((n : Nat) : Int) = BitVec.ofNat 64 n := BitVec.ofInt_natCast 64 n
    have h2 : BitVec.ofInt 64 (1 : Int) = BitVec.ofNat 64 1 := BitVec.ofInt_natCast 64 1
    rw [h1, h2, BitVec.toNat_and, BitVec.toNat_ofNat, BitVec.toNat_ofNat]
    have h3 : n % 2 ^ 64 = n := Nat.mod_eq_of_lt (by omega)
    have h4 : 1 % 2 ^ 64 = 1 := rfl
    rw [h3, h4, Nat.and_one_is_mod]
  show some (AV.int .i64 (IntKind.i64.wrap (((BitVec.ofInt 64 ((n : Nat) : Int) &&& BitVec.ofInt 64 1).toNat : Nat) : Int))) = _
  rw [e1, w64 _ (by omega) (by omega)]
theorem bit_eq (s j : Nat) : (((s / 2 ^ j) % 2 : Nat) : Int) = 1 ↔ s.testBit j = true := by
  rw [Nat.testBit_eq_decide_div_mod_eq, decide_eq_true_eq]
  omega
theorem Ls.pos {α : Type} {es : Nat} {e : α → List AV} {A : AHeap} {v : AV} {xs : List α} (h : Ls es e A v xs) (h0 : 0 < xs.length) : 0 < A.length := by
  rcases h.inv with ⟨_, rfl⟩ | ⟨n, off, full, rw, l, _, h1, _, _⟩
  · simp at h0
  · have := (List.getElem?_eq_some_iff.1 h1).1
    omega
section
variable {P : Nat} {rs : List Rd} {ks : List Int} {u v : AV} {A : AHeap}
theorem s104 {n : Nat} (hn : n ≤ 16384) : ACalls Try.prog 104 [I n] A (I (popc n)) A := by
  refine acalls hmix Try.func104 (by kernel_rfl) t104 1 rfl (by decide) ?_
  dsimp only [m104]
  simp (maxSteps := 4000000) -implicitDefEqProofs -dsimp (disch := omega) only [↓AW_ops, ↓AW_seq, ↓AW_block, ↓AOps_nil, ↓AOps_pu, on_some, ↓then_normal, pval, rd_C, put_S, ↓AW_toLoop, List.replicate_succ, List.replicate_zero, List.set_cons_zero, List.set_cons_succ, Nat.reduceSub, List.cons_append, List.nil_append]
  refine LoopK.by 13 (fun x : Nat × Nat => x.1 ≤ 16384 ∧ x.2 + x.1 ≤ 32768 ∧ x.2 + popc x.1 = popc n) (fun x => [(0, I x.1), (3, I x.2)]) (fun _ => A) (fun x => x.1) (n, 0) ⟨hn, by simp only; omega, by simp⟩ rfl (by simp [Has, rd_s]) rfl ?_
  rintro ⟨k, o⟩ ⟨hk, hko, he⟩
  simp only at hk hko he
  by_cases h0 : k = 0
  · subst h0
    rw [popc_0] at he
    simp (maxSteps := 4000000) -implicitDefEqProofs -dsimp (disch := omega) only [↓AW_ops, ↓AW_seq, ↓AW_cond, ↓AW_exit, ↓AW_ret, ↓AOps_nil, ↓AOps_pu, on_some, condB_f, ↓then_normal, ↓then_exit, ↓inBlock_exit, ↓Fin_ret, pval, rd_S, rd_C, put_S, resV, resL, eq_self, mk, List.foldl_cons, List.foldl_nil, List.replicate_succ, List.replicate_zero, List.set_cons_zero, List.set_cons_succ, List.getElem?_cons_zero, List.getElem?_cons_succ, Option.getD_some, bin_gtr, if_true, decide_false, Int.reduceLT, c0]
    exact gc_same (by rw [← he]; simp)
  · have h0' : (0 : Int) < (k : Int) := by omega
    have e1 : (k : Int).tmod 2 = ((k % 2 : Nat) : Int) := by rw [Int.tmod_eq_emod_of_nonneg (by omega)]; omega
    have e2 : (k : Int).tdiv 2 = ((k / 2 : Nat) : Int) := by rw [Int.tdiv_eq_ediv_of_nonneg (by omega)]; omega
    have e3 : (o : Int) + ((k % 2 : Nat) : Int) = ((o + k % 2 : Nat) : Int) := by omega
    simp (maxSteps := 4000000) -implicitDefEqProofs -dsimp (disch := omega) only [↓AW_skip, ↓AW_ops, ↓AW_seq, ↓AW_cond, ↓AW_block, ↓AOps_nil, ↓AOps_pu, on_some, condB_t, ↓then_normal, ↓inBlock_normal, pval, rd_S, rd_C, put_S, eq_self, mk, List.foldl_cons, List.foldl_nil, List.replicate_succ, List.replicate_zero, List.set_cons_zero, List.set_cons_succ, List.getElem?_cons_zero, List.getElem?_cons_succ, Option.getD_some, List.length_cons, List.length_nil, Nat.reduceAdd, Nat.zero_add, bin_add, bin_quo, bin_rem, bin_gtr, w64, if_false, decide_true, true_and, Int.reduceEq, h0', e1, e2, e3]
    rw [popc_pos h0] at he
    refine ⟨(k / 2, o + k % 2), ⟨by simp only; omega, by simp only; omega, by simp only; omega⟩, by simp [Has, rd_s], by simp only; omega⟩
/-- The bits up to a number of a set. -/
theorem bset_step (j s : Nat) : (s.testBit j = true → bset (j + 1) s = bset j s ++ [(j : Int)]) ∧ (s.testBit j = false → bset (j + 1) s = bset j s) := by
  constructor
  · intro h; rw [bset_succ, if_pos h]
  · intro h; rw [bset_succ, if_neg (by rw [h]; simp), List.append_nil]
theorem bset_le (j s : Nat) : (bset j s).length ≤ j := filt_len _ j
theorem bset_nos {j : Nat} (s : Nat) (h : j ≤ rs.length) : Nos rs (bset j s) := fun k hk => by have := (bset_okS j s).1 k hk; omega
/-- A list that the call has made, as a row. -/
theorem row_of {A1 H G : AHeap} {y z : AV} {ws : List (AV × List Int)} {xs : List Int} (hnl : NL A1 H y ws) (hac : AccL 1 e1 H G z xs) (hA1 : xs = [] ∨ 0 < A1.length) (hl : ws.length + 1 ≤ lim) : z.cells? = some [z] ∧
    ∃ v' H2, appA 1 (G ++ [.cells true [z]]) y (.sl 1 G.length 0 1 true) = some (v', H2) ∧ NL A1 H2 v' (ws ++ [(z, xs)]) := by
  rcases hac.2.2 with ⟨h3, h4⟩ | ⟨h3, n, h4, h5, h6⟩
  · have hx : xs = [] := List.eq_nil_of_length_eq_zero h3
    subst hx
    rw [h4]
    refine ⟨rfl, ?_⟩
    exact (hnl.mono hac.1).push (.nilS, []) (.inl ⟨rfl, rfl, trivial⟩) hl
  · have hpos : 0 < A1.length := by
      rcases hA1 with e | e
      · rw [e] at h3; simp at h3
      · exact e
    refine ⟨by rw [h4]; rfl, ?_⟩
    exact (hnl.mono hac.1).push (z, xs) (.inr ⟨n, false, [], h4, Nat.le_trans hnl.acc.1.length_le h5, by rw [List.append_nil]; exact h6, nm_ne_nil hnl h5 hpos, fun y hy => (hnl.lt.1 y hy).imp id (fun h => by omega)⟩) hl
set_option maxHeartbeats 8000000 in
theorem c_Trees (hu : L3 A u rs) (hn : Net P rs) : ∃ r H, ACalls Try.prog 65 [.agg [I P, u]] A r H ∧ A <+: H ∧ ∃ ws, NL A H r ws ∧ lists ws = trees P rs := by
  refine acallsR hmix Try.func65 (by kernel_rfl) t65 _ 1 rfl (by decide) ?_
  have hP7 := hn.p7
  have hP1 := hn.p1
  have hl14 := hn.l
  have hshl := shl_one (k := .u64) hl14
  have hw : ∀ j : Nat, j ≤ 14 → IntKind.u64.wrap (j : Int) = (j : Int) := fun j hj => wu64 (by omega) (by omega)
  have hwl := hw rs.length hl14
  have hpw : 2 ^ rs.length ≤ 2 ^ 14 := Nat.pow_le_pow_right (by omega) hl14
  have hp2 : (2 : Nat) ^ 14 = 16384 := rfl
  unfold trees subs
  generalize hN : 2 ^ rs.length = N at *
  dsimp only [m65]
  simp (maxSteps := 4000000) -implicitDefEqProofs -dsimp (disch := omega) only [↓AW_ops, ↓AW_seq, ↓AW_block, ↓AOps_nil, ↓AOps_pu, on_some, ↓then_normal, pval, rd_S, rd_C, put_S, ↓AW_toLoop, cells_agg, List.replicate_succ, List.replicate_zero, List.set_cons_zero, List.set_cons_succ, List.getElem?_cons_zero, Option.getD_some, Nat.reduceSub, List.cons_append, List.nil_append]
  refine LoopK.by 47 (fun x : Nat × AV × AHeap × List (AV × List Int) => x.1 ≤ N ∧ NL A x.2.2.1 x.2.1 x.2.2.2 ∧ lists x.2.2.2 = ((List.range x.1).map (bset rs.length)).filter (fun l => decide (Tree P (rdx rs) l)))
    (fun z => [(1, .agg [I P, u]), (3, z.2.1), (4, I z.1)]) (fun z => z.2.2.1) (fun z => N - z.1) (0, .nilS, A, []) ⟨by simp only; omega, NL.nil (List.prefix_refl _), rfl⟩ rfl (by simp [Has, rd_s]) rfl ?_
  rintro ⟨s, y, H, ws⟩ ⟨hs, hnl, hli⟩
  simp only at hs hnl hli
  have huH := hu.mono hnl.acc.1
  by_cases hlt : s < N
  · have hlt' : (s : Int) < (N : Int) := by omega
    have hlen := bset_len rs.length s (by rw [hN]; exact hlt)
    have next : ((List.range (s + 1)).map (bset rs.length)).filter (fun l => decide (Tree P (rdx rs) l)) = ((List.range s).map (bset rs.length)).filter (fun l => decide (Tree P (rdx rs) l)) ++ (if Tree P (rdx rs) (bset rs.length s) then [bset rs.length s] else []) := by
      rw [List.range_succ, List.map_append, List.filter_append]
      congr 1
      by_cases ht : Tree P (rdx rs) (bset rs.length s)
      · rw [if_pos ht]; simp [ht]
      · rw [if_neg ht]; simp [ht]
    simp (maxSteps := 4000000) -implicitDefEqProofs -dsimp (disch := omega) only [↓AW_skip, ↓AW_ops, ↓AW_seq, ↓AW_cond, ↓AW_block, ↓AOps_nil, ↓AOps_pu, ↓AOps_call, on_some, condB_t, ↓then_normal, pval, rd_S, rd_C, put_S, chkd, isAdr, bgot, cells_agg, partA, eq_self, mk, List.foldl_cons, List.foldl_nil, List.replicate_succ, List.replicate_zero, List.set_cons_zero, List.set_cons_succ, List.getElem?_cons_zero, List.getElem?_cons_succ, List.drop_zero, List.drop_succ_cons, List.take_succ_cons, List.take_nil, Option.getD_some, map_c, map_n, List.length_cons, List.length_nil, Nat.reduceAdd, Nat.reduceLeDiff, Nat.zero_add, bin_lss, if_true, if_false, Bool.false_eq_true, decide_true, hwl, hshl, hlt', huH.len]
    refine CallK.of (s104 (by omega)) ?_
    by_cases hb : (popc s : Int) = P - 1
    case neg =>
      simp (maxSteps := 4000000) -implicitDefEqProofs -dsimp (disch := omega) only [↓AW_ops, ↓AW_seq, ↓AW_cond, ↓AW_exit, ↓AW_ret, ↓AOps_nil, ↓AOps_pu, on_some, extK_same, condB_t, ↓then_normal, ↓then_exit, ↓inBlock_exit, ↓FinR_ret, pval, rd_S, rd_C, put_S, resV, resL, chkd, isAdr, bgot, cells_agg, partA, eq_self, mk, List.foldl_cons, List.foldl_nil, List.replicate_succ, List.replicate_zero, List.set_cons_zero, List.set_cons_succ, List.getElem?_cons_zero, List.getElem?_cons_succ, List.drop_zero, List.take_zero, List.take_succ_cons, Option.getD_some, List.length_cons, List.length_nil, Nat.reduceAdd, Nat.reduceLeDiff, Nat.zero_add, bin_add, bin_sub, bin_neq, w64, if_true, if_false, Bool.false_eq_true, decide_true, true_and, reduceCtorEq, not_false_eq_true, hb]
      refine ⟨(s + 1, y, H, ws), ⟨hlt, hnl, ?_⟩, by simp [Has, rd_s], rfl, by simp only; omega⟩
      rw [next, if_neg (fun ht => hb (by have := ht.1; omega)), List.append_nil]
      exact hli
    simp (maxSteps := 4000000) -implicitDefEqProofs -dsimp (disch := omega) only [↓AW_skip, ↓AW_ops, ↓AW_seq, ↓AW_cond, ↓AW_block, ↓AOps_nil, ↓AOps_pu, on_some, extK_same, condB_f, ↓then_normal, pval, rd_S, rd_C, put_S, ↓AW_toLoop, chkd, isAdr, bgot, cells_agg, partA, eq_self, mk, List.foldl_cons, List.foldl_nil, List.replicate_succ, List.replicate_zero, List.set_cons_zero, List.set_cons_succ, List.getElem?_cons_zero, List.getElem?_cons_succ, List.drop_zero, List.take_zero, List.take_succ_cons, Option.getD_some, List.length_cons, List.length_nil, Nat.reduceAdd, Nat.reduceLeDiff, Nat.zero_add, bin_sub, bin_neq, w64, if_true, if_false, Bool.false_eq_true, decide_false, not_true_eq_false, hb]
    refine LoopK.by 47 (fun x : Nat × AV × AHeap => x.1 ≤ rs.length ∧ AccL 1 e1 H x.2.2 x.2.1 (bset x.1 s)) (fun z => [(1, .agg [I P, u]), (3, y), (4, I s), (5, z.2.1), (6, I z.1)]) (fun z => z.2.2) (fun z => rs.length - z.1) (0, .nilS, H) ⟨by simp only; omega, AccL.nil (List.prefix_refl _)⟩ rfl (by simp [Has, rd_s]) rfl ?_
    rintro ⟨j, z, G⟩ ⟨hj, hac⟩
    simp only at hj hac
    have huG := huH.mono hac.1
    by_cases hjl : j < rs.length
    · have hjl' : (j : Int) < rs.length := by omega
      have hwj := hw j (by omega)
      have hshr := shr_by (k := .u64) (s := s) (j := j) (by omega)
      have hle : s / 2 ^ j ≤ 16384 := Nat.le_trans (Nat.div_le_self _ _) (by omega)
      have hand := and_one hle
      have hbit := bit_eq s j
      by_cases ht : s.testBit j = true
      · have hb1 := hbit.2 ht
        obtain ⟨v', H2, happ, hacc, _, n, len, rfl, _⟩ := AccL_push2 hac e1_len (by omega) (j : Int) (by have := bset_le j s; simp only [lim]; omega)
        simp only [Go.Eng.e1] at happ
        simp (maxSteps := 4000000) -implicitDefEqProofs -dsimp (disch := omega) only [↓AW_skip, ↓AW_ops, ↓AW_seq, ↓AW_cond, ↓AW_block, ↓AOps_nil, ↓AOps_pu, ↓AOps_ha, on_some, extK_false, extK_app, condB_t, ↓then_normal, ↓inBlock_normal, pval, hval_blds, hval_app, rd_S, rd_C, put_S, chkd, isAdr, bgot, cells_agg, cells_int, splice, partA, fillA, repl, eq_self, mk, List.foldl_cons, List.foldl_nil, List.replicate_succ, List.replicate_zero, List.set_cons_zero, List.set_cons_succ, List.getElem?_cons_zero, List.getElem?_cons_succ, List.drop_zero, List.drop_succ_cons, List.drop_nil, List.take_zero, List.take_succ_cons, List.take_nil, Option.getD_some, map_c, map_n, List.length_cons, List.length_nil, Nat.reduceAdd, Nat.reduceLeDiff, Nat.zero_add, List.nil_append, List.append_nil, bin_add, bin_eql, bin_lss, w64, if_true, if_false, Bool.false_eq_true, decide_true, true_and, and_true, hjl', huG.len, hwj, hshr, hand, hb1, happ, List.replicate_zero, repl]
        exact ⟨(j + 1, .sl 1 n 0 len false, H2), ⟨hjl, by rw [(bset_step j s).1 ht]; exact hacc⟩, by simp [Has, rd_s], rfl, by simp only; omega⟩
      · have hb1 : ¬ (((s / 2 ^ j) % 2 : Nat) : Int) = 1 := fun e => ht (hbit.1 e)
        simp (maxSteps := 4000000) -implicitDefEqProofs -dsimp (disch := omega) only [↓AW_skip, ↓AW_ops, ↓AW_seq, ↓AW_cond, ↓AW_block, ↓AOps_nil, ↓AOps_pu, on_some, condB_t, condB_f, ↓then_normal, ↓inBlock_normal, pval, rd_S, rd_C, put_S, chkd, isAdr, bgot, cells_agg, partA, eq_self, mk, List.foldl_cons, List.foldl_nil, List.replicate_succ, List.replicate_zero, List.set_cons_zero, List.set_cons_succ, List.getElem?_cons_zero, List.getElem?_cons_succ, List.drop_zero, List.drop_succ_cons, List.take_succ_cons, List.take_nil, Option.getD_some, List.length_cons, List.length_nil, Nat.reduceAdd, Nat.reduceLeDiff, Nat.zero_add, bin_add, bin_eql, bin_lss, w64, if_true, if_false, Bool.false_eq_true, decide_true, decide_false, true_and, hjl', huG.len, hwj, hshr, hand, hb1]
        exact ⟨(j + 1, z, G), ⟨hjl, by rw [(bset_step j s).2 (by simpa using ht)]; exact hac⟩, by simp [Has, rd_s], rfl, by simp only; omega⟩
    · have hjl' : ¬ (j : Int) < rs.length := by omega
      have hje : j = rs.length := by omega
      subst hje
      simp (maxSteps := 4000000) -implicitDefEqProofs -dsimp (disch := omega) only [↓AW_ops, ↓AW_seq, ↓AW_cond, ↓AW_exit, ↓AW_ret, ↓AOps_nil, ↓AOps_pu, ↓AOps_call, on_some, condB_f, ↓then_normal, ↓then_exit, ↓inBlock_exit, ↓FinR_ret, pval, rd_S, rd_C, put_S, resV, resL, chkd, isAdr, bgot, cells_agg, partA, eq_self, mk, List.foldl_cons, List.foldl_nil, List.replicate_succ, List.replicate_zero, List.set_cons_zero, List.set_cons_succ, List.getElem?_cons_zero, List.getElem?_cons_succ, List.drop_zero, List.drop_succ_cons, List.take_succ_cons, List.take_nil, Option.getD_some, map_c, map_n, List.length_cons, List.length_nil, Nat.reduceAdd, Nat.reduceLeDiff, Nat.reduceEqDiff, Nat.zero_add, bin_add, bin_lss, w64, if_true, if_false, Bool.false_eq_true, decide_false, true_and, reduceCtorEq, hjl', huG.len]
      refine CallK.of (s87 huG (AccL_ls hac e1_len) hn (bset_nos s (by omega)) (by have := bset_le rs.length s; omega)) ?_
      by_cases ht : Tree P (rdx rs) (bset rs.length s)
      · have hwl : ws.length ≤ N := by
          have := congrArg List.length hli
          have h2 := List.length_filter_le (fun l => decide (Tree P (rdx rs) l)) ((List.range s).map (bset rs.length))
          simp only [List.length_map, List.length_range] at this h2
          omega
        have hA : bset rs.length s = [] ∨ 0 < A.length := by
          by_cases h0 : rs.length = 0
          · left
            refine List.eq_nil_of_length_eq_zero ?_
            have := bset_le rs.length s
            omega
          · exact .inr (Ls.pos hu (by omega))
        obtain ⟨hzc, v3, H4, happ, h3⟩ := row_of hnl hac hA (by simp only [lim]; omega)
        have hv3c : v3.cells? = some [v3] := Ls_cells (AccL_ls h3.acc e0_len)
        simp (maxSteps := 4000000) -implicitDefEqProofs -dsimp (disch := omega) only [↓AW_ops, ↓AW_cond, ↓AOps_nil, ↓AOps_pu, ↓AOps_ha, on_some, extK_false, extK_app, extK_same, condB_t, ↓then_normal, ↓inBlock_normal, pval, hval_blds, hval_app, rd_S, rd_C, put_S, splice, fillA, repl, eq_self, mk, List.foldl_cons, List.foldl_nil, List.replicate_succ, List.replicate_zero, List.set_cons_zero, List.set_cons_succ, List.getElem?_cons_zero, List.getElem?_cons_succ, List.drop_succ_cons, List.drop_nil, List.take_zero, Option.getD_some, map_c, map_n, List.length_cons, List.length_nil, Nat.reduceAdd, Nat.reduceLeDiff, Nat.zero_add, List.nil_append, List.append_nil, bin_add, w64, if_true, decide_true, true_and, and_true, ht, hzc, happ, List.replicate_zero, repl]
        refine ⟨(s + 1, v3, H4, ws ++ [(z, bset rs.length s)]), ⟨hlt, h3, ?_⟩, by simp [Has, rd_s], rfl, by simp only; omega⟩
        rw [next, if_pos ht, ← hli]
        simp [lists]
      · simp (maxSteps := 4000000) -implicitDefEqProofs -dsimp (disch := omega) only [↓AW_skip, ↓AW_ops, ↓AW_cond, ↓AOps_nil, ↓AOps_pu, on_some, extK_same, condB_f, ↓then_normal, ↓inBlock_normal, pval, rd_S, rd_C, put_S, eq_self, mk, List.foldl_cons, List.foldl_nil, List.replicate_succ, List.replicate_zero, List.set_cons_zero, List.set_cons_succ, List.getElem?_cons_zero, List.getElem?_cons_succ, Option.getD_some, List.length_cons, List.length_nil, Nat.reduceAdd, Nat.zero_add, bin_add, w64, decide_false, true_and, ht]
        refine ⟨(s + 1, y, G, ws), ⟨hlt, hnl.mono hac.1, ?_⟩, by simp [Has, rd_s], rfl, by simp only; omega⟩
        rw [next, if_neg ht, List.append_nil]
        exact hli
  · have hlt' : ¬ (s : Int) < (N : Int) := by omega
    have hse : s = N := by omega
    subst hse
    simp (maxSteps := 4000000) -implicitDefEqProofs -dsimp (disch := omega) only [↓AW_ops, ↓AW_seq, ↓AW_cond, ↓AW_exit, ↓AW_ret, ↓AOps_nil, ↓AOps_pu, on_some, condB_f, ↓then_normal, ↓then_exit, ↓inBlock_exit, ↓FinR_ret, pval, rd_S, rd_C, put_S, resV, resL, chkd, isAdr, bgot, cells_agg, partA, eq_self, mk, List.foldl_cons, List.foldl_nil, List.replicate_succ, List.replicate_zero, List.set_cons_zero, List.set_cons_succ, List.getElem?_cons_zero, List.getElem?_cons_succ, List.drop_zero, List.drop_succ_cons, List.take_succ_cons, List.take_nil, Option.getD_some, List.length_cons, List.length_nil, Nat.reduceAdd, Nat.reduceLeDiff, Nat.zero_add, bin_lss, if_true, if_false, Bool.false_eq_true, decide_false, hwl, hshl, hlt', huH.len]
    exact ⟨_, _, gc_all, hnl.acc.1, ws, hnl, hli⟩
end
section
variable {Q : Int} {rs : List Rd} {u : AV} {A : AHeap}
end
end Go.Proofs.Ytkgfcdpckfhknaa

namespace Go.Proofs.Ytkgfcdpckfhknaa
open Go Go.Eng
/-- Rows of another list, put together anew. -/
structure Sel (A H : AHeap) (v : AV) (ws : List (AV × List Int)) : Prop where
  acc : AccL 1 e0 A H v ws
  inn : ∀ x ∈ ws, L1 A x.1 x.2
theorem Sel.ll {A H : AHeap} {v : AV} {ws : List (AV × List Int)} (h : Sel A H v ws) : LL H v ws := ⟨AccL_ls h.acc e0_len, fun x hx => (h.inn x hx).mono h.acc.1⟩
theorem Sel.nil {A H : AHeap} (h : A <+: H) : Sel A H .nilS [] := ⟨AccL.nil h, by simp⟩
theorem Sel.push {A H : AHeap} {v : AV} {ws : List (AV × List Int)} (h : Sel A H v ws) {x : AV × List Int} (hx : L1 A x.1 x.2) (hl : ws.length + 1 ≤ lim) :
    ∃ v' H2, appA 1 (H ++ [.cells true [x.1]]) v (.sl 1 H.length 0 1 true) = some (v', H2) ∧ Sel A H2 v' (ws ++ [x]) ∧ v'.cells? = some [v'] := by
  obtain ⟨v', H2, happ, hacc⟩ := h.acc.push e0_len x hl
  refine ⟨v', H2, happ, ⟨hacc, fun y hy => ?_⟩, Ls_cells (AccL_ls hacc e0_len)⟩
  rcases List.mem_append.1 hy with hy | hy
  · exact h.inn y hy
  · have : y = x := by simpa using hy
    rw [this]; exact hx
section
variable {P : Nat} {rs : List Rd} {ks : List Int} {u v : AV} {A : AHeap}
noncomputable instance jblDec (P : Nat) (rs : List Rd) : Decidable (Jbl P rs) := by unfold Jbl; infer_instance
end
section
variable {Q : Int} {rs : List Rd} {ks : List Int} {u v : AV} {A : AHeap}
end
section
variable {P : Nat} {rs : List Rd} {ks : List Int} {u v : AV} {A : AHeap}
end
end Go.Proofs.Ytkgfcdpckfhknaa

namespace Go.Proofs.Ytkgfcdpckfhknaa
open Go Go.Eng
section
variable {P : Nat} {rs : List Rd} {ks : List Int} {u v : AV} {A : AHeap}
set_option maxHeartbeats 8000000 in
theorem c_least {L : List Int} (hu : L3 A u rs) (hx : L1 A v L) (hn : Net P rs) (hk : Nos rs L) (hl : L.length ≤ 1000000) {a b : Int} (ha : 0 ≤ a ∧ a < P) (hb : 0 ≤ b ∧ b < P) : ∃ c ok, ACalls Try.prog 62 [.agg [I P, u], v, I a, I b] A (.tuple [I c, B ok]) A ∧ LS rs L a b c ok := by
  have key : ∃ r H', ACalls Try.prog 62 [.agg [I P, u], v, I a, I b] A r H' ∧ ∃ c ok, r = .tuple [I c, B ok] ∧ H' = A ∧ LS rs L a b c ok := by
    refine acallsR hmix Try.func62 (by kernel_rfl) t62 _ 4 rfl (by decide) ?_
    have hP7 := hn.p7
    by_cases hab : a = b
    · subst hab
      dsimp only [m62]
      simp (maxSteps := 4000000) -implicitDefEqProofs -dsimp (disch := omega) only [↓AW_ops, ↓AW_seq, ↓AW_cond, ↓AW_ret, ↓AOps_nil, ↓AOps_pu, on_some, condB_t, ↓then_normal, ↓then_ret, ↓FinR_ret, pval, rd_S, rd_C, put_S, resV, resL, cells_agg, eq_self, List.replicate_succ, List.replicate_zero, List.set_cons_zero, List.set_cons_succ, List.getElem?_cons_zero, List.getElem?_cons_succ, Option.getD_some, Nat.reduceSub, List.cons_append, List.nil_append, bin_eql, decide_true]
      exact ⟨_, _, gc_all, 0, true, rfl, rfl, .inl ⟨rfl, rfl, rfl⟩⟩
    dsimp only [m62]
    simp (maxSteps := 4000000) -implicitDefEqProofs -dsimp (disch := omega) only [↓AW_skip, ↓AW_ops, ↓AW_seq, ↓AW_cond, ↓AW_block, ↓AOps_nil, ↓AOps_pu, on_some, condB_f, ↓then_normal, pval, rd_S, rd_C, put_S, ↓AW_toLoop, cells_agg, List.replicate_succ, List.replicate_zero, List.set_cons_zero, List.set_cons_succ, List.getElem?_cons_zero, List.getElem?_cons_succ, Option.getD_some, Nat.reduceSub, List.cons_append, List.nil_append, bin_eql, decide_false, hab, hx.len]
    refine LoopK.by 44 (fun x : Nat × AV × AHeap => x.1 ≤ L.length ∧ AccL 1 e1 A x.2.2 x.2.1 (L.take x.1) ∧ ¬ Cn ((L.take x.1).map (rdx rs)) a b) (fun x => [(2, I a), (3, I b), (4, .agg [I P, u]), (10, x.2.1), (17, v), (18, I L.length), (19, I x.1)]) (fun x => x.2.2) (fun x => L.length - x.1) (0, .nilS, A) ⟨by simp only; omega, by rw [List.take_zero]; exact AccL.nil (List.prefix_refl _), by rw [List.take_zero]; exact fun h => hab h.nil⟩ rfl (by simp [Has, rd_s]) rfl ?_
    rintro ⟨i, y, H⟩ ⟨hi, hac, hnc⟩
    simp only at hi hac hnc
    have hxH := hx.mono hac.1
    by_cases hlt : i < L.length
    · obtain ⟨z, hz⟩ : ∃ z, L[i]? = some z := ⟨_, List.getElem?_eq_getElem hlt⟩
      have hlt' : (i : Int) < L.length := by omega
      obtain ⟨k0, k1⟩ := hk z (List.mem_of_getElem? hz)
      obtain ⟨hr, _⟩ := rdx_at k0 k1
      have htk : L.take (i + 1) = L.take i ++ [z] := by rw [List.take_add_one, hz]; rfl
      obtain ⟨v', H2, happ, hacc, _, n, len, rfl, _⟩ := AccL_push2 hac e1_len (by omega) z (by rw [List.length_take]; simp only [lim]; omega)
      rw [← htk] at hacc
      simp only [Go.Eng.e1] at happ
      simp (maxSteps := 4000000) -implicitDefEqProofs -dsimp (disch := omega) only [↓AW_skip, ↓AW_ops, ↓AW_seq, ↓AW_cond, ↓AW_block, ↓AOps_nil, ↓AOps_pu, ↓AOps_ld, ↓AOps_ha, ↓AOps_call, on_some, extK_false, extK_app, condB_t, ↓then_normal, pval, lval_ld, hval_blds, hval_app, rd_S, put_S, chkd, bgot, cells_int, splice, partA, fillA, repl, eq_self, mk, List.foldl_cons, List.foldl_nil, List.replicate_succ, List.replicate_zero, List.set_cons_zero, List.set_cons_succ, List.getElem?_cons_zero, List.getElem?_cons_succ, List.drop_zero, List.drop_succ_cons, List.drop_nil, List.take_zero, List.take_succ_cons, List.take_nil, Option.getD_some, map_c, map_n, List.length_cons, List.length_nil, Nat.reduceAdd, Nat.reduceLeDiff, Nat.reduceEqDiff, Nat.zero_add, List.nil_append, List.append_nil, bin_lss, if_true, if_false, Bool.false_eq_true, decide_true, Go.Eng.e1, and_true, hlt', hxH.idx hlt, hxH.ld0 hz 1 false (by decide), happ, List.replicate_zero, repl]
      refine CallK.of (s99 (hu.mono hacc.1) (AccL_ls hacc e1_len) hn (fun k hk2 => hk k (List.mem_of_mem_take hk2)) (by rw [List.length_take]; omega)) ?_
      have hpm := pre_app H2 [.mp (mI P (lab ((L.take (i + 1)).map (rdx rs))))]
      have hm := mp_new H2 (.mp (mI P (lab ((L.take (i + 1)).map (rdx rs)))))
      have hacm := hacc.mono hpm
      have hum := hu.mono hacm.1
      have hpA := hacm.1
      generalize H2 ++ [AObj.mp (mI P (lab ((L.take (i + 1)).map (rdx rs))))] = H3 at *
      have hri := hum.idxI (k := .i64) k0 (show z < (rs.length : Int) by omega)
      have hla := lkI' hm ha.1 ha.2
      have hlb := lkI' hm hb.1 hb.2
      by_cases hc : Cn ((L.take (i + 1)).map (rdx rs)) a b
      · have hq : lab ((L.take (i + 1)).map (rdx rs)) a = lab ((L.take (i + 1)).map (rdx rs)) b := (lab_eq_iff ha.1 hb.1).2 hc
        have hwe : (rdx rs z).2.2 = wct rs z := rfl
        simp (maxSteps := 4000000) -implicitDefEqProofs -dsimp (disch := omega) only [↓AW_ops, ↓AW_seq, ↓AW_cond, ↓AW_ret, ↓AOps_nil, ↓AOps_pu, ↓AOps_ld, on_some, extK_false, condB_t, ↓then_normal, ↓then_ret, ↓inBlock_ret, ↓FinR_ret, pval, lval_ld, lval_look, rd_S, rd_C, put_S, resV, resL, chkd, isAdr, bgot, cells_agg, partA, eq_self, mk, List.foldl_cons, List.foldl_nil, List.replicate_succ, List.replicate_zero, List.set_cons_zero, List.set_cons_succ, List.getElem?_cons_zero, List.getElem?_cons_succ, List.drop_zero, List.drop_succ_cons, List.take_succ_cons, List.take_nil, Option.getD_some, List.length_cons, List.length_nil, Nat.reduceAdd, Nat.reduceLeDiff, Nat.zero_add, bin_eql, if_true, if_false, Bool.false_eq_true, decide_true, hla, hlb, hq, hri, hum.ld hr 1 2 false (by decide), e3, hwe]
        exact ⟨_, _, gc_val hpA rfl, wct rs z, true, rfl, rfl, .inr (.inl ⟨hab, rfl, i, z, hz, rfl, hc, hnc⟩)⟩
      · have hq : ¬ lab ((L.take (i + 1)).map (rdx rs)) a = lab ((L.take (i + 1)).map (rdx rs)) b := fun e => hc ((lab_eq_iff ha.1 hb.1).1 e)
        simp (maxSteps := 4000000) -implicitDefEqProofs -dsimp (disch := omega) only [↓AW_skip, ↓AW_ops, ↓AW_seq, ↓AW_cond, ↓AOps_nil, ↓AOps_pu, ↓AOps_ld, on_some, extK_false, condB_f, ↓then_normal, ↓inBlock_normal, pval, lval_look, rd_S, rd_C, put_S, eq_self, mk, List.foldl_cons, List.foldl_nil, List.replicate_succ, List.replicate_zero, List.set_cons_zero, List.set_cons_succ, List.getElem?_cons_zero, List.getElem?_cons_succ, Option.getD_some, List.length_cons, List.length_nil, Nat.reduceAdd, Nat.zero_add, bin_add, bin_eql, w64, decide_false, true_and, hla, hlb, hq]
        exact ⟨(i + 1, .sl 1 n 0 len false, H3), ⟨hlt, hacm, hc⟩, by simp [Has, rd_s], rfl, by simp only; omega⟩
    · have hlt' : ¬ ((i : Int) < L.length) := by omega
      rw [List.take_of_length_le (by omega)] at hnc
      simp (maxSteps := 4000000) -implicitDefEqProofs -dsimp (disch := omega) only [↓AW_ops, ↓AW_seq, ↓AW_cond, ↓AW_exit, ↓AW_ret, ↓AOps_nil, ↓AOps_pu, on_some, condB_f, ↓then_normal, ↓then_exit, ↓inBlock_exit, ↓FinR_ret, pval, rd_S, rd_C, put_S, resV, resL, eq_self, mk, List.foldl_cons, List.foldl_nil, List.replicate_succ, List.replicate_zero, List.set_cons_zero, List.set_cons_succ, List.getElem?_cons_zero, List.getElem?_cons_succ, Option.getD_some, bin_lss, if_true, decide_false, hlt']
      exact ⟨_, _, gc_val hac.1 rfl, 0, false, rfl, rfl, .inr (.inr ⟨hab, rfl, rfl, hnc⟩)⟩
  obtain ⟨r, H', h1, c, ok, rfl, rfl, h2⟩ := key
  exact ⟨c, ok, h1, h2⟩
/-- The roads whose cost is at most so much, but one. -/
def chB (rs : List Rd) (c k : Int) : List Int := (nums rs).filter (fun i => decide (¬ i = k ∧ wct rs i ≤ c))
theorem c_cheap (hu : L3 A u rs) (hn : Net P rs) (c k : Int) : ∃ r H, ACalls Try.prog 67 [.agg [I P, u], I c, I k] A r H ∧ A <+: H ∧ L1 H r (chB rs c k) := by
  refine acallsR hmix Try.func67 (by kernel_rfl) t67 _ 3 rfl (by decide) ?_
  have hl14 := hn.l
  dsimp only [m67]
  simp (maxSteps := 4000000) -implicitDefEqProofs -dsimp (disch := omega) only [↓AW_ops, ↓AW_seq, ↓AW_block, ↓AOps_nil, ↓AOps_pu, on_some, ↓then_normal, pval, rd_S, rd_C, put_S, ↓AW_toLoop, cells_agg, List.replicate_succ, List.replicate_zero, List.set_cons_zero, List.set_cons_succ, List.getElem?_cons_zero, Option.getD_some, Nat.reduceSub, List.cons_append, List.nil_append]
  refine LoopK.by 34 (fun x : Nat × AV × AHeap => x.1 ≤ rs.length ∧ AccL 1 e1 A x.2.2 x.2.1 ((plc x.1).filter (fun i => decide (¬ i = k ∧ wct rs i ≤ c)))) (fun x => [(1, I c), (2, I k), (3, .agg [I P, u]), (7, x.2.1), (8, I x.1)]) (fun x => x.2.2) (fun x => rs.length - x.1) (0, .nilS, A) ⟨by simp only; omega, AccL.nil (List.prefix_refl _)⟩ rfl (by simp [Has, rd_s]) rfl ?_
  rintro ⟨i, y, H⟩ ⟨hi, hac⟩
  simp only at hi hac
  have huH := hu.mono hac.1
  by_cases hlt : i < rs.length
  · have hlt' : (i : Int) < rs.length := by omega
    obtain ⟨hr, _⟩ := rdx_at (rs := rs) (k := (i : Int)) (by omega) (by omega)
    rw [Int.toNat_natCast] at hr
    have hwe : (rdx rs (i : Int)).2.2 = wct rs (i : Int) := rfl
    have hfl := filt_len (fun i => decide (¬ i = k ∧ wct rs i ≤ c)) i
    by_cases h1 : (i : Int) = k
    · subst h1
      simp (maxSteps := 4000000) -implicitDefEqProofs -dsimp (disch := omega) only [↓AW_skip, ↓AW_ops, ↓AW_seq, ↓AW_cond, ↓AW_block, ↓AOps_nil, ↓AOps_pu, ↓AOps_guard, on_some, guardB_ft, skipS_some, condB_t, condB_f, ↓then_normal, ↓inBlock_normal, pval, rd_S, rd_C, put_S, chkd, isAdr, bgot, cells_agg, partA, eq_self, mk, List.foldl_cons, List.foldl_nil, List.replicate_succ, List.replicate_zero, List.set_cons_zero, List.set_cons_succ, List.getElem?_cons_zero, List.getElem?_cons_succ, List.drop_zero, List.drop_succ_cons, List.take_succ_cons, List.take_nil, Option.getD_some, List.length_cons, List.length_nil, Nat.reduceAdd, Nat.reduceLeDiff, Nat.zero_add, bin_add, bin_neq, bin_lss, w64, if_true, if_false, Bool.false_eq_true, decide_true, decide_false, true_and, not_true_eq_false, hlt', huH.len]
      refine ⟨(i + 1, y, H), ⟨hlt, ?_⟩, by simp [Has, rd_s], rfl, by simp only; omega⟩
      simp only
      rw [filt_succ, if_neg (by simp), List.append_nil]
      exact hac
    · by_cases h2 : wct rs (i : Int) ≤ c
      · obtain ⟨v', H2, happ, hacc, _, n, len, rfl, _⟩ := AccL_push2 hac e1_len (by omega) (i : Int) (by simp only [lim]; omega)
        simp only [Go.Eng.e1] at happ
        simp (maxSteps := 4000000) -implicitDefEqProofs -dsimp (disch := omega) only [↓AW_skip, ↓AW_ops, ↓AW_seq, ↓AW_cond, ↓AW_block, ↓AOps_nil, ↓AOps_pu, ↓AOps_ld, ↓AOps_ha, ↓AOps_guard, on_some, extK_false, extK_app, guardB_tt, condB_t, ↓then_normal, ↓inBlock_normal, pval, lval, hval_blds, hval_app, rd_S, rd_C, put_S, chkd, isAdr, bgot, cells_agg, cells_int, splice, partA, fillA, repl, eq_self, mk, List.foldl_cons, List.foldl_nil, List.replicate_succ, List.replicate_zero, List.set_cons_zero, List.set_cons_succ, List.getElem?_cons_zero, List.getElem?_cons_succ, List.drop_zero, List.drop_succ_cons, List.drop_nil, List.take_zero, List.take_succ_cons, List.take_nil, Option.getD_some, map_c, map_n, List.length_cons, List.length_nil, Nat.reduceAdd, Nat.reduceLeDiff, Nat.zero_add, List.nil_append, List.append_nil, bin_add, bin_neq, bin_lss, bin_leq, w64, if_true, if_false, Bool.false_eq_true, decide_true, true_and, and_true, not_false_eq_true, hlt', huH.len, h1, huH.idx hlt, huH.ld hr 1 2 false (by decide), e3, hwe, h2, happ, List.replicate_zero, repl]
        refine ⟨(i + 1, .sl 1 n 0 len false, H2), ⟨hlt, ?_⟩, by simp [Has, rd_s], rfl, by simp only; omega⟩
        simp only
        rw [filt_succ, if_pos (by simp [h1, h2])]
        exact hacc
      · simp (maxSteps := 4000000) -implicitDefEqProofs -dsimp (disch := omega) only [↓AW_skip, ↓AW_ops, ↓AW_seq, ↓AW_cond, ↓AW_block, ↓AOps_nil, ↓AOps_pu, ↓AOps_ld, ↓AOps_guard, on_some, guardB_tt, condB_t, condB_f, ↓then_normal, ↓inBlock_normal, pval, lval, rd_S, rd_C, put_S, chkd, isAdr, bgot, cells_agg, partA, eq_self, mk, List.foldl_cons, List.foldl_nil, List.replicate_succ, List.replicate_zero, List.set_cons_zero, List.set_cons_succ, List.getElem?_cons_zero, List.getElem?_cons_succ, List.drop_zero, List.drop_succ_cons, List.take_succ_cons, List.take_nil, Option.getD_some, List.length_cons, List.length_nil, Nat.reduceAdd, Nat.reduceLeDiff, Nat.zero_add, bin_add, bin_neq, bin_lss, bin_leq, w64, if_true, if_false, Bool.false_eq_true, decide_true, decide_false, true_and, not_false_eq_true, hlt', huH.len, h1, huH.idx hlt, huH.ld hr 1 2 false (by decide), e3, hwe, h2]
        refine ⟨(i + 1, y, H), ⟨hlt, ?_⟩, by simp [Has, rd_s], rfl, by simp only; omega⟩
        simp only
        rw [filt_succ, if_neg (by simp [h1, h2]), List.append_nil]
        exact hac
  · have hlt' : ¬ (i : Int) < rs.length := by omega
    have hie : i = rs.length := by omega
    subst hie
    simp (maxSteps := 4000000) -implicitDefEqProofs -dsimp (disch := omega) only [↓AW_ops, ↓AW_seq, ↓AW_cond, ↓AW_exit, ↓AW_ret, ↓AOps_nil, ↓AOps_pu, on_some, condB_f, ↓then_normal, ↓then_exit, ↓inBlock_exit, ↓FinR_ret, pval, rd_S, put_S, resV, resL, chkd, isAdr, bgot, cells_agg, partA, eq_self, mk, List.foldl_cons, List.foldl_nil, List.replicate_succ, List.replicate_zero, List.set_cons_zero, List.set_cons_succ, List.getElem?_cons_zero, List.getElem?_cons_succ, List.drop_zero, List.drop_succ_cons, List.take_succ_cons, List.take_nil, Option.getD_some, List.length_cons, List.length_nil, Nat.reduceAdd, Nat.reduceLeDiff, Nat.zero_add, bin_lss, if_true, if_false, Bool.false_eq_true, decide_false, hlt', huH.len]
    exact ⟨_, _, gc_all, hac.1, AccL_ls hac e1_len⟩
theorem chB_nos (c k : Int) : Nos rs (chB rs c k) := fun i hi => by
  have := mem_plc.1 (List.mem_filter.1 hi).1
  omega
theorem chB_cn {c k a b : Int} : Cn ((chB rs c k).map (rdx rs)) a b ↔ cnT rs ((nums rs).filter (fun i => decide (¬ i = k))) c a b := by
  unfold cnT
  refine ⟨map_sub (fun i hi => ?_), map_sub (fun i hi => ?_)⟩
  · rw [mem_upTo, List.mem_filter]
    have := List.mem_filter.1 hi
    simp only [decide_eq_true_eq] at this ⊢
    exact ⟨⟨this.1, this.2.1⟩, this.2.2⟩
  · rw [mem_upTo, List.mem_filter] at hi
    unfold chB
    rw [List.mem_filter]
    simp only [decide_eq_true_eq] at hi ⊢
    exact ⟨hi.1.1, hi.1.2, hi.2⟩
end
section
variable {Q : Int} {rs : List Rd} {ks : List Int} {u v : AV} {A : AHeap} {a b : Int}
theorem L1_two (A : AHeap) (x y : Int) : L1 (A ++ [.cells true [I x, I y]]) (.sl 1 A.length 0 2 true) [x, y] := ⟨e1_len, by simp [slCells, cellsAt, e1]⟩
end
end Go.Proofs.Ytkgfcdpckfhknaa

namespace Go.Proofs.Ytkgfcdpckfhknaa
open Go Go.Eng
/-- selion/selionlaw04.RoadRanges [] -/
def m3 : MFun := ⟨44, [2], [.mov (.s 4)],
 .seq (.ops [⟨(some 2), some (.junk), none, false, .pu (.bnew (.s 0))⟩,
   ⟨(some 4), some undefA, none, false, .pu (.mov (.c (.bool false)))⟩])
 (.seq (.seq (.ops [⟨(some 11), some undefA, none, false, .pu (.bget none 2 0 2 true)⟩,
   ⟨(some 12), some undefA, none, false, .call 17 [(.s 11)]⟩])
 (.cond (.s 12) (.seq (.ops [⟨(some 13), some undefA, none, false, .call 18 []⟩,
    ⟨(some 4), some undefA, none, false, .pu (.mov (.s 13))⟩])
  (.ret))
 (.skip)))
 (.seq (.ops [⟨(some 15), some undefA, none, false, .pu (.bget none 2 0 2 true)⟩,
   ⟨(some 16), some undefA, none, false, .pu (.mov (.s 1))⟩,
   ⟨(some 17), some undefA, none, false, .call 19 [(.s 15), (.s 16)]⟩,
   ⟨(some 14), some undefA, none, false, .pu (.mov (.s 17))⟩,
   ⟨(some 18), some undefA, none, false, .pu (.extr 0 (.s 14))⟩,
   ⟨(some 19), some undefA, none, false, .pu (.extr 1 (.s 14))⟩,
   ⟨(some 20), some undefA, none, false, .pu (.extr 2 (.s 14))⟩,
   ⟨(some 5), some undefA, none, false, .pu (.mov (.s 18))⟩,
   ⟨(some 6), some undefA, none, false, .pu (.mov (.s 19))⟩,
   ⟨(some 7), some undefA, none, false, .pu (.mov (.s 20))⟩])
 (.seq (.ops [⟨(some 22), some undefA, none, false, .pu (.bget none 2 0 2 true)⟩,
   ⟨(some 23), some undefA, none, false, .pu (.mov (.s 1))⟩,
   ⟨(some 24), some undefA, none, false, .call 20 [(.s 22), (.s 23)]⟩,
   ⟨(some 21), some undefA, none, false, .pu (.mov (.s 24))⟩,
   ⟨(some 25), some undefA, none, false, .pu (.extr 0 (.s 21))⟩,
   ⟨(some 26), some undefA, none, false, .pu (.extr 1 (.s 21))⟩,
   ⟨(some 27), some undefA, none, false, .pu (.extr 2 (.s 21))⟩,
   ⟨(some 8), some undefA, none, false, .pu (.mov (.s 25))⟩,
   ⟨(some 9), some undefA, none, false, .pu (.mov (.s 26))⟩,
   ⟨(some 10), some undefA, none, false, .pu (.mov (.s 27))⟩])
 (.seq (.ops [⟨(some 28), some undefA, none, false, .pu (.mov (.s 5))⟩,
   ⟨(some 29), some undefA, none, false, .pu (.mov (.s 8))⟩,
   ⟨(some 30), some undefA, none, false, .pu (.bin .eql (.s 28) (.s 29))⟩,
   ⟨(some 31), some undefA, none, false, .pu (.mov (.s 30))⟩,
   ⟨(some 32), some undefA, (some (31, true)), false, .pu (.mov (.s 6))⟩,
   ⟨(some 33), some undefA, (some (31, true)), false, .pu (.mov (.s 9))⟩,
   ⟨(some 34), some undefA, (some (31, true)), false, .pu (.eqb false (.s 32) (.s 33))⟩,
   ⟨(some 35), some undefA, none, false, .pu (.pick (.s 31) (.s 34) (.c (.bool false)))⟩,
   ⟨(some 36), some undefA, none, false, .pu (.mov (.s 35))⟩,
   ⟨(some 37), some undefA, (some (36, true)), false, .pu (.mov (.s 7))⟩,
   ⟨(some 38), some undefA, (some (36, true)), false, .pu (.mov (.s 10))⟩,
   ⟨(some 39), some undefA, (some (36, true)), false, .pu (.bin .eql (.s 37) (.s 38))⟩,
   ⟨(some 40), some undefA, none, false, .pu (.pick (.s 36) (.s 39) (.c (.bool false)))⟩,
   ⟨(some 41), some undefA, none, false, .pu (.mov (.s 40))⟩,
   ⟨(some 42), some undefA, (some (41, true)), false, .call 18 []⟩,
   ⟨(some 43), some undefA, none, false, .pu (.pick (.s 41) (.s 42) (.c (.bool false)))⟩,
   ⟨(some 4), some undefA, none, false, .pu (.mov (.s 43))⟩])
 (.ret)))))⟩
theorem t3 : trF Try.prog [2] [] Try.f3 = some m3 := by kernel_rfl
end Go.Proofs.Ytkgfcdpckfhknaa

namespace Go.Proofs.Ytkgfcdpckfhknaa
open Go Go.Eng
/-- One road on a way. -/
def stp (rs : List Rd) (p : Int × Int) (k : Int) : Option (Int × Int) :=
  if p.1 = (rdx rs k).1 then some ((rdx rs k).2.1, max p.2 (wct rs k)) else if p.1 = (rdx rs k).2.1 then some ((rdx rs k).1, max p.2 (wct rs k)) else none
/-- A way from a place: where it ends, and its worst. -/
def wk (rs : List Rd) (p : Int × Int) : List Int → Option (Int × Int)
  | [] => some p
  | k :: ks => match stp rs p k with
    | some q => wk rs q ks
    | none => none
section
variable {Q : Int} {rs : List Rd} {ks : List Int} {u v : AV} {A : AHeap} {a b : Int}
theorem notOf_nos (h : ¬ notOf rs.length ks = true) : Nos rs ks := by
  intro k hk
  refine Classical.byContradiction (fun hn => h ?_)
  unfold notOf
  rw [List.any_eq_true]
  refine ⟨k, hk, ?_⟩
  rw [decide_eq_false (by omega)]
  rfl
/-- The error of a net and numbers of roads. -/
def nE (Q : Int) (rs : List Rd) (ks : List Int) : Int := if vE Q rs = 0 then (if notOf rs.length ks = true then 4 else 0) else vE Q rs
theorem s64 (hu : L3 A u rs) (hP : W Q) (hx : L1 A v ks) (hl : ks.length ≤ 1000000) : ACalls Try.prog 64 [.agg [I Q, u], v] A (I (nE Q rs ks)) A := by
  refine acalls hmix Try.func64 (by kernel_rfl) t64 2 rfl (by decide) ?_
  dsimp only [m64]
  simp (maxSteps := 4000000) -implicitDefEqProofs -dsimp (disch := omega) only [↓AW_ops, ↓AW_seq, ↓AOps_nil, ↓AOps_pu, ↓AOps_call, on_some, ↓then_normal, pval, rd_S, rd_C, put_S, chkd, bgot, AV.cells?, partA, eq_self, List.replicate_succ, List.replicate_zero, List.set_cons_zero, List.set_cons_succ, List.getElem?_cons_zero, List.getElem?_cons_succ, List.drop_zero, List.take_succ_cons, List.take_nil, Option.getD_some, map_c, map_n, List.length_cons, List.length_nil, Nat.reduceAdd, Nat.reduceSub, Nat.reduceLeDiff, Nat.reduceEqDiff, Nat.zero_add, List.cons_append, List.nil_append, if_true, if_false]
  refine CallK.of (s22 hu hP) ?_
  by_cases h0 : vE Q rs = 0
  case neg =>
    have : nE Q rs ks = vE Q rs := if_neg h0
    rw [this]
    simp (maxSteps := 4000000) -implicitDefEqProofs -dsimp (disch := omega) only [↓AW_ops, ↓AW_seq, ↓AW_cond, ↓AW_ret, ↓AOps_nil, ↓AOps_pu, on_some, extK_same, condB_t, ↓then_normal, ↓then_ret, ↓Fin_ret, pval, rd_S, rd_C, put_S, resV, resL, List.replicate_succ, List.replicate_zero, List.set_cons_zero, List.set_cons_succ, List.getElem?_cons_zero, List.getElem?_cons_succ, Option.getD_some, Nat.reduceSub, List.cons_append, List.nil_append, bin_neq, decide_true, not_false_eq_true, h0]
    exact gc_same rfl
  have hE : nE Q rs ks = if notOf rs.length ks = true then 4 else 0 := if_pos h0
  rw [hE]
  have hn := vE_0.1 h0
  have hl14 := hn.l
  simp (maxSteps := 4000000) -implicitDefEqProofs -dsimp (disch := omega) only [↓AW_skip, ↓AW_ops, ↓AW_seq, ↓AW_cond, ↓AW_block, ↓AOps_nil, ↓AOps_pu, on_some, extK_same, condB_f, ↓then_normal, pval, rd_S, rd_C, put_S, ↓AW_toLoop, eq_self, List.replicate_succ, List.replicate_zero, List.set_cons_zero, List.set_cons_succ, List.getElem?_cons_zero, List.getElem?_cons_succ, Option.getD_some, Nat.reduceSub, List.cons_append, List.nil_append, bin_neq, decide_false, not_true_eq_false, h0]
  refine LoopK.by 28 (fun i : Nat => i ≤ ks.length ∧ ∀ k ∈ ks.take i, 0 ≤ k ∧ k ≤ (rs.length : Int) - 1) (fun i => [(1, v), (2, .agg [I Q, u]), (6, I i)]) (fun _ => A) (fun i => ks.length - i) 0 ⟨by omega, by simp⟩ rfl (by simp [Has, rd_s]) rfl ?_
  rintro i ⟨hi, he⟩
  by_cases hlt : i < ks.length
  · obtain ⟨z, hz⟩ : ∃ z, ks[i]? = some z := ⟨_, List.getElem?_eq_getElem hlt⟩
    have hlt' : (i : Int) < ks.length := by omega
    simp (maxSteps := 4000000) -implicitDefEqProofs -dsimp (disch := omega) only [↓AW_skip, ↓AW_ops, ↓AW_seq, ↓AW_cond, ↓AW_block, ↓AOps_nil, ↓AOps_pu, ↓AOps_ld, ↓AOps_call, on_some, condB_t, ↓then_normal, pval, lval, rd_S, rd_C, put_S, chkd, isAdr, bgot, AV.cells?, partA, eq_self, mk, List.foldl_cons, List.foldl_nil, List.replicate_succ, List.replicate_zero, List.set_cons_zero, List.set_cons_succ, List.getElem?_cons_zero, List.getElem?_cons_succ, List.drop_zero, List.drop_succ_cons, List.take_succ_cons, List.take_nil, Option.getD_some, map_c, map_n, List.length_cons, List.length_nil, Nat.reduceAdd, Nat.reduceLeDiff, Nat.zero_add, bin_sub, bin_lss, w64, if_true, if_false, Bool.false_eq_true, decide_true, Go.Eng.e1, hlt', hx.len, hx.idx hlt, hx.ld0 hz 1 false (by decide), hu.len]
    refine CallK.of (c_wi _ _ _ _) ?_
    by_cases g : 0 ≤ z ∧ z ≤ (rs.length : Int) - 1
    · simp (maxSteps := 4000000) -implicitDefEqProofs -dsimp (disch := omega) only [↓AW_skip, ↓AW_ops, ↓AW_cond, ↓AOps_nil, ↓AOps_pu, on_some, extK_same, condB_f, ↓then_normal, ↓inBlock_normal, pval, rd_S, rd_C, put_S, eq_self, mk, List.foldl_cons, List.foldl_nil, List.replicate_succ, List.replicate_zero, List.set_cons_zero, List.set_cons_succ, List.getElem?_cons_zero, List.getElem?_cons_succ, Option.getD_some, List.length_cons, List.length_nil, Nat.reduceAdd, Nat.zero_add, bin_add, w64, Bool.not_true, decide_true, true_and, and_true, g]
      exact ⟨i + 1, ⟨hlt, all_take he hz g⟩, by simp [Has, rd_s], by omega⟩
    · have hno : notOf rs.length ks = true := by
        unfold notOf
        rw [List.any_eq_true]
        exact ⟨z, List.mem_of_getElem? hz, by rw [decide_eq_false g]; rfl⟩
      rw [if_pos hno]
      simp (maxSteps := 4000000) -implicitDefEqProofs -dsimp (disch := omega) only [↓AW_ops, ↓AW_seq, ↓AW_cond, ↓AW_ret, ↓AOps_nil, ↓AOps_pu, on_some, extK_same, condB_t, ↓then_normal, ↓then_ret, ↓inBlock_ret, ↓Fin_ret, pval, rd_S, rd_C, put_S, resV, resL, mk, List.foldl_cons, List.foldl_nil, List.replicate_succ, List.replicate_zero, List.set_cons_zero, List.set_cons_succ, List.getElem?_cons_zero, List.getElem?_cons_succ, Option.getD_some, Bool.not_false, decide_false, g]
      exact gc_same rfl
  · have hlt' : ¬ ((i : Int) < ks.length) := by omega
    rw [List.take_of_length_le (by omega)] at he
    have hno : ¬ notOf rs.length ks = true := fun h => by
      unfold notOf at h
      rw [List.any_eq_true] at h
      obtain ⟨k, hk, hh⟩ := h
      rw [decide_eq_true (he k hk)] at hh
      cases hh
    rw [if_neg hno]
    simp (maxSteps := 4000000) -implicitDefEqProofs -dsimp (disch := omega) only [↓AW_ops, ↓AW_seq, ↓AW_cond, ↓AW_exit, ↓AW_ret, ↓AOps_nil, ↓AOps_pu, on_some, condB_f, ↓then_normal, ↓then_exit, ↓inBlock_exit, ↓Fin_ret, pval, rd_S, rd_C, put_S, resV, resL, eq_self, mk, List.foldl_cons, List.foldl_nil, List.replicate_succ, List.replicate_zero, List.set_cons_zero, List.set_cons_succ, List.getElem?_cons_zero, List.getElem?_cons_succ, Option.getD_some, bin_lss, if_true, decide_false, hlt', hx.len]
    exact gc_same rfl
end
end Go.Proofs.Ytkgfcdpckfhknaa

namespace Go.Proofs.Ytkgfcdpckfhknaa
open Go Go.Eng
section
variable {Q : Int} {rs : List Rd} {ks : List Int} {u v : AV} {A : AHeap} {a b : Int}
/-- A road crosses a set's border, and costs no more. -/
def xR (ks : List Int) (c : Int) (r : Rd) : Prop := ¬ (decide (r.1 ∈ ks) = decide (r.2.1 ∈ ks)) ∧ r.2.2 ≤ c
instance xRdec (ks : List Int) (c : Int) (r : Rd) : Decidable (xR ks c r) := by unfold xR; infer_instance
end
end Go.Proofs.Ytkgfcdpckfhknaa

namespace Go.Proofs.Ytkgfcdpckfhknaa
open Go Go.Eng
section
variable {P : Nat} {rs : List Rd} {ks : List Int} {u v : AV} {A : AHeap}
end
end Go.Proofs.Ytkgfcdpckfhknaa

namespace Go.Proofs.Ytkgfcdpckfhknaa
open Go Go.Eng
theorem fpos_in {p : Int} {l : List Int} (h : p ∈ l) : ∃ k : Nat, k < l.length ∧ fpos (fun y => decide (p = y)) l = k ∧ l[k]? = some p := by
  obtain ⟨k, hk⟩ : ∃ k, l.findIdx? (fun y => decide (p = y)) = some k := by
    cases hf : l.findIdx? (fun y => decide (p = y)) with
    | some k => exact ⟨k, rfl⟩
    | none =>
      rw [List.findIdx?_eq_none_iff] at hf
      have := hf p h
      simp at this
  have hk2 := hk
  rw [List.findIdx?_eq_some_iff_getElem] at hk2
  obtain ⟨h1, h2, _⟩ := hk2
  refine ⟨k, h1, by unfold fpos; rw [hk], ?_⟩
  rw [List.getElem?_eq_getElem h1]
  have : p = l[k] := by simpa using h2
  rw [← this]
theorem repl_zero (n : Nat) : repl [AV.int .i64 0] n = (List.replicate n (0 : Int)).flatMap Go.Eng.e1 := by
  induction n with
  | zero => rfl
  | succ n ih => rw [repl, ih, List.replicate_succ, List.flatMap_cons]; rfl
theorem app_fresh {α : Type} {es : Nat} {e : α → List AV} {B : AHeap} {y : AV} {ys : List α} (hy : Ls es e B y ys) {n : Nat} (hn : B[n]? = some (.cells true [])) (h0 : 0 < ys.length) (hl : ys.length ≤ lim) :
    appA es B (.sl es n 0 0 true) y = some (.sl es B.length 0 ys.length false, B ++ [.cells true (ys.flatMap e)]) := by
  unfold appA
  rw [hy.hc]
  have : ys.length ≠ 0 := by omega
  simp [this, hn, hl]
/-- Cells that are cleared. -/
def clA (es : Nat) (zero : List AV) (x : AV) (H : AHeap) : Option AHeap :=
  match x with
    | .nilS => some H
    | .sl es' n off len _ => if len = 0 then some H else if es' = es then match H[n]? with
        | some (.cells true l) => if off + len * es ≤ l.length then some (H.set n (.cells true (splice l off (repl zero len)))) else none
        | _ => none
      else none
    | _ => none
theorem hval_clr (es : Nat) (zero : List AV) (x : Opd) (S : List AV) (H : AHeap) : hval (.clr es zero x) S H = (clA es zero (rd S x) H).map (fun H' => (undefA, H')) := by
  simp only [hval, clA]
  cases rd S x with
  | sl es' n off len full =>
    simp only
    by_cases h0 : len = 0
    · simp [h0]
    · by_cases h1 : es' = es
      · simp only [h0, h1, if_true, if_false]
        cases H[n]? with
        | none => rfl
        | some o =>
          cases o with
          | cells rw l =>
            cases rw
            · rfl
            · simp only
              split <;> rfl
          | _ => rfl
      · simp [h0, h1]
  | nilS => rfl
  | _ => rfl
theorem OL_clr {A H : AHeap} {n : Nat} {v : AV} {xs : List Int} (h : OL 1 e1 A H n v xs) (i : Nat) (hi : i ≤ xs.length) (full : Bool) :
    clA 1 [.int .i64 0] (.sl 1 n (i * 1) (xs.length - i) full) H = some (H.set n (.cells true ((xs.take i ++ List.replicate (xs.length - i) 0).flatMap e1))) := by
  have hl := flatMap_length e1_len xs
  unfold clA
  by_cases h0 : xs.length - i = 0
  · have : i = xs.length := by omega
    simp only [h0, if_true]
    rw [List.replicate_zero, List.append_nil, List.take_of_length_le (by omega), set_same h.ob]
  · simp only [h0, if_false, if_true, h.ob]
    rw [if_pos (by omega), repl_zero]
    congr 2
    congr 1
    unfold splice
    have h1 := flat_take e1_len xs i hi
    rw [h1, flatMap_length e1_len, List.length_replicate, List.flatMap_append, List.append_assoc]
    congr 1
    rw [List.drop_of_length_le (by omega), List.append_nil]
theorem s103 {x p : Int} {A : AHeap} {a : Nat} (h : ldA 1 false (.ptr a 0) A = some (I p)) : ACalls Try.prog 103 [I x, .ptr a 0] A (B (decide (x = p))) A := by
  refine acalls hmix Try.func103 (by kernel_rfl) t103 2 rfl (by decide) ?_
  dsimp only [m103]
  simp (maxSteps := 4000000) -implicitDefEqProofs -dsimp (disch := omega) only [↓AW_ops, ↓AW_seq, ↓AW_ret, ↓AOps_nil, ↓AOps_pu, ↓AOps_ld, on_some, ↓then_normal, ↓Fin_ret, pval, lval, rd_S, rd_C, put_S, resV, resL, List.replicate_succ, List.replicate_zero, List.set_cons_zero, List.set_cons_succ, List.getElem?_cons_zero, List.getElem?_cons_succ, Option.getD_some, Nat.reduceSub, List.cons_append, List.nil_append, bin_eql, h]
  exact gc_same rfl
def without (l : List Int) (p : Int) : List Int := l.filter (fun x => !decide (x = p))
theorem without_take {l : List Int} {j : Nat} {z p : Int} (h : l[j]? = some z) : without (l.take (j + 1)) p = without (l.take j) p ++ if z = p then [] else [z] := by
  unfold without
  rw [List.take_add_one, h, List.filter_append]
  by_cases hz : z = p <;> simp [hz]
theorem without_le (l : List Int) (p : Int) : (without l p).length ≤ l.length := List.length_filter_le _ _
set_option maxHeartbeats 1000000 in
theorem s101 {A H : AHeap} {n a : Nat} {full : Bool} {xs : List Int} {p : Int} (h : OL 1 e1 A H n (.sl 1 n 0 xs.length full) xs) (hl : xs.length ≤ 1000) (ha : a ≠ n) (hp : ldA 1 false (.ptr a 0) H = some (I p)) :
    ACalls Try.prog 101 [.sl 1 n 0 xs.length full, .fn 103 [.ptr a 0]] H (.sl 1 n 0 (without xs p).length (full && ((without xs p).length == xs.length))) (H.set n (.cells true ((without xs p ++ List.replicate (xs.length - (without xs p).length) 0).flatMap e1))) := by
  refine acalls hmix Try.func101 (by kernel_rfl) t101 2 rfl (by decide) ?_
  have hpk : ∀ ys : List Int, ldA 1 false (.ptr a 0) (H.set n (.cells true (ys.flatMap e1))) = some (I p) := fun ys => by
    unfold ldA at hp ⊢
    simp only at hp ⊢
    rw [List.getElem?_set_ne (Ne.symm ha)]
    exact hp
  have hln : ∀ k, lenA (.sl 1 n 0 k full) = some (I k) := fun k => rfl
  dsimp only [m101]
  simp (maxSteps := 4000000) -implicitDefEqProofs -dsimp (disch := omega) only [↓AW_ops, ↓AW_seq, ↓AOps_nil, ↓AOps_pu, ↓AOps_call, on_some, ↓then_normal, pval, rd_S, rd_C, put_S, List.replicate_succ, List.replicate_zero, List.set_cons_zero, List.set_cons_succ, List.getElem?_cons_zero, List.getElem?_cons_succ, Option.getD_some, map_c, map_n, Nat.reduceSub, List.cons_append, List.nil_append]
  refine CallK.of (c_IndexFunc h.ls (by omega) 103 [.ptr a 0] (fun x => decide (x = p)) (fun x _ => s103 hp)) ?_
  by_cases hmem : p ∈ xs
  · obtain ⟨i0, hi0, hf, hz0⟩ := fpos_in hmem
    have hfe : fpos (fun x => decide (x = p)) xs = i0 := by
      rw [← hf]; congr 1; funext y; rw [decide_eq_decide]; exact ⟨fun e => e.symm, fun e => e.symm⟩
    rw [hfe]
    have hne : ¬ (i0 : Int) = -1 := by omega
    have hpre : ∀ y ∈ xs.take i0, y ≠ p := fun y hy e => by
      have h2 : xs.findIdx? (fun y => decide (p = y)) = some i0 := by
        unfold fpos at hf
        cases hh : xs.findIdx? (fun y => decide (p = y)) with
        | none => rw [hh] at hf; simp at hf
        | some k => rw [hh] at hf; simp at hf; congr 1; omega
      rw [List.findIdx?_eq_some_iff_getElem] at h2
      obtain ⟨_, _, h3⟩ := h2
      obtain ⟨j, hj, he⟩ := List.mem_take_iff_getElem.1 hy
      have := h3 j (by omega)
      rw [he, e] at this
      simp at this
    have hw0 : without (xs.take i0) p = xs.take i0 := by
      unfold without
      rw [List.filter_eq_self]
      intro y hy
      simp [hpre y hy]
    have hw1 : without (xs.take (i0 + 1)) p = xs.take i0 := by rw [without_take hz0, if_pos rfl, hw0, List.append_nil]
    simp (maxSteps := 4000000) -implicitDefEqProofs -dsimp (disch := omega) only [↓AW_skip, ↓AW_ops, ↓AW_seq, ↓AW_cond, ↓AW_block, ↓AOps_nil, ↓AOps_pu, on_some, extK_same, condB_f, ↓then_normal, pval, rd_S, rd_C, put_S, ↓AW_toLoop, List.replicate_succ, List.replicate_zero, List.set_cons_zero, List.set_cons_succ, List.getElem?_cons_zero, List.getElem?_cons_succ, Option.getD_some, Nat.reduceSub, List.cons_append, List.nil_append, bin_add, bin_eql, w64, decide_false, Int.reduceNeg, hne]
    refine LoopK.by 42 (fun x : Nat × Nat × List Int => (x.2.1 ≤ xs.length ∧ x.1 < x.2.1) ∧ x.2.2.length = xs.length ∧ x.2.2.take x.1 = without (xs.take x.2.1) p ∧ x.2.2.drop x.2.1 = xs.drop x.2.1) (fun x => [(0, .sl 1 n 0 xs.length full), (1, .fn 103 [.ptr a 0]), (5, I x.1), (6, I x.2.1)]) (fun x => H.set n (.cells true (x.2.2.flatMap e1))) (fun x => xs.length - x.2.1) (i0, i0 + 1, xs) ⟨by simp only; omega, rfl, hw1.symm, rfl⟩ rfl (by simp [Has, rd_s]) (by simp only; rw [set_same h.ob]) ?_
    rintro ⟨i, j, ys⟩ ⟨⟨hj, hij⟩, hyl, hyt, hyd⟩
    simp only at hj hij hyl hyt hyd
    have ho := OL_setAll h ys hyl
    have hwl : (without (xs.take j) p).length = i := by rw [← hyt, List.length_take]; omega
    by_cases hlt : j < xs.length
    · have hlt' : (j : Int) < xs.length := by omega
      obtain ⟨z, hz⟩ : ∃ z, xs[j]? = some z := ⟨_, List.getElem?_eq_getElem hlt⟩
      have hzy : ys[j]? = some z := by
        have : (ys.drop j)[0]? = (xs.drop j)[0]? := by rw [hyd]
        rw [List.getElem?_drop, List.getElem?_drop, Nat.add_zero] at this
        rw [this]; exact hz
      have hjy : j < ys.length := by omega
      have hiy : i < ys.length := by omega
      simp (maxSteps := 4000000) -implicitDefEqProofs -dsimp (disch := omega) only [↓AW_skip, ↓AW_ops, ↓AW_seq, ↓AW_cond, ↓AW_block, ↓AOps_nil, ↓AOps_pu, ↓AOps_ld, ↓AOps_callv, on_some, CallF_fn, condB_t, ↓then_normal, pval, lval, rd_S, put_S, partA, eq_self, mk, List.foldl_cons, List.foldl_nil, List.replicate_succ, List.replicate_zero, List.set_cons_zero, List.set_cons_succ, List.getElem?_cons_zero, List.getElem?_cons_succ, List.drop_zero, List.take_succ_cons, List.take_nil, Option.getD_some, map_c, map_n, List.length_cons, List.length_nil, Nat.reduceLeDiff, Nat.zero_add, List.cons_append, List.nil_append, bin_lss, if_true, if_false, Bool.false_eq_true, decide_true, Go.Eng.e1, hlt', hln, ho.ls.idx hjy, ho.ls.ld0 hzy 1 false (by decide)]
      refine CallK.of (s103 (hpk ys)) ?_
      by_cases hzp : z = p
      · simp (maxSteps := 4000000) -implicitDefEqProofs -dsimp (disch := omega) only [↓AW_skip, ↓AW_ops, ↓AW_cond, ↓AOps_nil, ↓AOps_pu, on_some, extK_same, condB_f, ↓then_normal, ↓inBlock_normal, pval, rd_S, rd_C, put_S, eq_self, mk, List.foldl_cons, List.foldl_nil, List.replicate_succ, List.replicate_zero, List.set_cons_zero, List.set_cons_succ, List.getElem?_cons_zero, List.getElem?_cons_succ, Option.getD_some, List.length_cons, List.length_nil, Nat.reduceAdd, Nat.zero_add, bin_add, w64, Bool.not_true, decide_true, true_and, hzp]
        refine ⟨(i, j + 1, ys), ⟨⟨hlt, by simp only; omega⟩, hyl, ?_, ?_⟩, by simp [Has, rd_s], rfl, by simp only; omega⟩
        · simp only; rw [without_take hz, if_pos hzp, List.append_nil]; exact hyt
        · simp only
          rw [← List.drop_drop, ← List.drop_drop, hyd]
      · have hst := ho.st hiy (I z) z rfl
        rw [List.set_set] at hst
        simp (maxSteps := 4000000) -implicitDefEqProofs -dsimp (disch := omega) only [↓AW_ops, ↓AW_seq, ↓AW_cond, ↓AOps_nil, ↓AOps_pu, ↓AOps_ha, on_some, extK_false, extK_same, condB_t, ↓then_normal, ↓inBlock_normal, pval, hval_st, rd_S, rd_C, put_S, putS_none, eq_self, mk, List.foldl_cons, List.foldl_nil, List.replicate_succ, List.replicate_zero, List.set_cons_zero, List.set_cons_succ, List.getElem?_cons_zero, List.getElem?_cons_succ, Option.getD_some, Option.map_some, List.length_cons, List.length_nil, Nat.reduceAdd, Nat.zero_add, bin_add, w64, Bool.not_false, decide_false, true_and, hzp, ho.ls.idx hiy, hst]
        refine ⟨(i + 1, j + 1, ys.set i z), ⟨⟨hlt, by simp only; omega⟩, by simp [hyl], ?_, ?_⟩, by simp [Has, rd_s], rfl, by simp only; omega⟩
        · simp only
          rw [without_take hz, if_neg hzp, ← hyt, List.take_add_one, List.getElem?_set_self hiy, Option.toList_some, List.take_set_of_le (Nat.le_refl _)]
        · simp only
          rw [List.drop_set_of_lt (by omega), ← List.drop_drop, ← List.drop_drop, hyd]
    · have hlt' : ¬ ((j : Int) < xs.length) := by omega
      have hjj : j = xs.length := by omega
      rw [show xs.take j = xs from List.take_of_length_le (by omega)] at hyt hwl
      have hs1 : slcA 1 (.sl 1 n 0 xs.length full) (some (I i)) none none = some (.sl 1 n (i * 1) (xs.length - i) full) := by
        have : i ≤ xs.length := by omega
        simp [slcA, bnd, this]
      have hs2 : slcA 1 (.sl 1 n 0 xs.length full) none (some (I i)) none = some (.sl 1 n 0 i (full && (i == xs.length))) := by
        have : i ≤ xs.length := by omega
        simp [slcA, bnd, this]
      have hc := OL_clr ho i (by omega) full
      rw [hyl, List.set_set, hyt] at hc
      simp (maxSteps := 4000000) -implicitDefEqProofs -dsimp (disch := omega) only [↓AW_ops, ↓AW_seq, ↓AW_cond, ↓AW_exit, ↓AW_ret, ↓AOps_nil, ↓AOps_pu, ↓AOps_ha, on_some, extK_false, condB_f, ↓then_normal, ↓then_exit, ↓inBlock_exit, ↓Fin_ret, pval, rd_S, put_S, putS_none, resV, resL, eq_self, mk, List.foldl_cons, List.foldl_nil, List.replicate_succ, List.replicate_zero, List.set_cons_zero, List.set_cons_succ, List.getElem?_cons_zero, List.getElem?_cons_succ, Option.getD_some, Option.map_some, Option.map_none, bin_lss, if_true, decide_false, hlt', hln, hs1, hval_clr, hc, hs2]
      exact gc_same_all (by rw [hwl]) (by rw [hwl])
  · have hfe : fpos (fun x => decide (x = p)) xs = -1 := fpos_none (fun y hy => by
      rw [decide_eq_false_iff_not]; rintro rfl; exact hmem hy)
    rw [hfe]
    have hw : without xs p = xs := by
      unfold without
      rw [List.filter_eq_self]
      intro y hy
      have : y ≠ p := by rintro rfl; exact hmem hy
      simp [this]
    simp (maxSteps := 4000000) -implicitDefEqProofs -dsimp (disch := omega) only [↓AW_ops, ↓AW_seq, ↓AW_cond, ↓AW_ret, ↓AOps_nil, ↓AOps_pu, on_some, extK_same, condB_t, ↓then_normal, ↓then_ret, ↓Fin_ret, pval, rd_S, rd_C, put_S, resV, resL, eq_self, List.replicate_succ, List.replicate_zero, List.set_cons_zero, List.set_cons_succ, List.getElem?_cons_zero, List.getElem?_cons_succ, Option.getD_some, Nat.reduceSub, List.cons_append, List.nil_append, bin_eql, decide_true, Int.reduceNeg]
    refine gc_same_all (by rw [hw]; simp) ?_
    rw [hw, Nat.sub_self, List.replicate_zero, List.append_nil, set_same h.ob]
theorem s102 {A : AHeap} {v : AV} {xs : List Int} (hx : L1 A v xs) (h0 : 0 < xs.length) (hl : xs.length ≤ 1000) : ACalls Try.prog 102 [v] A (.sl 1 (A.length + 1) 0 xs.length false) (A ++ [.cells true [], .cells true (xs.flatMap e1)]) := by
  refine acalls hmix Try.func102 (by kernel_rfl) t102 1 rfl (by decide) ?_
  rcases hx.inv with ⟨rfl, rfl⟩ | ⟨n, off, full, rw, l, rfl, h1, h2, h3⟩
  · simp at h0
  · have happ := app_fresh (hx.mono (pre_app A [.cells true []])) (get_new A (.cells true [])) h0 (by simp [lim]; omega)
    rw [List.length_append, List.length_singleton] at happ
    dsimp only [m102]
    simp (maxSteps := 4000000) -implicitDefEqProofs -dsimp (disch := omega) only [↓AW_skip, ↓AW_ops, ↓AW_seq, ↓AW_cond, ↓AW_ret, ↓AOps_nil, ↓AOps_pu, ↓AOps_ha, on_some, extK_app, condB_f, ↓then_normal, ↓Fin_ret, pval, hval_blds, hval_app, rd_S, rd_C, put_S, resV, resL, fillA, repl, List.replicate_succ, List.replicate_zero, List.set_cons_zero, List.set_cons_succ, List.getElem?_cons_zero, List.getElem?_cons_succ, Option.getD_some, map_n, Nat.reduceSub, List.cons_append, List.nil_append, List.replicate_zero, repl, happ]
    exact gc_same_all rfl (by simp)
/-- A list without a road. -/
theorem s63 {A : AHeap} {v : AV} {xs : List Int} (hx : L1 A v xs) (h0 : 0 < xs.length) (hl : xs.length ≤ 1000) (k : Int) : ∃ r H, ACalls Try.prog 63 [v, I k] A r H ∧ A <+: H ∧ L1 H r (without xs k) := by
  refine acallsR hmix Try.func63 (by kernel_rfl) t63 _ 2 rfl (by decide) ?_
  have hpA := pre_app A [AObj.cells true [I k]]
  dsimp only [m63]
  simp (maxSteps := 4000000) -implicitDefEqProofs -dsimp (disch := omega) only [↓AW_ops, ↓AW_seq, ↓AOps_nil, ↓AOps_pu, ↓AOps_ha, ↓AOps_call, on_some, extK_app, ↓then_normal, pval, hval_newv, rd_S, rd_C, put_S, cells_int, List.replicate_succ, List.replicate_zero, List.set_cons_zero, List.set_cons_succ, List.getElem?_cons_zero, List.getElem?_cons_succ, Option.getD_some, map_c, map_n, Nat.reduceSub, List.cons_append, List.nil_append]
  refine CallK.of (s102 (hx.mono hpA) h0 hl) ?_
  have hpB := pre_app (A ++ [AObj.cells true [I k]]) [AObj.cells true [], AObj.cells true (xs.flatMap e1)]
  have hOL : OL 1 e1 A (A ++ [AObj.cells true [I k]] ++ [AObj.cells true [], AObj.cells true (xs.flatMap e1)]) ((A ++ [AObj.cells true [I k]]).length + 1) (.sl 1 ((A ++ [AObj.cells true [I k]]).length + 1) 0 xs.length false) xs := by
    have h0 := OL.new_mk e1_len (A ++ [AObj.cells true [I k]] ++ [AObj.cells true []]) xs false
    have q1 : A ++ [AObj.cells true [I k]] ++ [AObj.cells true []] ++ [AObj.cells true (xs.flatMap e1)] = A ++ [AObj.cells true [I k]] ++ [AObj.cells true [], AObj.cells true (xs.flatMap e1)] := by simp
    have q2 : (A ++ [AObj.cells true [I k]] ++ [AObj.cells true []]).length = (A ++ [AObj.cells true [I k]]).length + 1 := by simp
    rw [q1, q2] at h0
    exact ⟨h0.he, hpA.trans hpB, by simp; omega, h0.ob, h0.v⟩
  have hld : ldA 1 false (.ptr A.length 0) (A ++ [AObj.cells true [I k]] ++ [AObj.cells true [], AObj.cells true (xs.flatMap e1)]) = some (I k) := ld_mono hpB (by simp [ldA, partA])
  have h101 := s101 (p := k) hOL hl (a := A.length) (by simp; omega) hld
  simp (maxSteps := 4000000) -implicitDefEqProofs -dsimp (disch := omega) only [↓AOps_pu, ↓AOps_call, on_some, extK_app, pval, rd_S, put_S, List.replicate_succ, List.replicate_zero, List.set_cons_zero, List.set_cons_succ, List.getElem?_cons_zero, List.getElem?_cons_succ, Option.getD_some, map_c, map_n, Nat.reduceSub, List.cons_append, List.nil_append]
  refine CallK.of h101 ?_
  have hw := without_le xs k
  simp (maxSteps := 4000000) -implicitDefEqProofs -dsimp (disch := omega) only [↓AW_ret, ↓AOps_nil, ↓AOps_pu, on_some, extK_false, ↓then_normal, ↓FinR_ret, pval, rd_S, put_S, resV, resL, List.replicate_succ, List.replicate_zero, List.set_cons_zero, List.set_cons_succ, List.getElem?_cons_zero, List.getElem?_cons_succ, Option.getD_some, Nat.reduceSub, List.cons_append, List.nil_append, Bool.false_and]
  refine ⟨_, _, gc_all, ?_, ?_⟩
  · exact pre_set (hpA.trans hpB) (by simp; omega) _
  · refine ⟨e1_len, ?_⟩
    have hlen : ((A ++ [AObj.cells true [I k]]).length + 1) < (A ++ [AObj.cells true [I k]] ++ [AObj.cells true [], AObj.cells true (xs.flatMap e1)]).length := by simp
    have hfl := flatMap_length e1_len (without xs k)
    simp only [slCells, cellsAt, List.getElem?_set_self hlen, if_true]
    rw [if_pos (by rw [flatMap_length e1_len, List.length_append, List.length_replicate]; omega)]
    simp only [Option.map_some, Option.some.injEq, Prod.mk.injEq, true_and, List.flatMap_append, List.drop_zero]
    rw [← hfl, List.take_left]
end Go.Proofs.Ytkgfcdpckfhknaa

namespace Go.Proofs.Ytkgfcdpckfhknaa
open Go Go.Eng
/-- The net's roads but one. -/
def but (rs : List Rd) (k : Int) : List Int := (nums rs).filter (fun i => decide (¬ i = k))
section
variable {Q : Int} {rs : List Rd} {ks : List Int} {u v : AV} {A : AHeap}
theorem orE_v (x : Int) (p : Prop) [Decidable p] : orE [x, if p then 4 else 0] = if x = 0 then (if p then 4 else 0) else x := by
  unfold orE orE orE
  by_cases h : p
  · simp [h]
  · simp [h]
/-- Up to which cost a road is in some cheapest tree. -/
noncomputable def rgC (rs : List Rd) (k : Int) : Int := (bt rs (but rs k) (rdx rs k).1 (rdx rs k).2.1).getD 99
def rgJ (Q : Int) (rs : List Rd) (k : Int) : Prop := nE Q rs [k] = 0 ∧ Jbl Q.toNat rs
noncomputable instance rgJdec (Q : Int) (rs : List Rd) (k : Int) : Decidable (rgJ Q rs k) := Classical.propDecidable _
noncomputable def rgA (Q : Int) (rs : List Rd) (k : Int) : Int := if rgJ Q rs k then rgC rs k else 0
theorem nE_1 {k : Int} (h : nE Q rs [k] = 0) : Net Q rs ∧ (0 ≤ k ∧ k ≤ (rs.length : Int) - 1) := by
  unfold nE at h
  by_cases h0 : vE Q rs = 0
  · rw [if_pos h0] at h
    by_cases h1 : notOf rs.length [k] = true
    · rw [if_pos h1] at h; cases h
    · have := notOf_nos h1 k (by simp)
      exact ⟨vE_0.1 h0, by omega⟩
  · rw [if_neg h0] at h; exact absurd h h0
theorem rg_end (hn : Net Q rs) {a b c k : Int} (c0 : 0 ≤ c) (c1 : c ≤ 99) (h1 : c = 99 ∨ cnT rs (but rs k) c a b) (h2 : c = 0 ∨ ¬ cnT rs (but rs k) (c - 1) a b) : (bt rs (but rs k) a b).getD 99 = c := by
  by_cases hab : a = b
  · have : c = 0 := by
      rcases h2 with h2 | h2
      · exact h2
      · exact absurd (by rw [hab]; exact .refl _) h2
    unfold bt
    rw [if_pos hab, this]
    rfl
  by_cases hc : cnT rs (but rs k) c a b
  · rw [bt_at hab c0 c1 hc]
    · rfl
    · rcases h2 with h2 | h2
      · intro hh
        refine hab ?_
        have : (upTo (wct rs) (but rs k) (c - 1)) = [] := by
          rw [List.eq_nil_iff_forall_not_mem]
          intro i hi
          have hq := (List.mem_filter.1 (mem_upTo.1 hi).1).1
          rw [mem_plc] at hq
          have := hn.wb hq.1 (by omega)
          have := (mem_upTo.1 hi).2
          omega
        unfold cnT at hh
        rw [this] at hh
        exact hh.nil
      · exact h2
  · have h99 : c = 99 := by
      rcases h1 with h1 | h1
      · exact h1
      · exact absurd h1 hc
    rw [h99] at hc ⊢
    rw [bt_none hab hc]
    rfl
set_option maxRecDepth 20000 in
set_option maxHeartbeats 16000000 in
theorem s19 (hu : L3 A u rs) (hP : W Q) (k : Int) (hl : rs.length ≤ 1000000) : ACalls Try.prog 19 [.agg [I Q, u], I k] A (.tuple [I (rgA Q rs k), B (decide (rgJ Q rs k)), I (nE Q rs [k])]) A := by
  refine acalls hmix Try.func19 (by kernel_rfl) t19 2 rfl (by decide) ?_
  dsimp only [m19]
  simp (maxSteps := 4000000) -implicitDefEqProofs -dsimp (disch := omega) only [↓AW_ops, ↓AW_seq, ↓AOps_nil, ↓AOps_pu, ↓AOps_ha, ↓AOps_call, on_some, extK_app, ↓then_normal, pval, hval, rd_S, rd_C, put_S, chkd, isAdr, bgot, AV.cells?, splice, partA, fillA, repl, eq_self, List.replicate_succ, List.replicate_zero, List.set_cons_zero, List.set_cons_succ, List.getElem?_cons_zero, List.getElem?_cons_succ, List.drop_zero, List.drop_succ_cons, List.drop_nil, List.take_zero, List.take_succ_cons, List.take_nil, Option.getD_some, map_c, map_n, List.length_cons, List.length_nil, Nat.reduceAdd, Nat.reduceSub, Nat.reduceLeDiff, Nat.reduceEqDiff, Nat.zero_add, List.cons_append, List.nil_append, List.append_nil, if_true, if_false, Bool.false_eq_true, and_true, ↓AW_ops2, hu.len, List.replicate_zero, repl]
  have hpA := pre_app A [AObj.cells true [I k]]
  have hE : (if vE Q rs = 0 then (if notOf (rs.length : Int) [k] = true then 4 else 0) else vE Q rs) = nE Q rs [k] := rfl
  have hp2 : A <+: A ++ [AObj.cells true [I k]] ++ [AObj.cells true [I (vE Q rs), I (if notOf (rs.length : Int) [k] = true then 4 else 0)]] := hpA.trans (pre_app _ _)
  refine ⟨?_, ?_⟩
  · refine CallK.of (s28 hu hP) ?_
    simp (maxSteps := 4000000) -implicitDefEqProofs -dsimp (disch := omega) only [↓AOps_pu, ↓AOps_ha, ↓AOps_call, on_some, extK_app, extK_same, pval, hval, rd_S, put_S, chkd, isAdr, bgot, AV.cells?, splice, partA, fillA, repl, eq_self, List.replicate_succ, List.replicate_zero, List.set_cons_zero, List.set_cons_succ, List.getElem?_cons_zero, List.getElem?_cons_succ, List.drop_zero, List.drop_succ_cons, List.drop_nil, List.take_zero, List.take_succ_cons, List.take_nil, Option.getD_some, map_c, map_n, List.length_cons, List.length_nil, Nat.reduceAdd, Nat.reduceSub, Nat.reduceLeDiff, Nat.zero_add, List.cons_append, List.nil_append, List.append_nil, if_true, if_false, Bool.false_eq_true, and_true, hu.len, List.replicate_zero, repl]
    refine CallK.of (s58 (L1_one A k) (by simp) (c := rs.length) (by omega)) ?_
    simp (maxSteps := 4000000) -implicitDefEqProofs -dsimp (disch := omega) only [↓AOps_ha, ↓AOps_call, on_some, extK_app, extK_same, hval, rd_S, put_S, AV.cells?, splice, fillA, repl, eq_self, List.replicate_succ, List.replicate_zero, List.set_cons_zero, List.set_cons_succ, List.getElem?_cons_zero, List.getElem?_cons_succ, List.drop_zero, List.drop_succ_cons, List.drop_nil, List.take_zero, List.take_succ_cons, Option.getD_some, map_c, map_n, List.length_cons, List.length_nil, Nat.reduceAdd, Nat.reduceSub, Nat.reduceLeDiff, Nat.zero_add, List.cons_append, List.nil_append, List.append_nil, if_true, and_true, List.replicate_zero, repl]
    refine CallK.of (s57 (L1_two _ _ _) (by simp)) ?_
    rw [orE_v, hE]
    generalize A ++ [AObj.cells true [I k]] ++ [AObj.cells true [I (vE Q rs), I (if notOf (rs.length : Int) [k] = true then 4 else 0)]] = A2 at hp2 ⊢
    have hu2 := hu.mono hp2
    by_cases h0 : nE Q rs [k] = 0
    case neg =>
      have e1 : rgA Q rs k = 0 := if_neg (fun h => h0 h.1)
      rw [e1, decide_eq_false (fun h : rgJ Q rs k => h0 h.1)]
      simp (maxSteps := 4000000) -implicitDefEqProofs -dsimp (disch := omega) only [↓AW_ops, ↓AW_seq, ↓AW_cond, ↓AW_ret, ↓AOps_nil, ↓AOps_pu, on_some, extK_same, condB_t, ↓then_normal, ↓then_ret, ↓Fin_ret, pval, rd_S, rd_C, put_S, resV, resL, List.replicate_succ, List.replicate_zero, List.set_cons_zero, List.set_cons_succ, List.getElem?_cons_zero, List.getElem?_cons_succ, Option.getD_some, Nat.reduceSub, List.cons_append, List.nil_append, bin_neq, decide_true, not_false_eq_true, h0]
      exact gc_val hp2 rfl
    obtain ⟨hn, k0, k1⟩ := nE_1 h0
    obtain ⟨P, rfl⟩ := hn.nat
    have hl14 := hn.l
    have hP7 := hn.p7
    rw [h0]
    simp (maxSteps := 4000000) -implicitDefEqProofs -dsimp (disch := omega) only [↓AW_skip, ↓AW_ops, ↓AW_seq, ↓AW_cond, ↓AOps_nil, ↓AOps_pu, ↓AOps_call, on_some, extK_same, condB_f, ↓then_normal, pval, rd_S, rd_C, put_S, chkd, bgot, partA, eq_self, List.replicate_succ, List.replicate_zero, List.set_cons_zero, List.set_cons_succ, List.getElem?_cons_zero, List.getElem?_cons_succ, List.drop_zero, List.take_succ_cons, List.take_nil, Option.getD_some, map_c, map_n, List.length_cons, List.length_nil, Nat.reduceAdd, Nat.reduceSub, Nat.reduceLeDiff, Nat.reduceEqDiff, Nat.zero_add, List.cons_append, List.nil_append, bin_neq, if_true, if_false, decide_false, not_true_eq_false]
    obtain ⟨r1, H1, c1, p1, L, hL, hO⟩ := c_all hu2 hn
    refine CallK.of c1 ?_
    simp (maxSteps := 4000000) -implicitDefEqProofs -dsimp (disch := omega) only [↓AW_ops, ↓AW_seq, ↓AOps_nil, ↓AOps_pu, ↓AOps_call, on_some, extK_false, ↓then_normal, pval, rd_S, put_S, chkd, bgot, partA, eq_self, List.replicate_succ, List.replicate_zero, List.set_cons_zero, List.set_cons_succ, List.getElem?_cons_zero, List.getElem?_cons_succ, List.drop_zero, List.take_succ_cons, List.take_nil, Option.getD_some, map_c, map_n, List.length_cons, List.length_nil, Nat.reduceAdd, Nat.reduceSub, Nat.reduceLeDiff, Nat.reduceEqDiff, Nat.zero_add, List.cons_append, List.nil_append, if_true, if_false]
    obtain ⟨r2, H2, c2, p2, hG⟩ := c_grow (hu2.mono p1) hL hn hO.nos (by rw [hO.len]; omega)
    refine CallK.of c2 ?_
    simp (maxSteps := 4000000) -implicitDefEqProofs -dsimp (disch := omega) only [↓AOps_call, extK_false, rd_S, put_S, List.replicate_succ, List.replicate_zero, List.set_cons_zero, List.set_cons_succ, List.getElem?_cons_zero, List.getElem?_cons_succ, Option.getD_some, map_c, map_n, Nat.reduceSub, List.cons_append, List.nil_append]
    have hgn : Nos rs (srt (grw (rdx rs) [] L)) := fun k hk => grw_nos hO.nos k ((srt_perm _).mem_iff.1 hk)
    have hsm := grw_small hn hO.nos
    have hpH := hp2.trans (p1.trans p2)
    have huH := hu.mono hpH
    refine CallK.of (s60 huH hG hn hgn (by rw [srt_len]; omega)) ?_
    by_cases hj : Jbl P rs
    case neg =>
      have hjj : ¬ rgJ P rs k := fun h => hj (by have := h.2; rwa [Int.toNat_natCast] at this)
      have e1 : rgA P rs k = 0 := if_neg hjj
      rw [e1, decide_eq_false hjj, decide_eq_false (fun hh => hj ((jbl_grw hn hO).1 hh))]
      simp (maxSteps := 4000000) -implicitDefEqProofs -dsimp (disch := omega) only [↓AW_ops, ↓AW_seq, ↓AW_cond, ↓AW_ret, ↓AOps_nil, ↓AOps_pu, on_some, extK_same, condB_t, ↓then_normal, ↓then_ret, ↓Fin_ret, pval, rd_S, rd_C, put_S, resV, resL, List.replicate_succ, List.replicate_zero, List.set_cons_zero, List.set_cons_succ, List.getElem?_cons_zero, List.getElem?_cons_succ, Option.getD_some, Nat.reduceSub, List.cons_append, List.nil_append, Bool.not_false]
      exact gc_val hpH rfl
    have hjj : rgJ P rs k := ⟨h0, by rw [Int.toNat_natCast]; exact hj⟩
    have e1 : rgA P rs k = (bt rs (but rs k) (rdx rs k).1 (rdx rs k).2.1).getD 99 := if_pos hjj
    rw [e1, decide_eq_true hjj, decide_eq_true ((jbl_grw hn hO).2 hj)]
    simp (maxSteps := 4000000) -implicitDefEqProofs -dsimp (disch := omega) only [↓AW_skip, ↓AW_ops, ↓AW_seq, ↓AW_cond, ↓AOps_nil, ↓AOps_pu, ↓AOps_call, on_some, extK_same, condB_f, ↓then_normal, pval, rd_S, put_S, chkd, bgot, partA, eq_self, List.replicate_succ, List.replicate_zero, List.set_cons_zero, List.set_cons_succ, List.getElem?_cons_zero, List.getElem?_cons_succ, List.drop_zero, List.take_succ_cons, List.take_nil, Option.getD_some, map_c, map_n, List.length_cons, List.length_nil, Nat.reduceAdd, Nat.reduceSub, Nat.reduceLeDiff, Nat.reduceEqDiff, Nat.zero_add, List.cons_append, List.nil_append, if_true, if_false, Bool.not_true]
    obtain ⟨r3, H3, c3, p3, hW⟩ := s63 (hL.mono p2) (by rw [hO.len]; omega) (by rw [hO.len]; omega) k
    refine CallK.of c3 ?_
    have hpK := hpH.trans p3
    have huK := hu.mono hpK
    obtain ⟨hr, _⟩ := rdx_at k0 k1
    have hri := huK.idxI (k := .i64) k0 (show k < (rs.length : Int) by omega)
    obtain ⟨ha, hb⟩ := hn.inP k0 k1
    simp (maxSteps := 4000000) -implicitDefEqProofs -dsimp (disch := omega) only [↓AOps_pu, ↓AOps_ld, ↓AOps_call, on_some, pval, lval, rd_S, put_S, chkd, isAdr, bgot, AV.cells?, partA, eq_self, List.replicate_succ, List.replicate_zero, List.set_cons_zero, List.set_cons_succ, List.getElem?_cons_zero, List.getElem?_cons_succ, List.drop_zero, List.drop_succ_cons, List.take_zero, List.take_succ_cons, List.take_nil, Option.getD_some, map_c, map_n, List.length_cons, List.length_nil, Nat.reduceAdd, Nat.reduceSub, Nat.reduceLeDiff, Nat.zero_add, Nat.add_zero, List.cons_append, List.nil_append, if_true, if_false, Bool.false_eq_true, extK_of p3, hri, huK.ld0 hr 1 false (by decide), huK.ld hr 1 1 false (by decide), e3]
    have hwn : Nos rs (without L k) := fun i hi => hO.nos i (List.mem_filter.1 hi).1
    obtain ⟨c, ok, c4, hLS⟩ := c_least huK hW hn hwn (by have := without_le L k; rw [hO.len] at this; omega) (a := (rdx rs k).1) (b := (rdx rs k).2.1) ha hb
    refine CallK.of c4 ?_
    obtain ⟨hbt, hok⟩ := LS_bt (M := but rs k) (hO.s.filter _) (fun i => by
      unfold but
      rw [List.mem_filter, List.mem_filter, hO.p.mem_iff]
      simp) (fun i hi => hn.wb (hwn i hi).1 (hwn i hi).2) hLS
    rw [hbt]
    cases ok with
    | true =>
      simp (maxSteps := 4000000) -implicitDefEqProofs -dsimp (disch := omega) only [↓AW_ops, ↓AW_seq, ↓AW_cond, ↓AW_ret, ↓AOps_nil, ↓AOps_pu, on_some, extK_same, condB_t, ↓then_normal, ↓then_ret, ↓Fin_ret, pval, rd_S, rd_C, put_S, resV, resL, eq_self, List.replicate_succ, List.replicate_zero, List.set_cons_zero, List.set_cons_succ, List.getElem?_cons_zero, List.getElem?_cons_succ, Option.getD_some, Nat.reduceSub, List.cons_append, List.nil_append, if_true]
      exact gc_val hpK rfl
    | false =>
      simp (maxSteps := 4000000) -implicitDefEqProofs -dsimp (disch := omega) only [↓AW_skip, ↓AW_ops, ↓AW_seq, ↓AW_cond, ↓AW_ret, ↓AOps_nil, ↓AOps_pu, on_some, extK_same, condB_f, ↓then_normal, ↓Fin_ret, pval, rd_S, rd_C, put_S, resV, resL, List.replicate_succ, List.replicate_zero, List.set_cons_zero, List.set_cons_succ, List.getElem?_cons_zero, List.getElem?_cons_succ, Option.getD_some, Nat.reduceSub, List.cons_append, List.nil_append, if_false, Bool.false_eq_true]
      exact gc_val hpK rfl
  · refine CallK.of (s28 (hu.mono hpA) hP) ?_
    simp (maxSteps := 4000000) -implicitDefEqProofs -dsimp (disch := omega) only [↓AOps_call, extK_same, rd_S, put_S, List.replicate_succ, List.replicate_zero, List.set_cons_zero, List.set_cons_succ, List.getElem?_cons_zero, List.getElem?_cons_succ, Option.getD_some, map_c, map_n, Nat.reduceSub, List.cons_append, List.nil_append, List.replicate_zero]
    refine CallK.of (s58 (L1_one A k) (by simp) (c := rs.length) (by omega)) ?_
    simp (maxSteps := 4000000) -implicitDefEqProofs -dsimp (disch := omega) only [↓AOps_ha, ↓AOps_call, on_some, extK_app, extK_same, hval, rd_S, put_S, AV.cells?, splice, fillA, repl, eq_self, List.replicate_succ, List.replicate_zero, List.set_cons_zero, List.set_cons_succ, List.getElem?_cons_zero, List.getElem?_cons_succ, List.drop_zero, List.drop_succ_cons, List.drop_nil, List.take_zero, List.take_succ_cons, Option.getD_some, map_c, map_n, List.length_cons, List.length_nil, Nat.reduceAdd, Nat.reduceSub, Nat.reduceLeDiff, Nat.zero_add, List.cons_append, List.nil_append, List.append_nil, if_true, and_true, List.replicate_zero, repl]
    refine CallK.of (s57 (L1_two _ _ _) (by simp)) ?_
    rw [orE_v, hE]
    generalize A ++ [AObj.cells true [I k]] ++ [AObj.cells true [I (vE Q rs), I (if notOf (rs.length : Int) [k] = true then 4 else 0)]] = A2 at hp2 ⊢
    have hu2 := hu.mono hp2
    by_cases h0 : nE Q rs [k] = 0
    case neg =>
      have e1 : rgA Q rs k = 0 := if_neg (fun h => h0 h.1)
      rw [e1, decide_eq_false (fun h : rgJ Q rs k => h0 h.1)]
      simp (maxSteps := 4000000) -implicitDefEqProofs -dsimp (disch := omega) only [↓AW_ops, ↓AW_seq, ↓AW_cond, ↓AW_ret, ↓AOps_nil, ↓AOps_pu, on_some, extK_same, condB_t, ↓then_normal, ↓then_ret, ↓Fin_ret, pval, rd_S, rd_C, put_S, resV, resL, List.replicate_succ, List.replicate_zero, List.set_cons_zero, List.set_cons_succ, List.getElem?_cons_zero, List.getElem?_cons_succ, Option.getD_some, Nat.reduceSub, List.cons_append, List.nil_append, bin_neq, decide_true, not_false_eq_true, h0]
      exact gc_val hp2 rfl
    obtain ⟨hn, k0, k1⟩ := nE_1 h0
    obtain ⟨P, rfl⟩ := hn.nat
    have hl14 := hn.l
    have hP7 := hn.p7
    rw [h0]
    simp (maxSteps := 4000000) -implicitDefEqProofs -dsimp (disch := omega) only [↓AW_skip, ↓AW_ops, ↓AW_seq, ↓AW_cond, ↓AOps_nil, ↓AOps_pu, ↓AOps_call, on_some, extK_same, condB_f, ↓then_normal, pval, rd_S, rd_C, put_S, chkd, bgot, partA, eq_self, List.replicate_succ, List.replicate_zero, List.set_cons_zero, List.set_cons_succ, List.getElem?_cons_zero, List.getElem?_cons_succ, List.drop_zero, List.take_succ_cons, List.take_nil, Option.getD_some, map_c, map_n, List.length_cons, List.length_nil, Nat.reduceAdd, Nat.reduceSub, Nat.reduceLeDiff, Nat.reduceEqDiff, Nat.zero_add, List.cons_append, List.nil_append, bin_neq, if_true, if_false, decide_false, not_true_eq_false]
    obtain ⟨r1, H1, c1, p1, L, hL, hO⟩ := c_all hu2 hn
    refine CallK.of c1 ?_
    simp (maxSteps := 4000000) -implicitDefEqProofs -dsimp (disch := omega) only [↓AW_ops, ↓AW_seq, ↓AOps_nil, ↓AOps_pu, ↓AOps_call, on_some, extK_false, ↓then_normal, pval, rd_S, put_S, chkd, bgot, partA, eq_self, List.replicate_succ, List.replicate_zero, List.set_cons_zero, List.set_cons_succ, List.getElem?_cons_zero, List.getElem?_cons_succ, List.drop_zero, List.take_succ_cons, List.take_nil, Option.getD_some, map_c, map_n, List.length_cons, List.length_nil, Nat.reduceAdd, Nat.reduceSub, Nat.reduceLeDiff, Nat.reduceEqDiff, Nat.zero_add, List.cons_append, List.nil_append, if_true, if_false]
    obtain ⟨r2, H2, c2, p2, hG⟩ := c_grow (hu2.mono p1) hL hn hO.nos (by rw [hO.len]; omega)
    refine CallK.of c2 ?_
    simp (maxSteps := 4000000) -implicitDefEqProofs -dsimp (disch := omega) only [↓AOps_call, extK_false, rd_S, put_S, List.replicate_succ, List.replicate_zero, List.set_cons_zero, List.set_cons_succ, List.getElem?_cons_zero, List.getElem?_cons_succ, Option.getD_some, map_c, map_n, Nat.reduceSub, List.cons_append, List.nil_append]
    have hgn : Nos rs (srt (grw (rdx rs) [] L)) := fun k hk => grw_nos hO.nos k ((srt_perm _).mem_iff.1 hk)
    have hsm := grw_small hn hO.nos
    have hpH := hp2.trans (p1.trans p2)
    have huH := hu.mono hpH
    refine CallK.of (s60 huH hG hn hgn (by rw [srt_len]; omega)) ?_
    by_cases hj : Jbl P rs
    case neg =>
      have hjj : ¬ rgJ P rs k := fun h => hj (by have := h.2; rwa [Int.toNat_natCast] at this)
      have e1 : rgA P rs k = 0 := if_neg hjj
      rw [e1, decide_eq_false hjj, decide_eq_false (fun hh => hj ((jbl_grw hn hO).1 hh))]
      simp (maxSteps := 4000000) -implicitDefEqProofs -dsimp (disch := omega) only [↓AW_ops, ↓AW_seq, ↓AW_cond, ↓AW_ret, ↓AOps_nil, ↓AOps_pu, on_some, extK_same, condB_t, ↓then_normal, ↓then_ret, ↓Fin_ret, pval, rd_S, rd_C, put_S, resV, resL, List.replicate_succ, List.replicate_zero, List.set_cons_zero, List.set_cons_succ, List.getElem?_cons_zero, List.getElem?_cons_succ, Option.getD_some, Nat.reduceSub, List.cons_append, List.nil_append, Bool.not_false]
      exact gc_val hpH rfl
    have hjj : rgJ P rs k := ⟨h0, by rw [Int.toNat_natCast]; exact hj⟩
    have e1 : rgA P rs k = (bt rs (but rs k) (rdx rs k).1 (rdx rs k).2.1).getD 99 := if_pos hjj
    rw [e1, decide_eq_true hjj, decide_eq_true ((jbl_grw hn hO).2 hj)]
    simp (maxSteps := 4000000) -implicitDefEqProofs -dsimp (disch := omega) only [↓AW_skip, ↓AW_ops, ↓AW_seq, ↓AW_cond, ↓AOps_nil, ↓AOps_pu, ↓AOps_call, on_some, extK_same, condB_f, ↓then_normal, pval, rd_S, put_S, chkd, bgot, partA, eq_self, List.replicate_succ, List.replicate_zero, List.set_cons_zero, List.set_cons_succ, List.getElem?_cons_zero, List.getElem?_cons_succ, List.drop_zero, List.take_succ_cons, List.take_nil, Option.getD_some, map_c, map_n, List.length_cons, List.length_nil, Nat.reduceAdd, Nat.reduceSub, Nat.reduceLeDiff, Nat.reduceEqDiff, Nat.zero_add, List.cons_append, List.nil_append, if_true, if_false, Bool.not_true]
    obtain ⟨r3, H3, c3, p3, hW⟩ := s63 (hL.mono p2) (by rw [hO.len]; omega) (by rw [hO.len]; omega) k
    refine CallK.of c3 ?_
    have hpK := hpH.trans p3
    have huK := hu.mono hpK
    obtain ⟨hr, _⟩ := rdx_at k0 k1
    have hri := huK.idxI (k := .i64) k0 (show k < (rs.length : Int) by omega)
    obtain ⟨ha, hb⟩ := hn.inP k0 k1
    simp (maxSteps := 4000000) -implicitDefEqProofs -dsimp (disch := omega) only [↓AOps_pu, ↓AOps_ld, ↓AOps_call, on_some, pval, lval, rd_S, put_S, chkd, isAdr, bgot, AV.cells?, partA, eq_self, List.replicate_succ, List.replicate_zero, List.set_cons_zero, List.set_cons_succ, List.getElem?_cons_zero, List.getElem?_cons_succ, List.drop_zero, List.drop_succ_cons, List.take_zero, List.take_succ_cons, List.take_nil, Option.getD_some, map_c, map_n, List.length_cons, List.length_nil, Nat.reduceAdd, Nat.reduceSub, Nat.reduceLeDiff, Nat.zero_add, Nat.add_zero, List.cons_append, List.nil_append, if_true, if_false, Bool.false_eq_true, extK_of p3, hri, huK.ld0 hr 1 false (by decide), huK.ld hr 1 1 false (by decide), e3]
    have hwn : Nos rs (without L k) := fun i hi => hO.nos i (List.mem_filter.1 hi).1
    obtain ⟨c, ok, c4, hLS⟩ := c_least huK hW hn hwn (by have := without_le L k; rw [hO.len] at this; omega) (a := (rdx rs k).1) (b := (rdx rs k).2.1) ha hb
    refine CallK.of c4 ?_
    obtain ⟨hbt, hok⟩ := LS_bt (M := but rs k) (hO.s.filter _) (fun i => by
      unfold but
      rw [List.mem_filter, List.mem_filter, hO.p.mem_iff]
      simp) (fun i hi => hn.wb (hwn i hi).1 (hwn i hi).2) hLS
    rw [hbt]
    cases ok with
    | true =>
      simp (maxSteps := 4000000) -implicitDefEqProofs -dsimp (disch := omega) only [↓AW_ops, ↓AW_seq, ↓AW_cond, ↓AW_ret, ↓AOps_nil, ↓AOps_pu, on_some, extK_same, condB_t, ↓then_normal, ↓then_ret, ↓Fin_ret, pval, rd_S, rd_C, put_S, resV, resL, eq_self, List.replicate_succ, List.replicate_zero, List.set_cons_zero, List.set_cons_succ, List.getElem?_cons_zero, List.getElem?_cons_succ, Option.getD_some, Nat.reduceSub, List.cons_append, List.nil_append, if_true]
      exact gc_val hpK rfl
    | false =>
      simp (maxSteps := 4000000) -implicitDefEqProofs -dsimp (disch := omega) only [↓AW_skip, ↓AW_ops, ↓AW_seq, ↓AW_cond, ↓AW_ret, ↓AOps_nil, ↓AOps_pu, on_some, extK_same, condB_f, ↓then_normal, ↓Fin_ret, pval, rd_S, rd_C, put_S, resV, resL, List.replicate_succ, List.replicate_zero, List.set_cons_zero, List.set_cons_succ, List.getElem?_cons_zero, List.getElem?_cons_succ, Option.getD_some, Nat.reduceSub, List.cons_append, List.nil_append, if_false, Bool.false_eq_true]
      exact gc_val hpK rfl
set_option maxRecDepth 20000 in
set_option maxHeartbeats 16000000 in
theorem s20 (hu : L3 A u rs) (hP : W Q) (k : Int) : ACalls Try.prog 20 [.agg [I Q, u], I k] A (.tuple [I (rgA Q rs k), B (decide (rgJ Q rs k)), I (nE Q rs [k])]) A := by
  refine acalls hmix Try.func20 (by kernel_rfl) t20 2 rfl (by decide) ?_
  dsimp only [m20]
  simp (maxSteps := 4000000) -implicitDefEqProofs -dsimp (disch := omega) only [↓AW_ops, ↓AW_seq, ↓AOps_nil, ↓AOps_pu, ↓AOps_ha, ↓AOps_call, on_some, extK_app, ↓then_normal, pval, hval, rd_S, rd_C, put_S, chkd, bgot, AV.cells?, splice, partA, fillA, repl, eq_self, List.replicate_succ, List.replicate_zero, List.set_cons_zero, List.set_cons_succ, List.getElem?_cons_zero, List.getElem?_cons_succ, List.drop_zero, List.drop_succ_cons, List.drop_nil, List.take_zero, List.take_succ_cons, List.take_nil, Option.getD_some, map_c, map_n, List.length_cons, List.length_nil, Nat.reduceAdd, Nat.reduceSub, Nat.reduceLeDiff, Nat.reduceEqDiff, Nat.zero_add, List.cons_append, List.nil_append, List.append_nil, if_true, if_false, and_true, List.replicate_zero, repl]
  have hpA := pre_app A [AObj.cells true [I k]]
  refine CallK.of (s64 (hu.mono hpA) hP (L1_one A k) (by simp)) ?_
  by_cases h0 : nE Q rs [k] = 0
  case neg =>
    have e1 : rgA Q rs k = 0 := if_neg (fun h => h0 h.1)
    rw [e1, decide_eq_false (fun h : rgJ Q rs k => h0 h.1)]
    simp (maxSteps := 4000000) -implicitDefEqProofs -dsimp (disch := omega) only [↓AW_ops, ↓AW_seq, ↓AW_cond, ↓AW_ret, ↓AOps_nil, ↓AOps_pu, on_some, extK_same, condB_t, ↓then_normal, ↓then_ret, ↓Fin_ret, pval, rd_S, rd_C, put_S, resV, resL, List.replicate_succ, List.replicate_zero, List.set_cons_zero, List.set_cons_succ, List.getElem?_cons_zero, List.getElem?_cons_succ, Option.getD_some, Nat.reduceSub, List.cons_append, List.nil_append, bin_neq, decide_true, not_false_eq_true, h0]
    exact gc_val hpA rfl
  obtain ⟨hn, k0, k1⟩ := nE_1 h0
  obtain ⟨P, rfl⟩ := hn.nat
  have hl14 := hn.l
  rw [h0]
  simp (maxSteps := 4000000) -implicitDefEqProofs -dsimp (disch := omega) only [↓AW_skip, ↓AW_ops, ↓AW_seq, ↓AW_cond, ↓AOps_nil, ↓AOps_pu, ↓AOps_call, on_some, extK_same, condB_f, ↓then_normal, pval, rd_S, rd_C, put_S, chkd, bgot, partA, eq_self, List.replicate_succ, List.replicate_zero, List.set_cons_zero, List.set_cons_succ, List.getElem?_cons_zero, List.getElem?_cons_succ, List.drop_zero, List.take_succ_cons, List.take_nil, Option.getD_some, map_c, map_n, List.length_cons, List.length_nil, Nat.reduceAdd, Nat.reduceSub, Nat.reduceLeDiff, Nat.reduceEqDiff, Nat.zero_add, List.cons_append, List.nil_append, bin_neq, if_true, if_false, decide_false, not_true_eq_false]
  obtain ⟨r1, H1, c1, p1, ws, hnl, hli⟩ := c_Trees (hu.mono hpA) hn
  refine CallK.of c1 ?_
  have hwl : ws.length = (trees P rs).length := by rw [← hli]; simp
  have hpH := hpA.trans p1
  have hlen := (AccL_ls hnl.acc e0_len).len
  by_cases hj : Jbl P rs
  case neg =>
    have hjj : ¬ rgJ P rs k := fun h => hj (by have := h.2; rwa [Int.toNat_natCast] at this)
    have e1 : rgA P rs k = 0 := if_neg hjj
    rw [e1, decide_eq_false hjj]
    have hnil : trees P rs = [] := Classical.byContradiction (fun e => hj ((jbl_trees hn).2 e))
    have h00 : ws.length = 0 := by rw [hwl, hnil]; rfl
    rw [h00] at hlen
    have hlen0 : lenA r1 = some (I 0) := by have := hlen; simpa using this
    simp (maxSteps := 4000000) -implicitDefEqProofs -dsimp (disch := omega) only [↓AW_ops, ↓AW_seq, ↓AW_cond, ↓AW_ret, ↓AOps_nil, ↓AOps_pu, on_some, extK_false, condB_t, ↓then_normal, ↓then_ret, ↓Fin_ret, pval, rd_S, rd_C, put_S, resV, resL, eq_self, List.replicate_succ, List.replicate_zero, List.set_cons_zero, List.set_cons_succ, List.getElem?_cons_zero, List.getElem?_cons_succ, Option.getD_some, Nat.reduceSub, List.cons_append, List.nil_append, bin_eql, decide_true, hlen0]
    exact gc_val hpH rfl
  have hjj : rgJ P rs k := ⟨h0, by rw [Int.toNat_natCast]; exact hj⟩
  have hne : ¬ ((ws.length : Int) = 0) := by
    have := (jbl_trees hn).1 hj
    have : 0 < (trees P rs).length := List.length_pos_iff.2 this
    omega
  obtain ⟨hr, _⟩ := rdx_at k0 k1
  have huH := hu.mono hpH
  have hri := huH.idxI (k := .i64) k0 (show k < (rs.length : Int) by omega)
  obtain ⟨⟨a0, a1⟩, ⟨b0, b1⟩⟩ := hn.inP k0 k1
  have e1 : rgA P rs k = (bt rs (but rs k) (rdx rs k).1 (rdx rs k).2.1).getD 99 := if_pos hjj
  rw [e1, decide_eq_true hjj]
  simp (maxSteps := 4000000) -implicitDefEqProofs -dsimp (disch := omega) only [↓AW_skip, ↓AW_ops, ↓AW_seq, ↓AW_cond, ↓AW_block, ↓AOps_nil, ↓AOps_pu, ↓AOps_ld, on_some, extK_false, condB_f, ↓then_normal, pval, lval, rd_S, rd_C, put_S, ↓AW_toLoop, chkd, isAdr, bput, bgot, AV.cells?, splice, partA, eq_self, List.replicate_succ, List.replicate_zero, List.set_cons_zero, List.set_cons_succ, List.getElem?_cons_zero, List.getElem?_cons_succ, List.drop_zero, List.drop_succ_cons, List.drop_nil, List.take_zero, List.take_succ_cons, List.take_nil, Option.getD_some, List.length_cons, List.length_nil, Nat.reduceAdd, Nat.reduceSub, Nat.reduceLeDiff, Nat.reduceEqDiff, Nat.zero_add, List.cons_append, List.nil_append, List.append_nil, bin_eql, if_true, if_false, Bool.false_eq_true, decide_false, ne_eq, not_true_eq_false, hlen, hne, hri, huH.ld0 hr 3 true (by decide), e3]
  generalize (rdx rs k).1 = a at *
  generalize (rdx rs k).2.1 = b at *
  generalize (rdx rs k).2.2 = w at *
  refine LoopK.by 46 (fun x : Int × AHeap => (0 ≤ x.1 ∧ x.1 ≤ 99) ∧ A <+: x.2 ∧ (x.1 = 99 ∨ cnT rs (but rs k) x.1 a b)) (fun x => [(1, I k), (2, .agg [I P, u]), (8, .agg [I a, I b, I w]), (9, I x.1)]) (fun x => x.2) (fun x => x.1.toNat) (99, H1) ⟨by simp only; omega, hpH, .inl rfl⟩ rfl (by simp [Has, rd_s]) rfl ?_
  rintro ⟨c, H⟩ ⟨⟨c0, c99⟩, hp, hcn⟩
  simp only at c0 c99 hp hcn
  by_cases hc : c = 0
  · subst hc
    rw [rg_end hn (Int.le_refl 0) (by omega) hcn (.inl rfl)]
    simp (maxSteps := 4000000) -implicitDefEqProofs -dsimp (disch := omega) only [↓AW_ops, ↓AW_seq, ↓AW_cond, ↓AW_exit, ↓AW_ret, ↓AOps_nil, ↓AOps_pu, ↓AOps_guard, on_some, guardB_ft, skipS_some, condB_f, ↓then_normal, ↓then_exit, ↓inBlock_exit, ↓Fin_ret, pval, rd_S, rd_C, put_S, resV, resL, eq_self, mk, List.foldl_cons, List.foldl_nil, List.replicate_succ, List.replicate_zero, List.set_cons_zero, List.set_cons_succ, List.getElem?_cons_zero, List.getElem?_cons_succ, Option.getD_some, bin_gtr, if_true, if_false, Bool.false_eq_true, decide_false, Int.reduceLT]
    exact gc_val hp rfl
  have hc' : 0 < c := by omega
  obtain ⟨r2, H2, c2, p2, hL⟩ := c_cheap (hu.mono hp) hn (c - 1) k
  simp (maxSteps := 4000000) -implicitDefEqProofs -dsimp (disch := omega) only [↓AW_ops, ↓AW_seq, ↓AOps_pu, ↓AOps_call, ↓AOps_guard, on_some, guardB_tt, pval, rd_S, rd_C, put_S, chkd, isAdr, bgot, AV.cells?, partA, eq_self, mk, List.foldl_cons, List.foldl_nil, List.replicate_succ, List.replicate_zero, List.set_cons_zero, List.set_cons_succ, List.getElem?_cons_zero, List.getElem?_cons_succ, List.drop_zero, List.take_zero, List.take_succ_cons, List.take_nil, Option.getD_some, map_c, map_n, List.length_cons, List.length_nil, Nat.reduceAdd, Nat.reduceLeDiff, Nat.reduceEqDiff, Nat.zero_add, bin_sub, bin_gtr, w64, if_true, if_false, Bool.false_eq_true, decide_true, hc']
  refine CallK.of c2 ?_
  simp (maxSteps := 4000000) -implicitDefEqProofs -dsimp (disch := omega) only [↓AOps_call, ↓AOps_guard, extK_false, guardB_tt, rd_S, put_S, mk, List.foldl_cons, List.foldl_nil, List.replicate_succ, List.replicate_zero, List.set_cons_zero, List.set_cons_succ, List.getElem?_cons_zero, List.getElem?_cons_succ, Option.getD_some, map_c, map_n]
  refine CallK.of (s66 ((hu.mono hp).mono p2) hL hn (chB_nos _ _) (by have := List.length_filter_le (fun i => decide (¬ i = k ∧ wct rs i ≤ (c - 1))) (nums rs); rw [plc_len] at this; unfold chB; omega) (s := a) a0 a1) ?_
  have hm := mp_new H2 (.cells true (bl P (fun p => decide (Cn ((chB rs (c - 1) k).map (rdx rs)) a p))))
  have hp3 : A <+: rchH H2 P ((chB rs (c - 1) k).map (rdx rs)) a := (hp.trans p2).trans (pre_app _ _)
  have hld := ldB hm (k := b) b0 b1
  have hiff : Cn ((chB rs (c - 1) k).map (rdx rs)) a b ↔ cnT rs (but rs k) (c - 1) a b := chB_cn
  unfold rchH at hp3 ⊢
  by_cases hq : cnT rs (but rs k) (c - 1) a b
  · rw [decide_eq_true (hiff.2 hq)] at hld
    simp (maxSteps := 4000000) -implicitDefEqProofs -dsimp (disch := omega) only [↓AW_skip, ↓AW_ops, ↓AW_cond, ↓AW_block, ↓AOps_nil, ↓AOps_pu, ↓AOps_ld, ↓AOps_guard, on_some, extK_app, guardB_tt, condB_t, ↓then_normal, ↓inBlock_normal, pval, lval, rd_S, rd_C, put_S, chkd, isAdr, bgot, AV.cells?, partA, eq_self, mk, List.foldl_cons, List.foldl_nil, List.replicate_succ, List.replicate_zero, List.set_cons_zero, List.set_cons_succ, List.getElem?_cons_zero, List.getElem?_cons_succ, List.drop_zero, List.drop_succ_cons, List.take_zero, List.take_succ_cons, Option.getD_some, List.length_cons, List.length_nil, Nat.reduceAdd, Nat.reduceLeDiff, Nat.zero_add, bin_sub, w64, if_true, if_false, Bool.false_eq_true, true_and, idxB, hld]
    exact ⟨(c - 1, _), ⟨by simp only; omega, hp3, .inr hq⟩, by simp [Has, rd_s], rfl, by simp only; omega⟩
  · rw [decide_eq_false (fun h => hq (hiff.1 h))] at hld
    rw [rg_end hn c0 c99 hcn (.inr hq)]
    simp (maxSteps := 4000000) -implicitDefEqProofs -dsimp (disch := omega) only [↓AW_ops, ↓AW_seq, ↓AW_cond, ↓AW_exit, ↓AW_ret, ↓AOps_nil, ↓AOps_pu, ↓AOps_ld, ↓AOps_guard, on_some, extK_app, guardB_tt, condB_f, ↓then_normal, ↓then_exit, ↓inBlock_exit, ↓Fin_ret, pval, lval, rd_S, rd_C, put_S, resV, resL, chkd, isAdr, bgot, AV.cells?, partA, eq_self, mk, List.foldl_cons, List.foldl_nil, List.replicate_succ, List.replicate_zero, List.set_cons_zero, List.set_cons_succ, List.getElem?_cons_zero, List.getElem?_cons_succ, List.drop_zero, List.drop_succ_cons, List.take_zero, List.take_succ_cons, Option.getD_some, List.length_cons, List.length_nil, Nat.reduceAdd, Nat.reduceLeDiff, Nat.zero_add, if_true, if_false, Bool.false_eq_true, idxB, hld]
    exact gc_val hp3 rfl
theorem s3 (hu : L3 A u rs) (hP : W Q) (k : Int) : ACalls Try.prog 3 [.agg [I Q, u], I k] A (B true) A := by
  refine acalls hmix Try.func3 (by kernel_rfl) t3 2 rfl (by decide) ?_
  dsimp only [m3]
  simp (maxSteps := 4000000) -implicitDefEqProofs -dsimp (disch := omega) only [↓AW_ops, ↓AW_seq, ↓AOps_nil, ↓AOps_pu, ↓AOps_call, on_some, ↓then_normal, pval, rd_S, rd_C, put_S, chkd, bgot, AV.cells?, partA, eq_self, List.replicate_succ, List.replicate_zero, List.set_cons_zero, List.set_cons_succ, List.getElem?_cons_zero, List.getElem?_cons_succ, List.drop_zero, List.take_succ_cons, List.take_nil, Option.getD_some, map_c, map_n, List.length_cons, List.length_nil, Nat.reduceAdd, Nat.reduceSub, Nat.reduceLeDiff, Nat.reduceEqDiff, Nat.zero_add, List.cons_append, List.nil_append, if_true, if_false]
  refine CallK.of (s17 hu Q) ?_
  by_cases h1 : (100 : Int) < rs.length
  · simp (maxSteps := 4000000) -implicitDefEqProofs -dsimp (disch := omega) only [↓AW_ops, ↓AW_seq, ↓AW_cond, ↓AOps_nil, ↓AOps_call, extK_same, condB_t, ↓then_normal, rd_S, put_S, List.replicate_succ, List.replicate_zero, List.set_cons_zero, List.set_cons_succ, List.getElem?_cons_zero, List.getElem?_cons_succ, Option.getD_some, map_n, Nat.reduceSub, List.cons_append, List.nil_append, decide_true, h1]
    refine CallK.of (known A) ?_
    simp (maxSteps := 4000000) -implicitDefEqProofs -dsimp (disch := omega) only [↓AW_ret, ↓AOps_nil, ↓AOps_pu, on_some, extK_same, ↓then_normal, ↓then_ret, ↓Fin_ret, pval, rd_S, put_S, resV, resL, List.replicate_succ, List.replicate_zero, List.set_cons_zero, List.set_cons_succ, List.getElem?_cons_zero, List.getElem?_cons_succ, Option.getD_some, Nat.reduceSub, List.cons_append, List.nil_append]
    exact gc_same rfl
  simp (maxSteps := 4000000) -implicitDefEqProofs -dsimp (disch := omega) only [↓AW_skip, ↓AW_ops, ↓AW_seq, ↓AW_cond, ↓AOps_nil, ↓AOps_pu, ↓AOps_call, on_some, extK_same, condB_f, ↓then_normal, pval, rd_S, put_S, chkd, bgot, partA, eq_self, List.replicate_succ, List.replicate_zero, List.set_cons_zero, List.set_cons_succ, List.getElem?_cons_zero, List.getElem?_cons_succ, List.drop_zero, List.take_succ_cons, List.take_nil, Option.getD_some, map_c, map_n, List.length_cons, List.length_nil, Nat.reduceAdd, Nat.reduceSub, Nat.reduceLeDiff, Nat.reduceEqDiff, Nat.zero_add, List.cons_append, List.nil_append, if_true, if_false, decide_false, h1]
  refine CallK.of (s19 hu hP k (by omega)) ?_
  simp (maxSteps := 4000000) -implicitDefEqProofs -dsimp (disch := omega) only [↓AW_ops, ↓AW_seq, ↓AOps_nil, ↓AOps_pu, ↓AOps_call, on_some, extK_same, ↓then_normal, pval, rd_S, put_S, chkd, bgot, partA, eq_self, List.replicate_succ, List.replicate_zero, List.set_cons_zero, List.set_cons_succ, List.getElem?_cons_zero, List.getElem?_cons_succ, List.drop_zero, List.take_succ_cons, List.take_nil, Option.getD_some, map_c, map_n, List.length_cons, List.length_nil, Nat.reduceAdd, Nat.reduceSub, Nat.reduceLeDiff, Nat.reduceEqDiff, Nat.zero_add, List.cons_append, List.nil_append, if_true, if_false]
  refine CallK.of (s20 hu hP k) ?_
  simp (maxSteps := 4000000) -implicitDefEqProofs -dsimp (disch := omega) only [↓AW_ops, ↓AW_seq, ↓AOps_nil, ↓AOps_pu, ↓AOps_call, ↓AOps_guard, on_some, extK_same, guardB_tt, ↓then_normal, pval, rd_S, rd_C, put_S, beq_self_eq_true, eq_self, List.replicate_succ, List.replicate_zero, List.set_cons_zero, List.set_cons_succ, List.getElem?_cons_zero, List.getElem?_cons_succ, Option.getD_some, map_n, Nat.reduceSub, List.cons_append, List.nil_append, bin_eql, if_true, if_false, Bool.false_eq_true, Bool.not_true, decide_true]
  refine CallK.of (known A) ?_
  simp (maxSteps := 4000000) -implicitDefEqProofs -dsimp (disch := omega) only [↓AW_ret, ↓AOps_nil, ↓AOps_pu, on_some, extK_same, ↓then_normal, ↓Fin_ret, pval, rd_S, rd_C, put_S, resV, resL, eq_self, List.replicate_succ, List.replicate_zero, List.set_cons_zero, List.set_cons_succ, List.getElem?_cons_zero, List.getElem?_cons_succ, Option.getD_some, Nat.reduceSub, List.cons_append, List.nil_append, if_true]
  exact gc_same rfl
end
end Go.Proofs.Ytkgfcdpckfhknaa

