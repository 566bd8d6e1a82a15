/- Wishes: the chain of changes, as the program does it. No conditions. -/
import Derived.Test.YtlmbobbefgcolaaP3
import Derived.Test.YtlmbobbefgcolaaW6
namespace Go.Proofs.Ytlmbobbefgcolaa
open Go Go.Eng

def eb (b : Bool) : List AV := [B b]
theorem eb_len (b : Bool) : (eb b).length = 1 := rfl
abbrev Lb := Ls 1 eb

/-- Where a chain stands: the wishes' box, the box of what was seen, the chain's own box, what was seen, the giving. -/
structure Ctx (P : Int) (A H : AHeap) (v : AV) (nw ns nc na ng n : Nat) (fa fg : Bool) : Prop where
  pre : A <+: H
  la : A.length ≤ na
  lg : A.length ≤ ng
  ne : na ≠ ng
  hna : na < H.length
  hng : ng < H.length
  w : ∃ rw, H[nw]? = some (.cells rw [I P, v, .sl 1 ng 0 n fg])
  s : ∃ rw, H[ns]? = some (.cells rw [.sl 1 na 0 P.toNat fa])
  c : ∃ rw, H[nc]? = some (.cells rw [.fn 101 [.ptr nw 0, .ptr ns 0, .ptr nc 0]])
  w1 : nw ≠ na
  w2 : nw ≠ ng
  s1 : ns ≠ na
  s2 : ns ≠ ng
  c1 : nc ≠ na
  c2 : nc ≠ ng

def hpS (H : AHeap) (na ng : Nat) (s : St) : AHeap := (H.set na (.cells true (s.1.flatMap eb))).set ng (.cells true (s.2.flatMap e1))

section
variable {P : Int} {A H : AHeap} {v : AV} {nw ns nc na ng n : Nat} {fa fg : Bool}

theorem Ctx.get (c : Ctx P A H v nw ns nc na ng n fa fg) (s : St) {k : Nat} (h1 : k ≠ na) (h2 : k ≠ ng) : (hpS H na ng s)[k]? = H[k]? := by
  unfold hpS
  rw [List.getElem?_set_ne (Ne.symm h2), List.getElem?_set_ne (Ne.symm h1)]
theorem Ctx.getA (c : Ctx P A H v nw ns nc na ng n fa fg) (s : St) : (hpS H na ng s)[na]? = some (.cells true (s.1.flatMap eb)) := by
  unfold hpS
  rw [List.getElem?_set_ne (Ne.symm c.ne), List.getElem?_set_self c.hna]
theorem Ctx.getG (c : Ctx P A H v nw ns nc na ng n fa fg) (s : St) : (hpS H na ng s)[ng]? = some (.cells true (s.2.flatMap e1)) := by
  unfold hpS
  rw [List.getElem?_set_self (by rw [List.length_set]; exact c.hng)]
theorem Ctx.setA (c : Ctx P A H v nw ns nc na ng n fa fg) (s : St) (b : List Bool) : (hpS H na ng s).set na (.cells true (b.flatMap eb)) = hpS H na ng (b, s.2) := by
  unfold hpS
  rw [List.set_comm _ _ (Ne.symm c.ne), List.set_set]
theorem Ctx.setG (c : Ctx P A H v nw ns nc na ng n fa fg) (s : St) (g : List Int) : (hpS H na ng s).set ng (.cells true (g.flatMap e1)) = hpS H na ng (s.1, g) := by
  unfold hpS
  rw [List.set_set]
theorem Ctx.preS (c : Ctx P A H v nw ns nc na ng n fa fg) (s : St) : A <+: hpS H na ng s := pre_set (pre_set c.pre c.la _) c.lg _

theorem Ctx.ola (c : Ctx P A H v nw ns nc na ng n fa fg) (s : St) (hl : s.1.length = P.toNat) : OL 1 eb A (hpS H na ng s) na (.sl 1 na 0 P.toNat fa) s.1 := ⟨eb_len, c.preS s, c.la, c.getA s, fa, by rw [hl]⟩
theorem Ctx.olg (c : Ctx P A H v nw ns nc na ng n fa fg) (s : St) (hl : s.2.length = n) : OL 1 e1 A (hpS H na ng s) ng (.sl 1 ng 0 n fg) s.2 := ⟨e1_len, c.preS s, c.lg, c.getG s, fg, by rw [hl]⟩

theorem Ctx.ldw (c : Ctx P A H v nw ns nc na ng n fa fg) (s : St) : ldA 1 false (.ptr nw 1) (hpS H na ng s) = some v ∧ ldA 1 false (.ptr nw 2) (hpS H na ng s) = some (.sl 1 ng 0 n fg) ∧ ldA 3 true (.ptr nw 0) (hpS H na ng s) = some (.agg [I P, v, .sl 1 ng 0 n fg]) := by
  obtain ⟨rw, h⟩ := c.w
  have := c.get s c.w1 c.w2
  rw [h] at this
  simp [ldA, this, partA]
theorem Ctx.lds (c : Ctx P A H v nw ns nc na ng n fa fg) (s : St) : ldA 1 false (.ptr ns 0) (hpS H na ng s) = some (.sl 1 na 0 P.toNat fa) := by
  obtain ⟨rw, h⟩ := c.s
  have := c.get s c.s1 c.s2
  rw [h] at this
  simp [ldA, this, partA]
theorem Ctx.ldc (c : Ctx P A H v nw ns nc na ng n fa fg) (s : St) : ldA 1 false (.ptr nc 0) (hpS H na ng s) = some (.fn 101 [.ptr nw 0, .ptr ns 0, .ptr nc 0]) := by
  obtain ⟨rw, h⟩ := c.c
  have := c.get s c.c1 c.c2
  rw [h] at this
  simp [ldA, this, partA]
end

theorem s89 {P : Int} {v u : AV} {g : List Int} {A : AHeap} (hg : L1 A u g) (hl : g.length ≤ 1000000) (p : Int) : ACalls Try.prog 89 [.agg [I P, v, u], I p] A (I (fpos (fun y => decide (p = y)) g)) A := by
  refine acalls hmix Try.func89 (by kernel_rfl) t89 2 rfl (by decide) ?_
  dsimp only [m89]
  simp (maxSteps := 4000000) -implicitDefEqProofs -dsimp (disch := omega) only [↓AW_ops, ↓AW_seq, ↓AOps_nil, ↓AOps_pu, ↓AOps_call, on_some, ↓then_normal, pval, rd_S, rd_C, put_S, chkd, isAdr, bgot, AV.cells?, partA, eq_self, List.replicate_succ, List.replicate_zero, List.set_cons_zero, List.set_cons_succ, List.getElem?_cons_zero, List.getElem?_cons_succ, List.drop_zero, List.drop_succ_cons, List.take_succ_cons, List.take_nil, Option.getD_some, map_c, map_n, List.length_cons, List.length_nil, Nat.reduceAdd, Nat.reduceSub, Nat.reduceLeDiff, Nat.zero_add, List.cons_append, List.nil_append, if_true, if_false, Bool.false_eq_true]
  refine CallK.of (c_Index hg hl p) ?_
  simp (maxSteps := 4000000) -implicitDefEqProofs -dsimp (disch := omega) only [↓AW_ret, ↓AOps_nil, ↓AOps_pu, on_some, extK_same, ↓then_normal, ↓Fin_ret, pval, rd_S, put_S, resV, resL, List.replicate_succ, List.replicate_zero, List.set_cons_zero, List.set_cons_succ, List.getElem?_cons_zero, List.getElem?_cons_succ, Option.getD_some, Nat.reduceSub, List.cons_append, List.nil_append]
  exact gc_same rfl

theorem sn_get {b : List Bool} {p : Int} (h : p.toNat < b.length) : b[p.toNat]? = some (sn b p) := by
  unfold sn
  rw [List.getElem?_eq_getElem h]
  rfl

theorem s101_step {P : Int} {ws : List (AV × List Int)} {A H : AHeap} {v : AV} {nw ns nc na ng : Nat} {fa fg : Bool} (hv : Val P (lists ws)) (hw : LL A v ws) (c : Ctx P A H v nw ns nc na ng ws.length fa fg) (m : Nat)
    (hrec : ∀ (i : Int) (s : St), inP ws.length i → s.1.length = P.toNat → Good P (lists ws) s.2 → unseen s.1 + 1 ≤ m → ACalls Try.prog 101 [I i, .ptr nw 0, .ptr ns 0, .ptr nc 0] (hpS H na ng s) (B (chF (lists ws) m i s).1) (hpS H na ng (chF (lists ws) m i s).2))
    (i : Int) (s : St) (hi : inP ws.length i) (hl : s.1.length = P.toNat) (hg : Good P (lists ws) s.2) (hm : unseen s.1 ≤ m) :
      ACalls Try.prog 101 [I i, .ptr nw 0, .ptr ns 0, .ptr nc 0] (hpS H na ng s) (B (chF (lists ws) (m + 1) i s).1) (hpS H na ng (chF (lists ws) (m + 1) i s).2) := by
  have hls : ∀ l ∈ lists ws, ∀ p ∈ l, inP P p := fun l hl => (hv.l l hl).1
  have hP := hv.hP
  have hn : ws.length ≤ 7 := by simpa using hv.n
  have hlsn : (lists ws).length = ws.length := by simp
  obtain ⟨x, hx, hlx⟩ := lst_get hi
  have hxm := List.mem_of_getElem? hx
  have hx2 := hv.len (show x.2 ∈ lists ws from List.mem_map.2 ⟨x, hxm, rfl⟩)
  have hxP := hls x.2 (List.mem_map.2 ⟨x, hxm, rfl⟩)
  have hltw : i.toNat < ws.length := (List.getElem?_eq_some_iff.1 hx).1
  rw [chF, hlx]
  refine acalls hmix Try.func101 (by kernel_rfl) t101 4 rfl (by decide) ?_
  obtain ⟨w1, w2, w3⟩ := c.ldw s
  have hw0 := hw.mono (c.preS s)
  dsimp only [m101]
  simp (maxSteps := 4000000) -implicitDefEqProofs -dsimp (disch := omega) only [↓AW_ops, ↓AW_seq, ↓AW_block, ↓AOps_nil, ↓AOps_pu, ↓AOps_ld, on_some, ↓then_normal, pval, lval, rd_S, rd_C, put_S, ↓AW_toLoop, partA, eq_self, List.replicate_succ, List.replicate_zero, List.set_cons_zero, List.set_cons_succ, List.getElem?_cons_zero, List.getElem?_cons_succ, List.drop_zero, List.take_succ_cons, List.take_nil, Option.getD_some, List.length_cons, List.length_nil, Nat.reduceSub, Nat.reduceLeDiff, Nat.zero_add, Nat.add_zero, List.cons_append, List.nil_append, if_true, if_false, Bool.false_eq_true, w1, hw0.ls.idxI (k := .i64) hi.1 hi.2, hw0.ls.ld0 hx 1 false (by decide), e0, (hw0.inn x hxm).len]
  refine LoopK.by 43 (fun y : Nat × St => y.1 ≤ x.2.length ∧ y.2.1.length = P.toNat ∧ Good P (lists ws) y.2.2 ∧ unseen y.2.1 ≤ m ∧ goF (chF (lists ws) m) i x.2 s = goF (chF (lists ws) m) i (x.2.drop y.1) y.2)
    (fun y => [(0, I i), (1, .ptr nw 0), (2, .ptr ns 0), (3, .ptr nc 0), (14, x.1), (15, I x.2.length), (16, I y.1)]) (fun y => hpS H na ng y.2) (fun y => x.2.length - y.1) (0, s) ⟨by simp only; omega, hl, hg, hm, rfl⟩ rfl (by simp [Has, rd_s]) rfl ?_
  rintro ⟨k, t⟩ ⟨hk, tl, tg, tm, te⟩
  simp only at hk tl tg tm te
  by_cases hltk : k < x.2.length
  · obtain ⟨p, hzp⟩ : ∃ p, x.2[k]? = some p := ⟨_, List.getElem?_eq_getElem hltk⟩
    have hltk' : (k : Int) < x.2.length := by omega
    have hp := hxP p (List.mem_of_getElem? hzp)
    have hp2 : p < (t.1.length : Int) := by rw [tl]; have := hp.1; have := hp.2; omega
    have hpn : p.toNat < t.1.length := by have := hp.1; omega
    have hdr : x.2.drop k = p :: x.2.drop (k + 1) := by
      have := (List.getElem?_eq_some_iff.1 hzp).2
      rw [← this]; exact List.drop_eq_getElem_cons hltk
    rw [hdr, goF] at te
    have hxt := (hw.inn x hxm).mono (c.preS t)
    have hoa := c.ola t tl
    have hget := sn_get hpn
    by_cases hsn : sn t.1 p = true
    · rw [if_pos hsn] at te
      rw [hsn] at hget
      simp (maxSteps := 4000000) -implicitDefEqProofs -dsimp (disch := omega) only [↓AW_skip, ↓AW_ops, ↓AW_seq, ↓AW_cond, ↓AW_block, ↓AW_exit, ↓AW_ret, ↓AOps_nil, ↓AOps_pu, ↓AOps_ld, on_some, condB_t, ↓then_normal, ↓then_exit, ↓inBlock_exit, ↓Fin_ret, pval, lval, rd_S, rd_C, put_S, resV, resL, partA, eq_self, mk, List.foldl_cons, List.foldl_nil, List.replicate_succ, List.replicate_zero, List.set_cons_zero, List.set_cons_succ, List.getElem?_cons_zero, List.getElem?_cons_succ, List.drop_zero, List.take_succ_cons, List.take_nil, Option.getD_some, List.length_cons, List.length_nil, Nat.reduceAdd, Nat.reduceLeDiff, Nat.zero_add, bin_add, bin_lss, w64, if_true, if_false, Bool.false_eq_true, decide_true, Go.Eng.e1, true_and, reduceCtorEq, hltk', hxt.idx hltk, hxt.ld0 hzp 1 false (by decide), c.lds t, hoa.ls.idxI (k := .i64) hp.1 hp2, hoa.ls.ld0 hget 1 false (by decide), eb]
      exact ⟨(k + 1, t), ⟨hltk, tl, tg, tm, te⟩, by simp [Has, rd_s], rfl, by simp only; omega⟩
    · rw [if_neg hsn] at te
      have hsn' : sn t.1 p = false := by simpa using hsn
      rw [hsn'] at hget
      have hun := unseen_set hsn'
      have hst := hoa.st hpn (B true) true rfl
      rw [c.setA] at hst
      have hog := c.olg (t.1.set p.toNat true, t.2) (by rw [← hlsn]; exact tg.len)
      obtain ⟨v1, v2, v3⟩ := c.ldw (t.1.set p.toNat true, t.2)
      have hgl : t.2.length = ws.length := by rw [← hlsn]; exact tg.len
      simp (maxSteps := 4000000) -implicitDefEqProofs -dsimp (disch := omega) only [↓AW_skip, ↓AW_ops, ↓AW_seq, ↓AW_cond, ↓AW_block, ↓AOps_nil, ↓AOps_pu, ↓AOps_ld, ↓AOps_ha, ↓AOps_call, on_some, extK_false, condB_t, condB_f, ↓then_normal, pval, lval, hval_st, rd_S, rd_C, put_S, putS_none, partA, eq_self, mk, List.foldl_cons, List.foldl_nil, List.replicate_succ, List.replicate_zero, List.set_cons_zero, List.set_cons_succ, List.getElem?_cons_zero, List.getElem?_cons_succ, List.drop_zero, List.take_succ_cons, List.take_nil, Option.getD_some, Option.map_some, map_c, map_n, List.length_cons, List.length_nil, Nat.reduceLeDiff, Nat.zero_add, bin_lss, if_true, if_false, Bool.false_eq_true, decide_true, Go.Eng.e1, hltk', hxt.idx hltk, hxt.ld0 hzp 1 false (by decide), c.lds t, hoa.ls.idxI (k := .i64) hp.1 hp2, hoa.ls.ld0 hget 1 false (by decide), eb, hst, v3]
      refine CallK.of (s89 hog.ls (by simp only; omega) p) ?_
      simp only
      by_cases hf : fpos (fun y => decide (p = y)) t.2 < 0
      · rw [if_pos hf] at te
        have hst2 := hog.st (i := i.toNat) (by simp only; rw [hgl]; exact hltw) (I p) p rfl
        rw [c.setG] at hst2
        simp (maxSteps := 4000000) -implicitDefEqProofs -dsimp (disch := omega) only [↓AW_ops, ↓AW_seq, ↓AW_cond, ↓AW_ret, ↓AOps_nil, ↓AOps_pu, ↓AOps_ld, ↓AOps_ha, ↓AOps_guard, on_some, extK_false, extK_same, guardB_tf, skipS_some, condB_t, ↓then_normal, ↓then_ret, ↓inBlock_ret, ↓Fin_ret, pval, lval, hval_st, rd_S, rd_C, put_S, putS_none, resV, resL, eq_self, mk, List.foldl_cons, List.foldl_nil, List.replicate_succ, List.replicate_zero, List.set_cons_zero, List.set_cons_succ, List.getElem?_cons_zero, List.getElem?_cons_succ, Option.getD_some, Option.map_some, Nat.zero_add, bin_lss, if_true, decide_true, hf, v2, hog.ls.idxI (k := .i64) hi.1 (by simp only; rw [hgl]; exact hi.2), hst2]
        exact gc_same_all (by rw [te]) (by rw [te])
      · rw [if_neg hf] at te
        obtain ⟨h, hh1, hh2, hh3⟩ := fpos_get hf
        rw [hh2] at te hf ⊢
        have hpost := chF_spec hls m h (t.1.set p.toNat true, t.2) ⟨by omega, by rw [hlsn]; omega⟩ tg (by simp [tl]) (by simp only; omega)
        simp (maxSteps := 4000000) -implicitDefEqProofs -dsimp (disch := omega) only [↓AW_ops, ↓AW_seq, ↓AOps_nil, ↓AOps_pu, ↓AOps_ld, ↓AOps_callv, ↓AOps_guard, on_some, extK_same, CallF_fn, guardB_ff, ↓then_normal, pval, lval, rd_S, rd_C, put_S, putS_none, mk, List.foldl_cons, List.foldl_nil, List.replicate_succ, List.replicate_zero, List.set_cons_zero, List.set_cons_succ, List.getElem?_cons_zero, List.getElem?_cons_succ, Option.getD_some, map_c, map_n, List.cons_append, List.nil_append, bin_lss, decide_false, hf, c.ldc (t.1.set p.toNat true, t.2)]
        refine CallK.of (hrec h (t.1.set p.toNat true, t.2) ⟨by omega, by omega⟩ (by simp [tl]) tg (by simp only; omega)) ?_
        generalize chF (lists ws) m h (t.1.set p.toNat true, t.2) = r at *
        by_cases hr : r.1 = true
        · rw [if_pos hr] at te
          have hg2 := (hpost.yes hr).1
          have hgl2 : r.2.2.length = ws.length := by rw [← hlsn]; exact hg2.len
          have hog2 := c.olg r.2 hgl2
          have hst2 := hog2.st (i := i.toNat) (by rw [hgl2]; exact hltw) (I p) p rfl
          rw [c.setG] at hst2
          simp (maxSteps := 4000000) -implicitDefEqProofs -dsimp (disch := omega) only [↓AW_ops, ↓AW_seq, ↓AW_cond, ↓AW_ret, ↓AOps_nil, ↓AOps_pu, ↓AOps_ld, ↓AOps_ha, on_some, extK_false, condB_t, ↓then_normal, ↓then_ret, ↓inBlock_ret, ↓Fin_ret, pval, lval, hval_st, rd_S, rd_C, put_S, putS_none, resV, resL, mk, List.foldl_cons, List.foldl_nil, List.replicate_succ, List.replicate_zero, List.set_cons_zero, List.set_cons_succ, List.getElem?_cons_zero, List.getElem?_cons_succ, Option.getD_some, Option.map_some, Nat.zero_add, if_false, Bool.false_eq_true, hr, (c.ldw r.2).2.1, hog2.ls.idxI (k := .i64) hi.1 (by rw [hgl2]; exact hi.2), hst2]
          exact gc_same_all (by rw [te]) (by rw [te])
        · rw [if_neg hr] at te
          have hr' : r.1 = false := by simpa using hr
          simp (maxSteps := 4000000) -implicitDefEqProofs -dsimp (disch := omega) only [↓AW_skip, ↓AW_ops, ↓AW_cond, ↓AOps_nil, ↓AOps_pu, on_some, extK_false, condB_f, ↓then_normal, ↓inBlock_normal, pval, rd_S, rd_C, put_S, putS_none, eq_self, mk, List.foldl_cons, List.foldl_nil, List.replicate_succ, List.replicate_zero, List.set_cons_zero, List.set_cons_succ, List.getElem?_cons_zero, List.getElem?_cons_succ, Option.getD_some, List.length_cons, List.length_nil, Nat.reduceAdd, Nat.zero_add, bin_add, w64, if_false, Bool.false_eq_true, true_and, hr']
          have hno := hpost.no hr'
          have hcn := hpost.cnt
          simp only at hcn
          refine ⟨(k + 1, r.2), ⟨hltk, by simp only; rw [hpost.len]; simp [tl], by simp only; rw [hno.1]; exact tg, by simp only; omega, te⟩, by simp [Has, rd_s], rfl, by simp only; omega⟩
  · have hltk' : ¬ ((k : Int) < x.2.length) := by omega
    rw [List.drop_of_length_le (by omega), goF] at te
    simp (maxSteps := 4000000) -implicitDefEqProofs -dsimp (disch := omega) only [↓AW_ops, ↓AW_seq, ↓AW_cond, ↓AW_exit, ↓AW_ret, ↓AOps_nil, ↓AOps_pu, on_some, condB_f, ↓then_normal, ↓then_exit, ↓inBlock_exit, ↓Fin_ret, pval, rd_S, rd_C, put_S, resV, resL, eq_self, mk, List.foldl_cons, List.foldl_nil, List.replicate_succ, List.replicate_zero, List.set_cons_zero, List.set_cons_succ, List.getElem?_cons_zero, List.getElem?_cons_succ, Option.getD_some, bin_lss, if_true, decide_false, hltk']
    exact gc_same_all (by rw [te]) (by rw [te])

theorem s101 {P : Int} {ws : List (AV × List Int)} {A H : AHeap} {v : AV} {nw ns nc na ng : Nat} {fa fg : Bool} (hv : Val P (lists ws)) (hw : LL A v ws) (c : Ctx P A H v nw ns nc na ng ws.length fa fg) :
    ∀ (m : Nat) (i : Int) (s : St), inP ws.length i → s.1.length = P.toNat → Good P (lists ws) s.2 → unseen s.1 ≤ m →
      ACalls Try.prog 101 [I i, .ptr nw 0, .ptr ns 0, .ptr nc 0] (hpS H na ng s) (B (chF (lists ws) (m + 1) i s).1) (hpS H na ng (chF (lists ws) (m + 1) i s).2)
  | 0, i, s, hi, hl, hg, hm => s101_step hv hw c 0 (fun _ _ _ _ _ h => by omega) i s hi hl hg hm
  | m + 1, i, s, hi, hl, hg, hm => s101_step hv hw c (m + 1) (fun j t h1 h2 h3 h4 => s101 hv hw c m j t h1 h2 h3 (by omega)) i s hi hl hg hm

end Go.Proofs.Ytlmbobbefgcolaa
