/- What the law's proof rests on, part 5: for all that is said in each line. No conditions. -/
import Derived.Test.YtlmbobbefgcolaaCkB
namespace Go.Proofs.Ytlmbobbefgcolaa
open Go Go.Eng
/-- A list of lists, told by a function. -/
structure TbL (N : Nat) (ws : List (AV × List Int)) (T : Nat → List Int) : Prop where
  len : ws.length = N
  at_ : ∀ s, s < N → ∃ x, ws[s]? = some x ∧ x.2 = T s
  out : ∀ s, N ≤ s → T s = []
def upd (T : Nat → List Int) (j : Nat) (c : List Int) : Nat → List Int := fun t => if t = j then c else T t
theorem TbL.set {N : Nat} {ws : List (AV × List Int)} {T : Nat → List Int} (h : TbL N ws T) {j : Nat} (hj : j < N) (a : AV) (c : List Int) : TbL N (ws.set j (a, c)) (upd T j c) := by
  refine ⟨by rw [List.length_set]; exact h.len, fun s hs => ?_, fun s hs => ?_⟩
  · by_cases e : s = j
    · subst e
      exact ⟨(a, c), List.getElem?_set_self (by rw [h.len]; exact hj), by simp [upd]⟩
    · obtain ⟨x, h1, h2⟩ := h.at_ s hs
      exact ⟨x, by rw [List.getElem?_set_ne (Ne.symm e)]; exact h1, by rw [h2]; simp [upd, e]⟩
  · have : s ≠ j := by omega
    rw [show upd T j c s = T s by simp [upd, this]]
    exact h.out s hs
/-- A row: an old one, or one that was made behind it. -/
def RW (Bh H : AHeap) (nn : Nat) (x : AV × List Int) : Prop := L1 Bh x.1 x.2 ∨ ∃ k full, x.1 = .sl 1 k 0 x.2.length full ∧ k ≠ nn ∧ H[k]? = some (.cells true (x.2.flatMap Go.Eng.e1))
theorem RW.l1 {Bh H : AHeap} {nn : Nat} {x : AV × List Int} (h : RW Bh H nn x) (hp : Bh <+: H) : L1 H x.1 x.2 := by
  rcases h with h | ⟨k, full, h1, _, h3⟩
  · exact h.mono hp
  · rw [h1]
    exact (OL.mk e1_len (A := []) (List.nil_prefix) (Nat.zero_le _) h3 ⟨full, rfl⟩ : OL 1 Go.Eng.e1 [] H k (.sl 1 k 0 x.2.length full) x.2).ls
theorem RW.mono {Bh H H' : AHeap} {nn : Nat} {x : AV × List Int} (h : RW Bh H nn x) (hp : H <+: H') : RW Bh H' nn x := by
  rcases h with h | ⟨k, full, h1, h2, h3⟩
  · exact .inl h
  · exact .inr ⟨k, full, h1, h2, pre_get hp h3⟩
theorem RW.set {Bh H : AHeap} {nn : Nat} {x : AV × List Int} (h : RW Bh H nn x) (o : AObj) : RW Bh (H.set nn o) nn x := by
  rcases h with h | ⟨k, full, h1, h2, h3⟩
  · exact .inl h
  · exact .inr ⟨k, full, h1, h2, by rw [List.getElem?_set_ne (Ne.symm h2)]; exact h3⟩
theorem repl_nilS (n : Nat) : repl [AV.nilS] n = (List.replicate n ((AV.nilS, []) : AV × List Int)).flatMap e0 := by
  induction n with
  | zero => rfl
  | succ n ih => rw [repl, ih, List.replicate_succ, List.flatMap_cons]; rfl
theorem mb_congr {f g : Nat → Bool} : ∀ {N : Nat}, (∀ t, t < N → f t = g t) → mb f N = mb g N := by
  intro N
  induction N with
  | zero => intro _; rfl
  | succ n ih => intro h; rw [mb, mb, ih (fun t ht => h t (by omega)), h n (by omega)]
theorem TT_len {P : Int} {ls : List (List Int)} {i : Nat} {T : Nat → List Int} (h : TT P ls i T) (ho : ∀ s, 2 ^ P.toNat ≤ s → T s = []) : ∀ s, T s ≠ [] → (T s).length = P.toNat := by
  intro s hs
  by_cases hl : s < 2 ^ P.toNat
  · rcases h s hl with ⟨h1, _⟩ | ⟨_, ⟨g, _, h2⟩, _⟩
    · exact absurd h1 hs
    · rw [← h2, cnt_len]
  · exact absurd (ho s (by omega)) hs
/-- Which sets can be given. -/
theorem TT_cF {P : Int} {ls : List (List Int)} (hv : Val P ls) {i : Nat} {T : Nat → List Int} (h : TT P ls i T) {t : Nat} (ht : t < 2 ^ P.toNat) : (!decide (T t = [])) = cF ls (-1) i t := by
  have hls : ∀ l ∈ ls, ∀ p ∈ l, 0 ≤ p := fun l hl p hp => ((hv.l l hl).1 p hp).1
  rw [Bool.eq_iff_iff, Bool.not_eq_true', decide_eq_false_iff_not, cF_iff hls]
  rcases h t ht with ⟨h1, h2⟩ | ⟨h1, ⟨g, hg, _⟩, _⟩
  · exact ⟨fun h => absurd h1 h, fun ⟨g, hg⟩ => absurd hg (h2 g)⟩
  · exact ⟨fun _ => ⟨g, hg⟩, fun _ => h1⟩
theorem TopC.len {S : List Int → Prop} {c : List Int} {n : Nat} (h : TopC S id c) (hn : ∀ x, S x → x.length = n) (h0 : c ≠ []) : c.length = n := by
  rcases h with ⟨h1, _⟩ | ⟨_, ⟨g, hg, hc⟩, _⟩
  · exact absurd h1 h0
  · have hc : g = c := hc
    rw [← hc]; exact hn g hg
theorem pos_ne {c : List Int} (h : c ≠ []) : (0 : Int) < c.length := by
  have := List.length_pos_iff.2 h
  omega
set_option maxRecDepth 20000 in
set_option maxHeartbeats 8000000 in
theorem s49 {P : Int} {ws : List (AV × List Int)} {v : AV} {A : AHeap} (hw : LL A v ws) (hs : Sz ws) :
    ∃ r H', ACalls Try.prog 49 [.agg [I P, v]] A r H' ∧ OutR P (lists ws) (IsBest P (lists ws)) A r H' := by
  refine acallsR hmix Try.func49 (by kernel_rfl) t49 _ 1 rfl (by decide) ?_
  dsimp only [m49]
  simp (maxSteps := 4000000) -implicitDefEqProofs -dsimp (disch := omega) only [↓AW_ops, ↓AW_seq, ↓AOps_nil, ↓AOps_pu, ↓AOps_call, on_some, ↓then_normal, pval, rd_S, rd_C, put_S, chkd, bgot, cells_agg, partA, eq_self, List.replicate_succ, List.replicate_zero, List.set_cons_zero, List.set_cons_succ, List.getElem?_cons_zero, List.getElem?_cons_succ, List.drop_zero, List.take_succ_cons, List.take_nil, Option.getD_some, map_c, map_n, List.length_cons, List.length_nil, Nat.reduceAdd, Nat.reduceSub, Nat.reduceLeDiff, Nat.reduceEqDiff, Nat.zero_add, List.cons_append, List.nil_append, if_true, if_false]
  refine CallK.of (s40 hw hs) ?_
  by_cases h0 : vW P (lists ws) = 0
  case neg =>
    simp (maxSteps := 4000000) -implicitDefEqProofs -dsimp (disch := omega) only [↓AW_ops, ↓AW_seq, ↓AW_cond, ↓AW_ret, ↓AOps_nil, ↓AOps_pu, on_some, extK_same, condB_t, ↓then_normal, ↓then_ret, ↓FinR_ret, pval, rd_S, rd_C, put_S, resV, resL, List.replicate_succ, List.replicate_zero, List.set_cons_zero, List.set_cons_succ, List.getElem?_cons_zero, List.getElem?_cons_succ, Option.getD_some, Nat.reduceSub, List.cons_append, List.nil_append, bin_neq, decide_true, not_false_eq_true, h0]
    exact ⟨_, _, gc_all, fun _ => ⟨rfl, List.prefix_refl A⟩, fun h => absurd h h0⟩
  have hv := val_of h0
  have hP := hv.hP
  have hn : ws.length ≤ 7 := by simpa using hv.n
  have hls : ∀ l ∈ lists ws, ∀ p ∈ l, inP P p := fun l hl => (hv.l l hl).1
  have hpow : 2 ^ P.toNat ≤ 128 := by
    have : 2 ^ P.toNat ≤ 2 ^ 7 := Nat.pow_le_pow_right (by omega) (by omega)
    omega
  have hpow0 : 2 ≤ 2 ^ P.toNat := by
    have : 2 ^ 1 ≤ 2 ^ P.toNat := Nat.pow_le_pow_right (by omega) (by omega)
    omega
  have htt0 := TT_0 (P := P) (lists ws) (T := upd (fun _ => []) 0 (List.replicate P.toNat 0)) hP.1 (by simp [upd]) (fun t ht => by simp [upd, ht])
  obtain ⟨p', hp', hpn⟩ : ∃ p' : Nat, P = (p' : Int) ∧ P.toNat = p' := ⟨P.toNat, by omega, rfl⟩
  have hp7 : p' ≤ 7 := by omega
  have hp1 : 1 ≤ p' := by omega
  have hshl := (bit_facts (s := 0) (p := p') (by omega) (by omega)).1
  have hcv := u64w P (by omega) (by omega)
  rw [hpn] at hpow hpow0 htt0
  obtain ⟨N, hN⟩ : ∃ N, 2 ^ p' = N := ⟨_, rfl⟩
  have hNP : 2 ^ P.toNat = N := by rw [hpn]; exact hN
  rw [hN] at hshl hpow hpow0
  rw [← hp'] at hshl
  have hN0 : (0 : Int) ≤ (N : Int) := by omega
  have hNl : (N : Int) ≤ (lim : Int) := by simp [lim]; omega
  have hp0 : (0 : Int) ≤ P := by omega
  have hpl : P ≤ (lim : Int) := by simp [lim]; omega
  have hmk := OL.new_mk e0_len A (List.replicate N ((AV.nilS, []) : AV × List Int)) true
  rw [List.length_replicate] at hmk
  have pz := pre_app (A ++ [AObj.cells true ((List.replicate N ((AV.nilS, []) : AV × List Int)).flatMap e0)]) [AObj.cells true ((List.replicate p' (0 : Int)).flatMap Go.Eng.e1)]
  have hz := OL.new_mk e1_len (A ++ [AObj.cells true ((List.replicate N ((AV.nilS, []) : AV × List Int)).flatMap e0)]) (List.replicate p' (0 : Int)) true
  rw [List.length_replicate] at hz
  have hmz := hmk.mono pz
  have hst0 := hmz.st (i := 0) (by simp; omega) (.sl 1 (A ++ [AObj.cells true ((List.replicate N ((AV.nilS, []) : AV × List Int)).flatMap e0)]).length 0 p' true) (.sl 1 (A ++ [AObj.cells true ((List.replicate N ((AV.nilS, []) : AV × List Int)).flatMap e0)]).length 0 p' true, List.replicate p' (0 : Int)) rfl
  rw [Nat.zero_mul, Nat.add_zero] at hst0
  have hset0 := hmz.set 0 (.sl 1 (A ++ [AObj.cells true ((List.replicate N ((AV.nilS, []) : AV × List Int)).flatMap e0)]).length 0 p' true, List.replicate p' (0 : Int))
  have hix0 := hmz.ls.idxI (k := .i64) (i := 0) (by omega) (by rw [List.length_replicate]; omega)
  have htb0 : TbL N ((List.replicate N ((AV.nilS, []) : AV × List Int)).set 0 (.sl 1 (A ++ [AObj.cells true ((List.replicate N ((AV.nilS, []) : AV × List Int)).flatMap e0)]).length 0 p' true, List.replicate p' (0 : Int))) (upd (fun _ => []) 0 (List.replicate p' 0)) :=
    TbL.set ⟨by simp, fun s hs => ⟨(.nilS, []), by simp [hs], rfl⟩, fun _ _ => rfl⟩ (by omega) _ _
  have hz0 := hz.ob
  have hne0 : (A ++ [AObj.cells true ((List.replicate N ((AV.nilS, []) : AV × List Int)).flatMap e0)]).length ≠ A.length := by simp
  have hrw0 : ∀ x ∈ (List.replicate N ((AV.nilS, []) : AV × List Int)).set 0 (.sl 1 (A ++ [AObj.cells true ((List.replicate N ((AV.nilS, []) : AV × List Int)).flatMap e0)]).length 0 p' true, List.replicate p' (0 : Int)), RW A (A ++ [AObj.cells true ((List.replicate N ((AV.nilS, []) : AV × List Int)).flatMap e0)] ++ [AObj.cells true ((List.replicate p' (0 : Int)).flatMap Go.Eng.e1)]) A.length x := by
    intro x hx
    rcases List.mem_or_eq_of_mem_set hx with hx | rfl
    · rw [List.eq_of_mem_replicate hx]
      exact .inl (L1_nil A)
    · exact .inr ⟨_, true, by simp only [List.length_replicate], hne0, hz0⟩
  simp (maxSteps := 4000000) -implicitDefEqProofs -dsimp (disch := omega) only [↓AW_skip, ↓AW_ops, ↓AW_seq, ↓AW_cond, ↓AW_block, ↓AOps_nil, ↓AOps_pu, ↓AOps_ha, on_some, extK_false, extK_app, extK_same, condB_f, ↓then_normal, pval, hval_st, hval_mks, rd_S, rd_C, put_S, putS_none, ↓AW_toLoop, chkd, isAdr, bgot, cells_agg, partA, beq_self_eq_true, eq_self, List.replicate_succ, List.replicate_zero, List.set_cons_zero, List.set_cons_succ, List.getElem?_cons_zero, List.getElem?_cons_succ, List.drop_zero, List.take_zero, List.take_succ_cons, Option.getD_some, Option.map_some, List.length_cons, List.length_nil, Nat.reduceAdd, Nat.reduceSub, Nat.reduceLeDiff, Nat.zero_add, Nat.add_zero, List.cons_append, List.nil_append, bin_neq, if_true, if_false, Bool.false_eq_true, decide_false, and_true, not_true_eq_false, h0, hcv, hshl, hN0, hNl, hp0, hpl, hpn, Int.le_refl, Int.toNat_natCast, repl_nilS, repl_zero, hix0, Int.toNat_zero, Nat.zero_mul, hst0]
  generalize hBz : A ++ [AObj.cells true ((List.replicate N ((AV.nilS, []) : AV × List Int)).flatMap e0)] ++ [AObj.cells true ((List.replicate p' (0 : Int)).flatMap Go.Eng.e1)] = Hz at *
  generalize hw0 : (List.replicate N ((AV.nilS, []) : AV × List Int)).set 0 (.sl 1 (A ++ [AObj.cells true ((List.replicate N ((AV.nilS, []) : AV × List Int)).flatMap e0)]).length 0 p' true, List.replicate p' (0 : Int)) = w0 at *
  have hin0 : ∀ x ∈ w0, L1 (Hz.set A.length (.cells true (w0.flatMap e0))) x.1 x.2 := fun x hx => ((hrw0 x hx).set (.cells true (w0.flatMap e0))).l1 hset0.pre
  have hLL0 : LL (Hz.set A.length (.cells true (w0.flatMap e0))) (.sl 1 A.length 0 N true) w0 := ⟨hset0.ls, hin0⟩
  have hpre0 := hset0.pre
  generalize Hz.set A.length (.cells true (w0.flatMap e0)) = H0 at *
  refine LoopK.by 166 (fun z : Nat × AV × AHeap × List (AV × List Int) × (Nat → List Int) => z.1 ≤ ws.length ∧ A <+: z.2.2.1 ∧ LL z.2.2.1 z.2.1 z.2.2.2.1 ∧ TbL N z.2.2.2.1 z.2.2.2.2 ∧ TT P (lists ws) z.1 z.2.2.2.2) (fun z => [(1, .agg [I P, v]), (5, z.2.1), (6, I z.1)]) (fun z => z.2.2.1) (fun z => ws.length - z.1) (0, .sl 1 A.length 0 N true, H0, w0, upd (fun _ => []) 0 (List.replicate p' 0)) ⟨by simp only; omega, hpre0, hLL0, htb0, htt0⟩ rfl (by simp [Has, rd_s]) rfl ?_
  clear hmk pz hz hmz hst0 hset0 hix0 htb0 hz0 hne0 hrw0 hin0 hLL0 hpre0 hBz hw0
  rintro ⟨i, vB, H, wsB, T⟩ ⟨hi, hA, hB, hTb, hTT⟩
  simp only at hi hA hB hTb hTT
  have hwH := hw.mono hA
  have hTl := TT_len hTT (fun s hs => hTb.out s (by rw [← hNP]; exact hs))
  rw [hpn] at hTl
  have hBlen : lenA vB = some (I N) := by have := hB.ls.len; rwa [hTb.len] at this
  by_cases hlt : i < ws.length
  · obtain ⟨x, hz⟩ : ∃ z, ws[i]? = some z := ⟨_, List.getElem?_eq_getElem hlt⟩
    have hlt' : (i : Int) < ws.length := by omega
    have hm := List.mem_of_getElem? hz
    have hlx := lst_at hz
    have hxP := hls x.2 (List.mem_map.2 ⟨x, hm, rfl⟩)
    have hxl := hv.len (List.mem_map.2 ⟨x, hm, rfl⟩ : x.2 ∈ lists ws)
    have pB := pre_app H [AObj.cells true []]
    have hBB := hB.mono pB
    have happ := app_fresh hBB.ls (get_new H (.cells true [])) (by rw [hTb.len]; omega) (by rw [hTb.len]; simp [lim]; omega)
    rw [hTb.len] at happ
    have hO2 := OL.new_mk e0_len (H ++ [.cells true []]) wsB false
    rw [hTb.len] at hO2
    simp (maxSteps := 4000000) -implicitDefEqProofs -dsimp (disch := omega) only [↓AW_skip, ↓AW_ops, ↓AW_seq, ↓AW_cond, ↓AW_block, ↓AOps_nil, ↓AOps_pu, ↓AOps_ha, on_some, extK_app, condB_t, ↓then_normal, pval, hval_blds, hval_app, rd_S, rd_C, put_S, ↓AW_toLoop, chkd, isAdr, bgot, cells_agg, partA, fillA, repl, eq_self, mk, List.foldl_cons, List.foldl_nil, List.replicate_succ, List.replicate_zero, List.set_cons_zero, List.set_cons_succ, List.getElem?_cons_zero, List.getElem?_cons_succ, List.drop_zero, List.drop_succ_cons, List.take_succ_cons, List.take_nil, Option.getD_some, map_n, List.length_cons, List.length_nil, Nat.reduceAdd, Nat.reduceLeDiff, Nat.zero_add, bin_lss, if_true, if_false, Bool.false_eq_true, decide_true, hlt', hwH.ls.len, List.replicate_zero, repl, happ]
    have hwB := hwH.mono pB
    generalize hBh : H ++ [AObj.cells true []] = Bh at *
    generalize hvn : AV.sl 1 Bh.length 0 N false = vn at *
    have hAB := hA.trans pB
    refine LoopK.by 166 (fun z : Nat × AHeap × List (AV × List Int) × (Nat → List Int) => z.1 ≤ N ∧ OL 1 e0 Bh z.2.1 Bh.length vn z.2.2.1 ∧ (∀ y ∈ z.2.2.1, RW Bh z.2.1 Bh.length y) ∧ TbL N z.2.2.1 z.2.2.2 ∧ ∀ t, t < N → TopC (Cd T x.2 z.1 0 t) id (z.2.2.2 t)) (fun z => [(1, .agg [I P, v]), (5, vB), (6, I i), (7, vn), (8, I z.1)]) (fun z => z.2.1) (fun z => N - z.1) (0, _, wsB, T)
      ⟨by simp only; omega, hO2, fun y hy => .inl (hBB.inn y hy), hTb, fun t _ => by
        by_cases h : T t = []
        · exact .inl ⟨h, fun c hc => (Cd_0.1 hc).2 ((Cd_0.1 hc).1.trans h)⟩
        · exact .inr ⟨h, ⟨T t, Cd_0.2 ⟨rfl, h⟩, rfl⟩, fun c hc => by rw [(Cd_0.1 hc).1]; exact leL_refl _⟩⟩ rfl (by simp [Has, rd_s]) rfl ?_
    rintro ⟨s, Hs, w2, T2⟩ ⟨hsN1, ho, hr, hT2, hC⟩
    simp only at hsN1 ho hr hT2 hC
    by_cases hsN : s < N
    · have hsN' : (s : Int) < N := by omega
      obtain ⟨xs, hxs, hxT⟩ := hTb.at_ s hsN
      have hsB : s < wsB.length := by rw [hTb.len]; exact hsN
      simp (maxSteps := 4000000) -implicitDefEqProofs -dsimp (disch := omega) only [↓AW_skip, ↓AW_ops, ↓AW_seq, ↓AW_cond, ↓AW_block, ↓AOps_nil, ↓AOps_pu, on_some, condB_t, ↓then_normal, pval, rd_S, rd_C, put_S, ↓AW_toLoop, mk, List.foldl_cons, List.foldl_nil, List.replicate_succ, List.replicate_zero, List.set_cons_zero, List.set_cons_succ, List.getElem?_cons_zero, List.getElem?_cons_succ, Option.getD_some, bin_lss, decide_true, hsN', hBlen]
      refine LoopK.by 166 (fun z : Nat × AHeap × List (AV × List Int) × (Nat → List Int) => z.1 ≤ x.2.length ∧ (T s = [] → z.1 = 0) ∧ OL 1 e0 Bh z.2.1 Bh.length vn z.2.2.1 ∧ (∀ y ∈ z.2.2.1, RW Bh z.2.1 Bh.length y) ∧ TbL N z.2.2.1 z.2.2.2 ∧ ∀ t, t < N → TopC (Cd T x.2 s z.1 t) id (z.2.2.2 t)) (fun z => [(1, .agg [I P, v]), (5, vB), (6, I i), (7, vn), (8, I s), (9, I z.1)]) (fun z => z.2.1) (fun z => x.2.length - z.1) (0, Hs, w2, T2)
        ⟨by simp only; omega, fun _ => rfl, ho, hr, hT2, hC⟩ rfl (by simp [Has, rd_s]) rfl ?_
      rintro ⟨k, Hk, w3, T3⟩ ⟨hk, hk0, hok, hrk, hT3, hCk⟩
      simp only at hk hk0 hok hrk hT3 hCk
      have hwk := hwB.mono hok.pre
      have hBk := hBB.mono hok.pre
      have hxk := hwk.inn x hm
      have hrow := hBk.inn xs (List.mem_of_getElem? hxs)
      by_cases hltk : k < x.2.length
      · have hltk' : (k : Int) < x.2.length := by omega
        obtain ⟨p, hzp⟩ : ∃ p, x.2[k]? = some p := ⟨_, List.getElem?_eq_getElem hltk⟩
        have hpp := hxP p (List.mem_of_getElem? hzp)
        by_cases hf : T s = []
        · have hlen0 : ¬ ((0 : Int) < (xs.2.length : Int)) := by rw [hxT, hf]; simp
          simp (maxSteps := 4000000) -implicitDefEqProofs -dsimp (disch := omega) only [↓AW_ops, ↓AW_seq, ↓AW_cond, ↓AW_block, ↓AW_exit, ↓AOps_nil, ↓AOps_pu, ↓AOps_ld, ↓AOps_guard, on_some, guardB_tt, condB_f, ↓then_normal, ↓then_exit, ↓inBlock_normal, ↓inBlock_exit, pval, lval, rd_S, rd_C, put_S, ↓AW_toLoop, chkd, isAdr, bgot, cells_agg, partA, eq_self, mk, List.foldl_cons, List.foldl_nil, List.replicate_succ, List.replicate_zero, List.set_cons_zero, List.set_cons_succ, List.getElem?_cons_zero, List.getElem?_cons_succ, List.drop_zero, List.drop_succ_cons, List.take_succ_cons, List.take_nil, Option.getD_some, List.length_cons, List.length_nil, Nat.reduceAdd, Nat.reduceLeDiff, Nat.reduceEqDiff, Nat.zero_add, bin_add, bin_lss, bin_gtr, w64, if_true, if_false, Bool.false_eq_true, decide_true, decide_false, true_and, reduceCtorEq, hltk', hwk.ls.idx hlt, hwk.ls.ld0 hz 1 false (by decide), e0, hxk.len, hBk.ls.idx hsB, hBk.ls.ld0 hxs 1 false (by decide), hrow.len, hlen0]
          refine ⟨(s + 1, Hk, w3, T3), ⟨hsN, hok, hrk, hT3, fun t ht => (hCk t ht).congr (fun c => Cd_none hf)⟩, by simp [Has, rd_s], rfl, by simp only; omega⟩
        · have hlen1 : (0 : Int) < (xs.2.length : Int) := by rw [hxT]; exact pos_ne hf
          obtain ⟨pn, hpe, hpt⟩ : ∃ pn : Nat, p = (pn : Int) ∧ p.toNat = pn := ⟨p.toNat, by have := hpp.1; omega, rfl⟩
          have hpn7 : pn < p' := by have := hpp.2; omega
          obtain ⟨b1, b2, b3⟩ := bit_facts (s := s) (p := pn) (by omega) (by omega)
          have hcvp := u64w p hpp.1 (by have := hpp.2; omega)
          rw [hpe] at hcvp
          by_cases hb : s.testBit pn = true
          · rw [if_pos hb] at b2
            have hne : ¬ ((2 ^ pn : Nat) : Int) = 0 := by have : 0 < 2 ^ pn := Nat.pow_pos (by omega); omega
            simp (maxSteps := 4000000) -implicitDefEqProofs -dsimp (disch := omega) only [↓AW_skip, ↓AW_ops, ↓AW_seq, ↓AW_cond, ↓AW_block, ↓AW_exit, ↓AOps_nil, ↓AOps_pu, ↓AOps_ld, ↓AOps_guard, on_some, guardB_tt, condB_t, ↓then_normal, ↓then_exit, ↓inBlock_normal, ↓inBlock_exit, pval, lval, rd_S, rd_C, put_S, ↓AW_toLoop, chkd, isAdr, bgot, cells_agg, partA, eq_self, mk, List.foldl_cons, List.foldl_nil, List.replicate_succ, List.replicate_zero, List.set_cons_zero, List.set_cons_succ, List.getElem?_cons_zero, List.getElem?_cons_succ, List.drop_zero, List.drop_succ_cons, List.take_succ_cons, List.take_nil, Option.getD_some, List.length_cons, List.length_nil, Nat.reduceAdd, Nat.reduceLeDiff, Nat.reduceEqDiff, Nat.zero_add, bin_add, bin_neq, bin_lss, bin_gtr, w64, if_true, if_false, Bool.false_eq_true, decide_true, Go.Eng.e1, true_and, reduceCtorEq, not_false_eq_true, hltk', hwk.ls.idx hlt, hwk.ls.ld0 hz 1 false (by decide), e0, hBk.ls.idx hsB, hBk.ls.ld0 hxs 1 false (by decide), hrow.len, hlen1, hxk.len, hxk.idx hltk, hxk.ld0 hzp 1 false (by decide), hpe, hcvp, b1, b2, hne]
            exact ⟨(k + 1, Hk, w3, T3), ⟨hltk, fun h => absurd h hf, hok, hrk, hT3, fun t ht => (hCk t ht).congr (fun c => Cd_skip hzp (by rw [hpt]; exact hb))⟩, by simp [Has, rd_s], rfl, by simp only; omega⟩
          · have hb' : s.testBit pn = false := by simpa using hb
            rw [if_neg hb] at b2
            have b3' := b3 hb'
            have hsum : s + 2 ^ pn < N := by
              have h5 : s + 2 ^ pn < 2 ^ p' := by
                refine Nat.lt_pow_two_of_testBit _ (fun q hq => ?_)
                rw [tb_add _ _ _ hb']
                have : s.testBit q = false := Nat.testBit_lt_two_pow (Nat.lt_of_lt_of_le (by rw [hN]; exact hsN) (Nat.pow_le_pow_right (by omega) hq))
                rw [this]
                simp; omega
              rw [hN] at h5; exact h5
            -- the count
            have hTsl := hTl s hf
            have hxsl : xs.2.length = p' := by rw [hxT]; exact hTsl
            have pC := pre_app Hk [AObj.cells true []]
            have hrC := hrow.mono pC
            have happC := app_fresh hrC (get_new Hk (.cells true [])) (by omega) (by simp [lim]; omega)
            have hOc := OL.new_mk e1_len (Hk ++ [.cells true []]) xs.2 false
            have hkp : k < p' := by omega
            have hkx : k < xs.2.length := by omega
            obtain ⟨z, hzc⟩ : ∃ z, xs.2[k]? = some z := ⟨_, List.getElem?_eq_getElem hkx⟩
            have hzb : 0 ≤ z ∧ z ≤ 7 := by
              rw [hxT] at hzc
              rcases hTT s (by rw [hNP]; exact hsN) with ⟨h1, _⟩ | ⟨_, ⟨g, ⟨hg, _⟩, h2⟩, _⟩
              · exact absurd h1 hf
              · have h3 := cnt_b P (g.zip (lists ws)) z (by simp only at h2; rw [h2]; exact List.mem_of_getElem? hzc)
                have h4 : (g.zip (lists ws)).length ≤ 7 := by
                  rw [List.length_zip, hg.len]
                  omega
                omega
            have hstc := hOc.st hkx (I (z + 1)) (z + 1) rfl
            have hOd := hOc.set k (z + 1)
            rw [inc_set hzc] at hstc hOd
            have hicl : (inc k xs.2).length = p' := by rw [inc_len]; exact hxsl
            have hcs := cells_int
            have pD : Hk <+: (Hk ++ [AObj.cells true []] ++ [AObj.cells true (xs.2.flatMap Go.Eng.e1)]).set (Hk ++ [AObj.cells true []]).length (.cells true ((inc k xs.2).flatMap Go.Eng.e1)) := pC.trans hOd.pre
            have hgD := hOd.ob
            have hOld : Bh.length ≠ (Hk ++ [AObj.cells true []]).length := by
              have := hok.lt
              simp; omega
            generalize hHc : Hk ++ [AObj.cells true []] = Hc at *
            have hzw : W (z + 1) := by unfold W; omega
            simp (maxSteps := 4000000) -implicitDefEqProofs -dsimp (disch := omega) only [↓AW_skip, ↓AW_ops, ↓AW_seq, ↓AW_cond, ↓AW_block, ↓AOps_nil, ↓AOps_pu, ↓AOps_ld, ↓AOps_ha, ↓AOps_guard, on_some, extK_false, extK_app, guardB_tt, condB_t, condB_f, ↓then_normal, pval, lval, hval_st, hval_blds, hval_app, rd_S, rd_C, put_S, putS_none, chkd, isAdr, bgot, cells_agg, partA, fillA, repl, eq_self, mk, List.foldl_cons, List.foldl_nil, List.replicate_succ, List.replicate_zero, List.set_cons_zero, List.set_cons_succ, List.getElem?_cons_zero, List.getElem?_cons_succ, List.drop_zero, List.drop_succ_cons, List.take_succ_cons, List.take_nil, Option.getD_some, Option.map_some, map_n, List.length_cons, List.length_nil, Nat.reduceAdd, Nat.reduceLeDiff, Nat.zero_add, bin_add, bin_neq, bin_lss, bin_gtr, w64, if_true, if_false, Bool.false_eq_true, decide_true, decide_false, Go.Eng.e1, not_true_eq_false, hltk', hwk.ls.idx hlt, hwk.ls.ld0 hz 1 false (by decide), e0, hBk.ls.idx hsB, hBk.ls.ld0 hxs 1 false (by decide), hrow.len, hlen1, hxk.len, hxk.idx hltk, hxk.ld0 hzp 1 false (by decide), hpe, hcvp, b1, b2, List.replicate_zero, repl, hHc, (hBk.mono pC).ls.ld0 hxs 1 false (by decide), happC, hOc.ls.idx hkx, hOc.ls.ld0 hzc 1 false (by decide), hstc]
            generalize hHd : (Hc ++ [AObj.cells true (xs.2.flatMap Go.Eng.e1)]).set Hc.length (.cells true ((inc k xs.2).flatMap Go.Eng.e1)) = Hd at *
            have hod := hok.mono pD
            have hrd : ∀ y ∈ w3, RW Bh Hd Bh.length y := fun y hy => (hrk y hy).mono pD
            have hj3 : s + 2 ^ pn < w3.length := by rw [hT3.len]; exact hsum
            obtain ⟨y, hy, hyT⟩ := hT3.at_ (s + 2 ^ pn) hsum
            have hrowy := (hrd y (List.mem_of_getElem? hy)).l1 hod.pre
            have hCl : ∀ c, Cd T x.2 s k (s + 2 ^ pn) c → c.length = p' := fun c hc => Cd_len hTl hc
            have hd0 : inc k (T s) ≠ [] := fun e => by
              have := congrArg List.length e
              rw [inc_len, hTsl] at this
              simp at this; omega
            have hadd := (hCk (s + 2 ^ pn) hsum).add (S' := Cd T x.2 s (k + 1) (s + 2 ^ pn)) hCl (by rw [inc_len]; exact hTsl) hd0 (fun c => by
              have := Cd_add (c := c) hzp (by rw [hpt]; exact hb') hf
              rw [hpt] at this
              exact this)
            have hCo : ∀ t, t ≠ s + 2 ^ pn → t < N → TopC (Cd T x.2 s (k + 1) t) id (T3 t) := fun t hne ht => (hCk t ht).congr (fun c => Cd_other hzp (by rw [hpt]; exact hne))
            have hsty := hod.st hj3 (.sl 1 Hc.length 0 xs.2.length false) (.sl 1 Hc.length 0 xs.2.length false, inc k xs.2) rfl
            have hnew : RW Bh Hd Bh.length (.sl 1 Hc.length 0 xs.2.length false, inc k xs.2) := .inr ⟨Hc.length, false, by simp only [inc_len], Ne.symm hOld, hgD⟩
            have store : T3 (s + 2 ^ pn) = [] ∨ leL (inc k (T s)) (T3 (s + 2 ^ pn)) = false →
                (OL 1 e0 Bh (Hd.set Bh.length (.cells true ((w3.set (s + 2 ^ pn) (.sl 1 Hc.length 0 xs.2.length false, inc k xs.2)).flatMap e0))) Bh.length vn (w3.set (s + 2 ^ pn) (.sl 1 Hc.length 0 xs.2.length false, inc k xs.2)) ∧
                (∀ y ∈ w3.set (s + 2 ^ pn) (.sl 1 Hc.length 0 xs.2.length false, inc k xs.2), RW Bh (Hd.set Bh.length (.cells true ((w3.set (s + 2 ^ pn) (.sl 1 Hc.length 0 xs.2.length false, inc k xs.2)).flatMap e0))) Bh.length y) ∧
                TbL N (w3.set (s + 2 ^ pn) (.sl 1 Hc.length 0 xs.2.length false, inc k xs.2)) (upd T3 (s + 2 ^ pn) (inc k xs.2)) ∧ ∀ t, t < N → TopC (Cd T x.2 s (k + 1) t) id (upd T3 (s + 2 ^ pn) (inc k xs.2) t)) := by
              intro hh
              refine ⟨hod.set _ _, fun y hy => ?_, hT3.set hsum _ _, fun t ht => ?_⟩
              · rcases List.mem_or_eq_of_mem_set hy with hy | rfl
                · exact (hrd y hy).set _
                · exact hnew.set _
              · by_cases e : t = s + 2 ^ pn
                · subst e
                  rw [if_pos hh] at hadd
                  simp only [upd, if_true]
                  rw [hxT]
                  exact hadd
                · rw [show upd T3 (s + 2 ^ pn) (inc k xs.2) t = T3 t by simp [upd, e]]
                  exact hCo t e ht
            by_cases he : T3 (s + 2 ^ pn) = []
            · have hy0 : ((y.2.length : Nat) : Int) = 0 := by rw [hyT, he]; rfl
              obtain ⟨q1, q2, q3, q4⟩ := store (.inl he)
              simp (maxSteps := 4000000) -implicitDefEqProofs -dsimp (disch := omega) only [↓AW_ops, ↓AW_cond, ↓AOps_nil, ↓AOps_pu, ↓AOps_ld, ↓AOps_ha, ↓AOps_guard, on_some, extK_false, guardB_tf, skipS_some, condB_t, ↓then_normal, ↓inBlock_normal, pval, lval, hval_st, rd_S, rd_C, put_S, putS_none, partA, eq_self, mk, List.foldl_cons, List.foldl_nil, List.replicate_succ, List.replicate_zero, List.set_cons_zero, List.set_cons_succ, List.getElem?_cons_zero, List.getElem?_cons_succ, List.drop_zero, List.take_succ_cons, List.take_nil, Option.getD_some, Option.map_some, List.length_cons, List.length_nil, Nat.reduceAdd, Nat.reduceLeDiff, Nat.zero_add, bin_add, bin_eql, w64, if_true, if_false, Bool.false_eq_true, decide_true, true_and, b3', hod.ls.idx hj3, hod.ls.ld0 hy 1 false (by decide), e0, hrowy.len, hy0, hsty]
              exact ⟨(k + 1, _, _, _), ⟨hltk, fun h => absurd h hf, q1, q2, q3, q4⟩, by simp [Has, rd_s], rfl, by simp only; omega⟩
            · have hy0 : ¬ ((y.2.length : Nat) : Int) = 0 := by
                rw [hyT]
                have := pos_ne he
                omega
              have hyl : y.2.length = p' := by rw [hyT]; exact (hCk _ hsum).len hCl he
              have hLc : L1 Hd (.sl 1 Hc.length 0 xs.2.length false) (inc k xs.2) := hOd.ls
              have c84 := s84 hLc hrowy (by omega) (by omega)
              simp (maxSteps := 4000000) -implicitDefEqProofs -dsimp (disch := omega) only [↓AOps_pu, ↓AOps_ld, ↓AOps_call, ↓AOps_guard, on_some, guardB_ff, pval, lval, rd_S, rd_C, put_S, putS_none, partA, eq_self, mk, List.foldl_cons, List.foldl_nil, List.replicate_succ, List.replicate_zero, List.set_cons_zero, List.set_cons_succ, List.getElem?_cons_zero, List.getElem?_cons_succ, List.drop_zero, List.take_succ_cons, List.take_nil, Option.getD_some, map_c, map_n, List.length_cons, List.length_nil, Nat.reduceLeDiff, Nat.zero_add, bin_eql, if_true, if_false, Bool.false_eq_true, decide_false, b3', hod.ls.idx hj3, hod.ls.ld0 hy 1 false (by decide), e0, hrowy.len, hy0]
              refine CallK.of c84 ?_
              rw [hyT, hxT]
              cases hle : leL (inc k (T s)) (T3 (s + 2 ^ pn)) with
              | true =>
                rw [if_neg (by rintro (h | h); exact he h; rw [hle] at h; cases h)] at hadd
                simp (maxSteps := 4000000) -implicitDefEqProofs -dsimp (disch := omega) only [↓AW_skip, ↓AW_ops, ↓AW_cond, ↓AOps_nil, ↓AOps_pu, on_some, extK_same, condB_f, ↓then_normal, ↓inBlock_normal, pval, rd_S, rd_C, put_S, putS_none, eq_self, mk, List.foldl_cons, List.foldl_nil, List.replicate_succ, List.replicate_zero, List.set_cons_zero, List.set_cons_succ, List.getElem?_cons_zero, List.getElem?_cons_succ, Option.getD_some, List.length_cons, List.length_nil, Nat.reduceAdd, Nat.zero_add, bin_add, w64, if_false, Bool.false_eq_true, Bool.not_true, true_and]
                refine ⟨(k + 1, Hd, w3, T3), ⟨hltk, fun h => absurd h hf, hod, hrd, hT3, fun t ht => ?_⟩, by simp [Has, rd_s], rfl, by simp only; omega⟩
                by_cases e : t = s + 2 ^ pn
                · rw [e]; exact hadd
                · exact hCo t e ht
              | false =>
                obtain ⟨q1, q2, q3, q4⟩ := store (.inr hle)
                rw [hxT] at hsty q1 q2 q3 q4
                simp (maxSteps := 4000000) -implicitDefEqProofs -dsimp (disch := omega) only [↓AW_ops, ↓AW_cond, ↓AOps_nil, ↓AOps_pu, ↓AOps_ha, on_some, extK_false, extK_same, condB_t, ↓then_normal, ↓inBlock_normal, pval, hval_st, rd_S, rd_C, put_S, putS_none, eq_self, mk, List.foldl_cons, List.foldl_nil, List.replicate_succ, List.replicate_zero, List.set_cons_zero, List.set_cons_succ, List.getElem?_cons_zero, List.getElem?_cons_succ, Option.getD_some, Option.map_some, List.length_cons, List.length_nil, Nat.reduceAdd, Nat.zero_add, bin_add, w64, if_false, Bool.false_eq_true, Bool.not_false, true_and, b3', hod.ls.idx hj3, hsty]
                exact ⟨(k + 1, _, _, _), ⟨hltk, fun h => absurd h hf, q1, q2, q3, q4⟩, by simp [Has, rd_s], rfl, by simp only; omega⟩
      · have hltk' : ¬ ((k : Int) < x.2.length) := by omega
        have hkk : k = x.2.length := by omega
        subst hkk
        simp (maxSteps := 4000000) -implicitDefEqProofs -dsimp (disch := omega) only [↓AW_ops, ↓AW_seq, ↓AW_cond, ↓AW_block, ↓AW_exit, ↓AOps_nil, ↓AOps_pu, ↓AOps_ld, ↓AOps_guard, on_some, guardB_ft, skipS_some, condB_f, ↓then_normal, ↓then_exit, ↓inBlock_normal, ↓inBlock_exit, pval, lval, rd_S, rd_C, put_S, ↓AW_toLoop, chkd, isAdr, bgot, cells_agg, partA, eq_self, mk, List.foldl_cons, List.foldl_nil, List.replicate_succ, List.replicate_zero, List.set_cons_zero, List.set_cons_succ, List.getElem?_cons_zero, List.getElem?_cons_succ, List.drop_zero, List.drop_succ_cons, List.take_succ_cons, List.take_nil, Option.getD_some, List.length_cons, List.length_nil, Nat.reduceAdd, Nat.reduceLeDiff, Nat.reduceEqDiff, Nat.zero_add, bin_add, bin_lss, w64, if_true, if_false, Bool.false_eq_true, decide_false, true_and, reduceCtorEq, hltk', hwk.ls.idx hlt, hwk.ls.ld0 hz 1 false (by decide), e0, hxk.len]
        exact ⟨(s + 1, Hk, w3, T3), ⟨hsN, hok, hrk, hT3, fun t ht => (hCk t ht).congr (fun c => Cd_row)⟩, by simp [Has, rd_s], rfl, by simp only; omega⟩
    · have hsN' : ¬ ((s : Int) < N) := by omega
      have hsn : s = N := by omega
      subst hsn
      simp (maxSteps := 4000000) -implicitDefEqProofs -dsimp (disch := omega) only [↓AW_ops, ↓AW_seq, ↓AW_cond, ↓AW_block, ↓AW_exit, ↓AOps_nil, ↓AOps_pu, on_some, condB_f, ↓then_normal, ↓then_exit, ↓inBlock_normal, ↓inBlock_exit, pval, rd_S, rd_C, put_S, ↓AW_toLoop, eq_self, mk, List.foldl_cons, List.foldl_nil, List.replicate_succ, List.replicate_zero, List.set_cons_zero, List.set_cons_succ, List.getElem?_cons_zero, List.getElem?_cons_succ, Option.getD_some, List.length_cons, List.length_nil, Nat.reduceAdd, Nat.reduceEqDiff, Nat.zero_add, bin_add, bin_lss, w64, if_true, if_false, decide_false, true_and, reduceCtorEq, hsN', hBlen]
      refine ⟨(i + 1, vn, Hs, w2, T2), ⟨hlt, hAB.trans ho.pre, ⟨ho.ls, fun y hy => (hr y hy).l1 ho.pre⟩, hT2, ?_⟩, by simp [Has, rd_s], rfl, by simp only; omega⟩
      refine TT_step hv (by simpa using hlt) hTT (fun t ht => ?_)
      rw [hlx, hNP]
      exact hC t (by rw [← hNP]; exact ht)
  · have hlt' : ¬ ((i : Int) < ws.length) := by omega
    have hii : i = ws.length := by omega
    subst hii
    have hmost : mb (fun s => !decide (T s = [])) N = most P (lists ws) := by
      have h1 := mb_most (by omega : (0 : Int) ≤ P) hls (-1)
      rw [drp_none, List.length_map, hNP] at h1
      rw [← h1]
      exact mb_congr (fun t ht => TT_cF hv hTT (by rw [hNP]; exact ht))
    simp (maxSteps := 4000000) -implicitDefEqProofs -dsimp (disch := omega) only [↓AW_ops, ↓AW_seq, ↓AW_cond, ↓AW_block, ↓AW_exit, ↓AOps_nil, ↓AOps_pu, on_some, condB_f, ↓then_normal, ↓then_exit, ↓inBlock_exit, pval, rd_S, rd_C, put_S, ↓AW_toLoop, chkd, isAdr, bgot, cells_agg, partA, eq_self, mk, List.foldl_cons, List.foldl_nil, List.replicate_succ, List.replicate_zero, List.set_cons_zero, List.set_cons_succ, List.getElem?_cons_zero, List.getElem?_cons_succ, List.drop_zero, List.drop_succ_cons, List.take_succ_cons, List.take_nil, Option.getD_some, List.length_cons, List.length_nil, Nat.reduceAdd, Nat.reduceLeDiff, Nat.zero_add, bin_lss, if_true, if_false, Bool.false_eq_true, decide_false, hlt', hwH.ls.len]
    refine LoopK.by 166 (fun s : Nat => s ≤ N) (fun s => [(1, .agg [I P, v]), (5, vB), (12, I (mb (fun s => !decide (T s = [])) s)), (13, I s)]) (fun _ => H) (fun s => N - s) 0 (by omega) rfl (by simp [Has, rd_s, mb]) rfl ?_
    intro s hsl
    by_cases hsN : s < N
    · have hsN' : (s : Int) < N := by omega
      obtain ⟨xs, hxs, hxT⟩ := hTb.at_ s hsN
      have hsB : s < wsB.length := by rw [hTb.len]; exact hsN
      have hrow := hB.inn xs (List.mem_of_getElem? hxs)
      by_cases hf : T s = []
      · have hlen0 : ¬ ((0 : Int) < (xs.2.length : Int)) := by rw [hxT, hf]; simp
        have hmb : mb (fun s => !decide (T s = [])) (s + 1) = mb (fun s => !decide (T s = [])) s := by rw [mb, if_neg (by simp [hf])]
        simp (maxSteps := 4000000) -implicitDefEqProofs -dsimp (disch := omega) only [↓AW_skip, ↓AW_ops, ↓AW_seq, ↓AW_cond, ↓AW_block, ↓AOps_nil, ↓AOps_pu, ↓AOps_ld, on_some, condB_t, condB_f, ↓then_normal, ↓inBlock_normal, pval, lval, rd_S, rd_C, put_S, partA, eq_self, mk, List.foldl_cons, List.foldl_nil, List.replicate_succ, List.replicate_zero, List.set_cons_zero, List.set_cons_succ, List.getElem?_cons_zero, List.getElem?_cons_succ, List.drop_zero, List.take_succ_cons, List.take_nil, Option.getD_some, List.length_cons, List.length_nil, Nat.reduceAdd, Nat.reduceLeDiff, Nat.zero_add, bin_add, bin_lss, bin_gtr, w64, if_true, if_false, Bool.false_eq_true, decide_true, decide_false, true_and, hsN', hBlen, hB.ls.idx hsB, hB.ls.ld0 hxs 1 false (by decide), e0, hrow.len, hlen0]
        exact ⟨s + 1, hsN, by simp [Has, rd_s, hmb], by omega⟩
      · have hlen1 : (0 : Int) < (xs.2.length : Int) := by rw [hxT]; exact pos_ne hf
        have hmb : mb (fun s => !decide (T s = [])) (s + 1) = max (mb (fun s => !decide (T s = [])) s) (pc s) := by rw [mb, if_pos (by simp [hf])]
        simp (maxSteps := 4000000) -implicitDefEqProofs -dsimp (disch := omega) only [↓AW_skip, ↓AW_ops, ↓AW_seq, ↓AW_cond, ↓AW_block, ↓AOps_nil, ↓AOps_pu, ↓AOps_ld, ↓AOps_call, on_some, condB_t, ↓then_normal, pval, lval, rd_S, rd_C, put_S, partA, eq_self, mk, List.foldl_cons, List.foldl_nil, List.replicate_succ, List.replicate_zero, List.set_cons_zero, List.set_cons_succ, List.getElem?_cons_zero, List.getElem?_cons_succ, List.drop_zero, List.take_succ_cons, List.take_nil, Option.getD_some, map_c, map_n, List.length_cons, List.length_nil, Nat.reduceLeDiff, Nat.zero_add, bin_lss, bin_gtr, if_true, if_false, Bool.false_eq_true, decide_true, hsN', hBlen, hB.ls.idx hsB, hB.ls.ld0 hxs 1 false (by decide), e0, hrow.len, hlen1]
        refine CallK.of (s60 s (by omega) H) ?_
        simp (maxSteps := 4000000) -implicitDefEqProofs -dsimp (disch := omega) only [↓AW_ops, ↓AOps_nil, ↓AOps_pu, on_some, extK_same, ↓then_normal, ↓inBlock_normal, pval, rd_S, rd_C, put_S, eq_self, mk, List.foldl_cons, List.foldl_nil, List.replicate_succ, List.replicate_zero, List.set_cons_zero, List.set_cons_succ, List.getElem?_cons_zero, List.getElem?_cons_succ, Option.getD_some, map_c, map_n, List.length_cons, List.length_nil, Nat.reduceAdd, Nat.zero_add, bin_add, mm_max, w64, true_and]
        exact ⟨s + 1, hsN, by simp [Has, rd_s, hmb]; omega, by omega⟩
    · have hsN' : ¬ ((s : Int) < N) := by omega
      have hsn : s = N := by omega
      subst hsn
      rw [hmost]
      have hz := OL.new_mk e1_len H (List.replicate p' (0 : Int)) true
      rw [List.length_replicate] at hz
      have pH := pre_app H [AObj.cells true ((List.replicate p' (0 : Int)).flatMap Go.Eng.e1)]
      simp (maxSteps := 4000000) -implicitDefEqProofs -dsimp (disch := omega) only [↓AW_ops, ↓AW_seq, ↓AW_cond, ↓AW_block, ↓AW_exit, ↓AOps_nil, ↓AOps_pu, ↓AOps_ha, on_some, extK_app, condB_f, ↓then_normal, ↓then_exit, ↓inBlock_exit, pval, hval_mks, rd_S, rd_C, put_S, ↓AW_toLoop, chkd, isAdr, bgot, cells_agg, partA, beq_self_eq_true, eq_self, mk, List.foldl_cons, List.foldl_nil, List.replicate_succ, List.replicate_zero, List.set_cons_zero, List.set_cons_succ, List.getElem?_cons_zero, List.getElem?_cons_succ, List.drop_zero, List.take_zero, List.take_succ_cons, Option.getD_some, List.length_cons, List.length_nil, Nat.reduceAdd, Nat.reduceLeDiff, Nat.zero_add, bin_lss, if_true, if_false, Bool.false_eq_true, decide_false, and_true, hsN', hBlen, hp0, hpl, hpn, Int.le_refl, repl_zero]
      have hBz := hB.mono pH
      have hzl := hz.ls
      generalize H ++ [AObj.cells true ((List.replicate p' (0 : Int)).flatMap Go.Eng.e1)] = Hz at *
      have hSl0 : TopC (Sl T (most P (lists ws)) (List.replicate p' 0) 0) id (List.replicate p' 0) := by
        refine .inr ⟨fun e => ?_, ⟨_, .inl rfl, rfl⟩, ?_⟩
        · have := congrArg List.length e
          simp at this; omega
        · rintro c (rfl | ⟨s, h, _⟩)
          · exact leL_refl _
          · omega
      refine LoopK.by 166 (fun z : Nat × AV × List Int => z.1 ≤ s ∧ L1 Hz z.2.1 z.2.2 ∧ z.2.2.length = p' ∧ TopC (Sl T (most P (lists ws)) (List.replicate p' 0) z.1) id z.2.2) (fun z => [(5, vB), (12, I (most P (lists ws))), (14, z.2.1), (15, I z.1)]) (fun _ => Hz) (fun z => s - z.1) (0, .sl 1 H.length 0 p' true, List.replicate p' 0) ⟨by simp only; omega, hzl, by simp, hSl0⟩ rfl (by simp [Has, rd_s]) rfl ?_
      rintro ⟨j, vo, out⟩ ⟨hj, hvo, hol, hSl⟩
      simp only at hj hvo hol hSl
      have hone : out ≠ [] := fun e => by rw [e] at hol; simp at hol; omega
      by_cases hjN : j < s
      · have hjN' : (j : Int) < s := by omega
        obtain ⟨xs, hxs, hxT⟩ := hTb.at_ j hjN
        have hjB : j < wsB.length := by rw [hTb.len]; exact hjN
        have hrow := hBz.inn xs (List.mem_of_getElem? hxs)
        have skip : (T j = [] ∨ ¬ pc j = most P (lists ws)) → TopC (Sl T (most P (lists ws)) (List.replicate p' 0) (j + 1)) id out := by
          intro hh
          refine hSl.congr (fun c => ?_)
          unfold Sl
          constructor
          · rintro (h | ⟨t, h1, h2, h3, h4⟩)
            · exact .inl h
            · by_cases e : t = j
              · subst e
                rcases hh with hh | hh
                · exact absurd hh h2
                · exact absurd h3 hh
              · exact .inr ⟨t, by omega, h2, h3, h4⟩
          · rintro (h | ⟨t, h1, h2⟩)
            · exact .inl h
            · exact .inr ⟨t, by omega, h2⟩
        by_cases hf : T j = []
        · have hlen0 : ¬ ((0 : Int) < (xs.2.length : Int)) := by rw [hxT, hf]; simp
          simp (maxSteps := 4000000) -implicitDefEqProofs -dsimp (disch := omega) only [↓AW_skip, ↓AW_ops, ↓AW_seq, ↓AW_cond, ↓AW_block, ↓AOps_nil, ↓AOps_pu, ↓AOps_ld, ↓AOps_guard, on_some, guardB_ft, skipS_some, condB_t, condB_f, ↓then_normal, ↓inBlock_normal, pval, lval, rd_S, rd_C, put_S, partA, eq_self, mk, List.foldl_cons, List.foldl_nil, List.replicate_succ, List.replicate_zero, List.set_cons_zero, List.set_cons_succ, List.getElem?_cons_zero, List.getElem?_cons_succ, List.drop_zero, List.take_succ_cons, List.take_nil, Option.getD_some, List.length_cons, List.length_nil, Nat.reduceAdd, Nat.reduceLeDiff, Nat.zero_add, bin_add, bin_lss, bin_gtr, w64, if_true, if_false, Bool.false_eq_true, decide_true, decide_false, true_and, hjN', hBlen, hBz.ls.idx hjB, hBz.ls.ld0 hxs 1 false (by decide), e0, hrow.len, hlen0]
          exact ⟨(j + 1, vo, out), ⟨hjN, hvo, hol, skip (.inl hf)⟩, by simp [Has, rd_s], by simp only; omega⟩
        · have hlen1 : (0 : Int) < (xs.2.length : Int) := by rw [hxT]; exact pos_ne hf
          simp (maxSteps := 4000000) -implicitDefEqProofs -dsimp (disch := omega) only [↓AW_skip, ↓AW_ops, ↓AW_seq, ↓AW_cond, ↓AW_block, ↓AOps_nil, ↓AOps_pu, ↓AOps_ld, ↓AOps_call, ↓AOps_guard, on_some, guardB_tt, condB_t, ↓then_normal, pval, lval, rd_S, rd_C, put_S, partA, eq_self, mk, List.foldl_cons, List.foldl_nil, List.replicate_succ, List.replicate_zero, List.set_cons_zero, List.set_cons_succ, List.getElem?_cons_zero, List.getElem?_cons_succ, List.drop_zero, List.take_succ_cons, List.take_nil, Option.getD_some, map_c, map_n, List.length_cons, List.length_nil, Nat.reduceLeDiff, Nat.zero_add, bin_lss, bin_gtr, if_true, if_false, Bool.false_eq_true, decide_true, hjN', hBlen, hBz.ls.idx hjB, hBz.ls.ld0 hxs 1 false (by decide), e0, hrow.len, hlen1]
          refine CallK.of (s60 j (by omega) Hz) ?_
          by_cases hpc : pc j = most P (lists ws)
          · have hpc' : ((pc j : Nat) : Int) = (most P (lists ws) : Nat) := by omega
            simp (maxSteps := 4000000) -implicitDefEqProofs -dsimp (disch := omega) only [↓AOps_pu, ↓AOps_ld, ↓AOps_call, ↓AOps_guard, on_some, extK_same, guardB_tt, pval, lval, rd_S, rd_C, put_S, partA, eq_self, mk, List.foldl_cons, List.foldl_nil, List.replicate_succ, List.replicate_zero, List.set_cons_zero, List.set_cons_succ, List.getElem?_cons_zero, List.getElem?_cons_succ, List.drop_zero, List.take_succ_cons, List.take_nil, Option.getD_some, map_c, map_n, List.length_cons, List.length_nil, Nat.reduceLeDiff, Nat.zero_add, bin_eql, if_true, if_false, Bool.false_eq_true, decide_true, hpc', hBz.ls.idx hjB, hBz.ls.ld0 hxs 1 false (by decide), e0]
            have hxl : xs.2.length = p' := by rw [hxT]; exact hTl j hf
            refine CallK.of (s84 hrow hvo (by omega) (by omega)) ?_
            have hlenS : ∀ c, Sl T (most P (lists ws)) (List.replicate p' 0) j c → c.length = p' := by
              rintro c (rfl | ⟨t, h1, h2, h3, rfl⟩)
              · simp
              · exact hTl t h2
            have hadd := hSl.add (S' := Sl T (most P (lists ws)) (List.replicate p' 0) (j + 1)) hlenS (hTl j hf) hf (fun c => by
              unfold Sl
              constructor
              · rintro (h | ⟨t, h1, h2, h3, h4⟩)
                · exact .inl (.inl h)
                · by_cases e : t = j
                  · subst e; exact .inr h4
                  · exact .inl (.inr ⟨t, by omega, h2, h3, h4⟩)
              · rintro ((h | ⟨t, h1, h2⟩) | h)
                · exact .inl h
                · exact .inr ⟨t, by omega, h2⟩
                · exact .inr ⟨j, by omega, hf, hpc, h⟩)
            rw [hxT]
            cases hle : leL (T j) out with
            | true =>
              rw [if_neg (by rintro (h | h); exact hone h; rw [hle] at h; cases h)] at hadd
              simp (maxSteps := 4000000) -implicitDefEqProofs -dsimp (disch := omega) only [↓AW_skip, ↓AW_ops, ↓AW_cond, ↓AOps_nil, ↓AOps_pu, on_some, extK_same, condB_f, ↓then_normal, ↓inBlock_normal, pval, rd_S, rd_C, put_S, eq_self, mk, List.foldl_cons, List.foldl_nil, List.replicate_succ, List.replicate_zero, List.set_cons_zero, List.set_cons_succ, List.getElem?_cons_zero, List.getElem?_cons_succ, Option.getD_some, List.length_cons, List.length_nil, Nat.reduceAdd, Nat.zero_add, bin_add, w64, if_true, Bool.not_true, true_and]
              exact ⟨(j + 1, vo, out), ⟨hjN, hvo, hol, hadd⟩, by simp [Has, rd_s], by simp only; omega⟩
            | false =>
              rw [if_pos (.inr hle)] at hadd
              simp (maxSteps := 4000000) -implicitDefEqProofs -dsimp (disch := omega) only [↓AW_ops, ↓AW_cond, ↓AOps_nil, ↓AOps_pu, ↓AOps_ld, on_some, extK_same, condB_t, ↓then_normal, ↓inBlock_normal, pval, lval, rd_S, rd_C, put_S, partA, eq_self, mk, List.foldl_cons, List.foldl_nil, List.replicate_succ, List.replicate_zero, List.set_cons_zero, List.set_cons_succ, List.getElem?_cons_zero, List.getElem?_cons_succ, List.drop_zero, List.take_succ_cons, List.take_nil, Option.getD_some, List.length_cons, List.length_nil, Nat.reduceAdd, Nat.reduceLeDiff, Nat.zero_add, bin_add, w64, if_true, if_false, Bool.false_eq_true, Bool.not_false, true_and, hBz.ls.idx hjB, hBz.ls.ld0 hxs 1 false (by decide), e0]
              exact ⟨(j + 1, xs.1, T j), ⟨hjN, by rw [← hxT]; exact hrow, hTl j hf, hadd⟩, by simp [Has, rd_s], by simp only; omega⟩
          · have hpc' : ¬ ((pc j : Nat) : Int) = (most P (lists ws) : Nat) := by omega
            simp (maxSteps := 4000000) -implicitDefEqProofs -dsimp (disch := omega) only [↓AW_skip, ↓AW_ops, ↓AW_cond, ↓AOps_nil, ↓AOps_pu, ↓AOps_guard, on_some, extK_same, guardB_tt, guardB_ft, skipS_some, condB_f, ↓then_normal, ↓inBlock_normal, pval, rd_S, rd_C, put_S, eq_self, mk, List.foldl_cons, List.foldl_nil, List.replicate_succ, List.replicate_zero, List.set_cons_zero, List.set_cons_succ, List.getElem?_cons_zero, List.getElem?_cons_succ, Option.getD_some, List.length_cons, List.length_nil, Nat.reduceAdd, Nat.zero_add, bin_add, bin_eql, w64, if_true, if_false, Bool.false_eq_true, decide_false, true_and, hpc']
            exact ⟨(j + 1, vo, out), ⟨hjN, hvo, hol, skip (.inr hpc)⟩, by simp [Has, rd_s], by simp only; omega⟩
      · have hjN' : ¬ ((j : Int) < s) := by omega
        have hjs : j = s := by omega
        subst hjs
        simp (maxSteps := 4000000) -implicitDefEqProofs -dsimp (disch := omega) only [↓AW_ops, ↓AW_seq, ↓AW_cond, ↓AW_exit, ↓AW_ret, ↓AOps_nil, ↓AOps_pu, on_some, condB_f, ↓then_normal, ↓then_exit, ↓inBlock_exit, ↓FinR_ret, pval, rd_S, rd_C, put_S, resV, resL, eq_self, mk, List.foldl_cons, List.foldl_nil, List.replicate_succ, List.replicate_zero, List.set_cons_zero, List.set_cons_succ, List.getElem?_cons_zero, List.getElem?_cons_succ, Option.getD_some, bin_lss, if_true, decide_false, hjN', hBlen]
        refine ⟨_, _, gc_all, fun h => absurd h0 h, fun _ => ⟨vo, out, rfl, hA.trans pH, hvo, ?_⟩⟩
        refine out_best hv (T := T) (by simpa using hTT) ?_
        rw [hNP, hpn]
        exact hSl
end Go.Proofs.Ytlmbobbefgcolaa

namespace Go.Proofs.Ytlmbobbefgcolaa
open Go Go.Eng
end Go.Proofs.Ytlmbobbefgcolaa

namespace Go.Proofs.Ytlmbobbefgcolaa
open Go Go.Eng
set_option maxHeartbeats 4000000 in
theorem s13 {P : Int} {ws : List (AV × List Int)} {v : AV} {A : AHeap} (hw : LL A v ws) (hl : ws.length ≤ 9223372036854775807) :
    ACalls Try.prog 13 [.agg [I P, v]] A (B true) A := by
  refine acalls hmix Try.func13 (by kernel_rfl) t13 1 rfl (by decide) ?_
  dsimp only [m13]
  simp (maxSteps := 4000000) -implicitDefEqProofs -dsimp (disch := omega) only [↓AW_ops, ↓AW_seq, ↓AOps_nil, ↓AOps_pu, ↓AOps_call, on_some, ↓then_normal, pval, rd_S, rd_C, put_S, chkd, bgot, AV.cells?, partA, eq_self, List.replicate_succ, List.replicate_zero, List.set_cons_zero, List.set_cons_succ, List.getElem?_cons_zero, List.getElem?_cons_succ, List.drop_zero, List.take_succ_cons, List.take_nil, Option.getD_some, map_c, map_n, List.length_cons, List.length_nil, Nat.reduceAdd, Nat.reduceSub, Nat.reduceLeDiff, Nat.reduceEqDiff, Nat.zero_add, List.cons_append, List.nil_append, if_true, if_false]
  refine CallK.of (s17 hw hl) ?_
  by_cases h1 : longW ws
  · simp (maxSteps := 4000000) -implicitDefEqProofs -dsimp (disch := omega) only [↓AW_ops, ↓AW_seq, ↓AW_cond, ↓AOps_nil, ↓AOps_call, extK_same, condB_t, ↓then_normal, rd_S, put_S, List.replicate_succ, List.replicate_zero, List.set_cons_zero, List.set_cons_succ, List.getElem?_cons_zero, List.getElem?_cons_succ, Option.getD_some, map_n, Nat.reduceSub, List.cons_append, List.nil_append, decide_true, h1]
    refine CallK.of (known A) ?_
    simp (maxSteps := 4000000) -implicitDefEqProofs -dsimp (disch := omega) only [↓AW_ret, ↓AOps_nil, ↓AOps_pu, on_some, extK_same, ↓then_normal, ↓then_ret, ↓Fin_ret, pval, rd_S, put_S, resV, resL, List.replicate_succ, List.replicate_zero, List.set_cons_zero, List.set_cons_succ, List.getElem?_cons_zero, List.getElem?_cons_succ, Option.getD_some, Nat.reduceSub, List.cons_append, List.nil_append]
    exact gc_same rfl
  · simp (maxSteps := 4000000) -implicitDefEqProofs -dsimp (disch := omega) only [↓AW_skip, ↓AW_ops, ↓AW_seq, ↓AW_cond, ↓AOps_nil, ↓AOps_pu, ↓AOps_call, on_some, extK_same, condB_f, ↓then_normal, pval, rd_S, put_S, chkd, bgot, partA, eq_self, List.replicate_succ, List.replicate_zero, List.set_cons_zero, List.set_cons_succ, List.getElem?_cons_zero, List.getElem?_cons_succ, List.drop_zero, List.take_succ_cons, List.take_nil, Option.getD_some, map_c, map_n, List.length_cons, List.length_nil, Nat.reduceAdd, Nat.reduceSub, Nat.reduceLeDiff, Nat.reduceEqDiff, Nat.zero_add, List.cons_append, List.nil_append, if_true, if_false, decide_false, h1]
    have hs := Sz_of h1
    obtain ⟨r, H1, c1, n1, y1⟩ := s48 (P := P) hw hs
    by_cases h0 : vW P (lists ws) = 0
    · obtain ⟨y, g, rfl, p1, hg, hG, hsr, hb⟩ := y1 h0
      refine CallK.of c1 ?_
      have hw1 := hw.mono p1
      obtain ⟨r, H2, c2, _, y2⟩ := s49 (P := P) hw1 hs
      obtain ⟨yo, out, rfl, p2, ho, hbo⟩ := y2 h0
      simp (maxSteps := 4000000) -implicitDefEqProofs -dsimp (disch := omega) only [↓AW_ops, ↓AW_seq, ↓AOps_nil, ↓AOps_pu, ↓AOps_call, on_some, extK_false, ↓then_normal, pval, rd_S, put_S, chkd, bgot, partA, eq_self, List.replicate_succ, List.replicate_zero, List.set_cons_zero, List.set_cons_succ, List.getElem?_cons_zero, List.getElem?_cons_succ, List.drop_zero, List.take_succ_cons, List.take_nil, Option.getD_some, map_c, map_n, List.length_cons, List.length_nil, Nat.reduceAdd, Nat.reduceSub, Nat.reduceLeDiff, Nat.reduceEqDiff, Nat.zero_add, List.cons_append, List.nil_append, if_true, if_false]
      refine CallK.of c2 ?_
      have hw2 := hw1.mono p2
      have hg2 := hg.mono p2
      have hgl : g.length ≤ 7 := by
        have := (val_of h0).n
        rw [hG.len]; omega
      have hE : gE P (lists ws) g = 0 := good_iff.2 ⟨h0, hG⟩
      have hN : gN P (lists ws) g = most P (lists ws) := by unfold gN; rw [if_pos hE, hsr]
      have hM : mostN P (lists ws) = most P (lists ws) := by unfold mostN; rw [if_pos h0]
      have hC : cntL P (lists ws) g = out := by
        unfold cntL
        rw [if_pos hE]
        exact hb.uniq hbo
      simp (maxSteps := 4000000) -implicitDefEqProofs -dsimp (disch := omega) only [↓AW_skip, ↓AW_ops, ↓AW_seq, ↓AW_cond, ↓AOps_nil, ↓AOps_pu, ↓AOps_call, on_some, extK_false, condB_f, ↓then_normal, pval, rd_S, rd_C, put_S, chkd, bgot, partA, eq_self, List.replicate_succ, List.replicate_zero, List.set_cons_zero, List.set_cons_succ, List.getElem?_cons_zero, List.getElem?_cons_succ, List.drop_zero, List.take_succ_cons, List.take_nil, Option.getD_some, map_c, map_n, List.length_cons, List.length_nil, Nat.reduceAdd, Nat.reduceSub, Nat.reduceLeDiff, Nat.reduceEqDiff, Nat.zero_add, List.cons_append, List.nil_append, bin_neq, if_true, if_false, decide_false, not_true_eq_false]
      refine CallK.of (s27 hw2 hs hg2 (by omega)) ?_
      simp (maxSteps := 4000000) -implicitDefEqProofs -dsimp (disch := omega) only [↓AW_ops, ↓AW_seq, ↓AOps_nil, ↓AOps_pu, ↓AOps_call, on_some, extK_same, ↓then_normal, pval, rd_S, put_S, chkd, bgot, partA, eq_self, List.replicate_succ, List.replicate_zero, List.set_cons_zero, List.set_cons_succ, List.getElem?_cons_zero, List.getElem?_cons_succ, List.drop_zero, List.take_succ_cons, List.take_nil, Option.getD_some, map_c, map_n, List.length_cons, List.length_nil, Nat.reduceAdd, Nat.reduceSub, Nat.reduceLeDiff, Nat.reduceEqDiff, Nat.zero_add, List.cons_append, List.nil_append, if_true, if_false, hE, hN]
      refine CallK.of (s25 hw2 hs) ?_
      simp (maxSteps := 4000000) -implicitDefEqProofs -dsimp (disch := omega) only [↓AW_ops, ↓AW_seq, ↓AOps_nil, ↓AOps_pu, ↓AOps_call, on_some, extK_same, ↓then_normal, pval, rd_S, put_S, chkd, bgot, partA, eq_self, List.replicate_succ, List.replicate_zero, List.set_cons_zero, List.set_cons_succ, List.getElem?_cons_zero, List.getElem?_cons_succ, List.drop_zero, List.take_succ_cons, List.take_nil, Option.getD_some, map_c, map_n, List.length_cons, List.length_nil, Nat.reduceAdd, Nat.reduceSub, Nat.reduceLeDiff, Nat.reduceEqDiff, Nat.zero_add, List.cons_append, List.nil_append, if_true, if_false, hM, h0]
      have c3 := s38 (P := P) hw2 hs hg2 (by omega)
      have p3 := pre_out H2 ((cntL P (lists ws) g).flatMap Go.Eng.e1) (cntL P (lists ws) g).length
      have q3 := Ls_out H2 e1_len (cntL P (lists ws) g)
      generalize outV 1 H2 (cntL P (lists ws) g).length = v3 at *
      generalize outH H2 ((cntL P (lists ws) g).flatMap Go.Eng.e1) (cntL P (lists ws) g).length = H3 at *
      rw [hE] at c3
      refine CallK.of c3 ?_
      rw [hC] at q3
      have hol : out.length ≤ 1000000 := by
        obtain ⟨⟨g', _, _, e⟩, _⟩ := hbo
        have := (val_of h0).hP
        rw [← e, cnt_len]; omega
      simp (maxSteps := 4000000) -implicitDefEqProofs -dsimp (disch := omega) only [↓AW_ops, ↓AW_seq, ↓AOps_nil, ↓AOps_pu, ↓AOps_call, ↓AOps_guard, on_some, extK_false, guardB_tt, ↓then_normal, pval, rd_S, rd_C, put_S, eq_self, List.replicate_succ, List.replicate_zero, List.set_cons_zero, List.set_cons_succ, List.getElem?_cons_zero, List.getElem?_cons_succ, Option.getD_some, map_c, map_n, Nat.reduceSub, List.cons_append, List.nil_append, bin_eql, if_true, decide_true]
      refine CallK.of (c_SameInts q3 (ho.mono p3) hol) ?_
      simp (maxSteps := 4000000) -implicitDefEqProofs -dsimp (disch := omega) only [↓AOps_pu, ↓AOps_call, ↓AOps_guard, on_some, extK_same, guardB_tt, pval, rd_S, rd_C, put_S, eq_self, List.replicate_succ, List.replicate_zero, List.set_cons_zero, List.set_cons_succ, List.getElem?_cons_zero, List.getElem?_cons_succ, Option.getD_some, map_n, Nat.reduceSub, List.cons_append, List.nil_append, if_true, decide_true]
      refine CallK.of (known H3) ?_
      simp (maxSteps := 4000000) -implicitDefEqProofs -dsimp (disch := omega) only [↓AW_ret, ↓AOps_nil, ↓AOps_pu, on_some, extK_same, ↓then_normal, ↓Fin_ret, pval, rd_S, rd_C, put_S, resV, resL, eq_self, List.replicate_succ, List.replicate_zero, List.set_cons_zero, List.set_cons_succ, List.getElem?_cons_zero, List.getElem?_cons_succ, Option.getD_some, Nat.reduceSub, List.cons_append, List.nil_append, if_true, decide_true]
      exact gc_val (p1.trans (p2.trans p3)) rfl
    · obtain ⟨rfl, p1⟩ := n1 h0
      refine CallK.of c1 ?_
      have hw1 := hw.mono p1
      obtain ⟨r, H2, c2, n2, _⟩ := s49 (P := P) hw1 hs
      obtain ⟨rfl, p2⟩ := n2 h0
      simp (maxSteps := 4000000) -implicitDefEqProofs -dsimp (disch := omega) only [↓AW_ops, ↓AW_seq, ↓AOps_nil, ↓AOps_pu, ↓AOps_call, on_some, extK_false, ↓then_normal, pval, rd_S, put_S, chkd, bgot, partA, eq_self, List.replicate_succ, List.replicate_zero, List.set_cons_zero, List.set_cons_succ, List.getElem?_cons_zero, List.getElem?_cons_succ, List.drop_zero, List.take_succ_cons, List.take_nil, Option.getD_some, map_c, map_n, List.length_cons, List.length_nil, Nat.reduceAdd, Nat.reduceSub, Nat.reduceLeDiff, Nat.reduceEqDiff, Nat.zero_add, List.cons_append, List.nil_append, if_true, if_false]
      refine CallK.of c2 ?_
      simp (maxSteps := 4000000) -implicitDefEqProofs -dsimp (disch := omega) only [↓AW_skip, ↓AW_ops, ↓AW_seq, ↓AW_cond, ↓AOps_nil, ↓AOps_pu, ↓AOps_call, ↓AOps_guard, on_some, extK_false, guardB_tt, condB_t, condB_f, ↓then_normal, pval, rd_S, rd_C, put_S, eq_self, List.replicate_succ, List.replicate_zero, List.set_cons_zero, List.set_cons_succ, List.getElem?_cons_zero, List.getElem?_cons_succ, Option.getD_some, map_n, Nat.reduceSub, List.cons_append, List.nil_append, bin_eql, bin_neq, decide_true, decide_false, not_true_eq_false, not_false_eq_true, h0, lenA]
      refine CallK.of (known H2) ?_
      simp (maxSteps := 4000000) -implicitDefEqProofs -dsimp (disch := omega) only [↓AW_ret, ↓AOps_nil, ↓AOps_pu, on_some, extK_same, ↓then_normal, ↓then_ret, ↓Fin_ret, pval, rd_S, rd_C, put_S, resV, resL, eq_self, List.replicate_succ, List.replicate_zero, List.set_cons_zero, List.set_cons_succ, List.getElem?_cons_zero, List.getElem?_cons_succ, Option.getD_some, Nat.reduceSub, List.cons_append, List.nil_append, if_true]
      exact gc_val (p1.trans p2) rfl
end Go.Proofs.Ytlmbobbefgcolaa

