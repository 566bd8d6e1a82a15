/- The abstract machine, part 12: every operation. No conditions. -/
import Derived.Test.YtlmbobbefgcolaaEng11
import Derived.WalkSpells
namespace Go.Eng
open Go

section
variable {P : Program} {ρ0 : Ren} {H0 : AHeap} {w0 : World} {bx : List Nat} {β : Nat → Option Nat} {ρ : Ren} {S : List AV} {H : AHeap} {a : Act} {w : World}

theorem run_v {s : Sem Value} {cv : Value} {w' : World} (h : s.run P w = .ok cv w') : (do pure (.value (← s)) : Sem Next).run P w = .ok (.value cv) w' := by
  rw [Sem.run_bind, h]; rfl
theorem run_u {s : Sem Unit} {w' : World} (h : s.run P w = .ok () w') : (do s; pure .skip : Sem Next).run P w = .ok .skip w' := by
  rw [Sem.run_bind, h]; rfl

theorem run_isnil (neg : Bool) {t e : TypeId} (x y : Operand) (ad : Option Addr) (l c : Nat) (hu : P.underlying t = some (.slice e)) :
    ((do eqGuard (if neg then .neq else .eql) t x y (.slice ad l c) (.slice none 0 0); binOp (if neg then .neq else .eql) t (.slice ad l c) (.slice none 0 0) : Sem Value)).run P w = .ok (.bool (if neg then !ad.isNone else ad.isNone)) w := by
  cases neg
  · simp only [Bool.false_eq_true, if_false, Sem.run_bind]
    have e1 : (eqGuard .eql t x y (.slice ad l c) (.slice none 0 0)).run P w = .ok () w := by simp [eqGuard]
    rw [e1, Result.andThen_ok, Lib.run_eql_slice_nil w t e ad l c 0 0 hu]
  · simp only [if_true, Sem.run_bind]
    have e1 : (eqGuard .neq t x y (.slice ad l c) (.slice none 0 0)).run P w = .ok () w := by simp [eqGuard]
    rw [e1, Result.andThen_ok, run_neq_slice_nil_any w t e ad l c 0 0 hu]

set_option maxHeartbeats 2000000 in
theorem op_sound (F : Fr ρ0 H0 w0 bx β ρ S H a w) {E : BoxEnv} {o : Oper} {act : Act1} (ht : trAct P bx E o = some act) (hd : dstOk bx o = true) (hE : EnvOk bx E β S a (usesEnv bx E o))
    {v : AV} {H' : AHeap} (hout : act.out P S H v H') {K : Act → World → Prop} {Q : Exit → Act → World → Prop} (hK : OpK P ρ0 H0 w0 bx E β S a o v H' K) : o.wp P a w K Q := by
  obtain ⟨dst, op, ty, pos, after, guard⟩ := o
  have rfs := Step.refl ρ H w F.sim
  cases op
  case move x =>
    simp only [trAct, Option.map_eq_some_iff] at ht
    obtain ⟨p, hp, rfl⟩ := ht
    obtain ⟨hv, rfl⟩ := hout
    simp only [pval, Option.some.injEq] at hv
    subst hv
    exact op_value F hK (cv := a.eval x) rfl (by simpa [dstOk] using hd) F.sim rfs (F.opd hp) rfl (by simp)
  case assign x =>
    simp only [trAct, Option.map_eq_some_iff] at ht
    obtain ⟨p, hp, rfl⟩ := ht
    obtain ⟨hv, rfl⟩ := hout
    simp only [pval, Option.some.injEq] at hv
    subst hv
    exact op_value F hK (cv := a.eval x) rfl (by simpa [dstOk] using hd) F.sim rfs (F.opd hp) rfl (by simp)
  case pick c x y =>
    simp only [trAct, Option.bind_eq_bind, Option.bind_eq_some_iff, Option.pure_def, Option.some.injEq] at ht
    obtain ⟨p, hp, q, hq, r, hr, rfl⟩ := ht
    obtain ⟨hv, rfl⟩ := hout
    simp only [pval] at hv
    split at hv
    case h_2 => cases hv
    rename_i b hb
    cases hv
    have hc := F.opd hp
    rw [hb] at hc
    generalize hec : a.eval c = cc at hc
    cases hc
    refine op_value F hK (cv := if b then a.eval x else a.eval y) ?_ (by simpa [dstOk] using hd) F.sim rfs ?_ rfl (by simp)
    · simp [execOp, hec, asBool]
    · cases b
      · exact F.opd hr
      · exact F.opd hq
  case alloc t =>
    simp only [trAct, Option.map_eq_some_iff] at ht
    obtain ⟨z, hz, rfl⟩ := ht
    obtain ⟨i, zv, hi, hzv, hzr⟩ := tzero_some hz
    have hrun : (execOp a.eval ⟨dst, .alloc t, ty, pos, after, guard⟩).run P w = .ok (.value (.pointer (some ⟨w.heap.size, 0, none⟩))) (w.alloc (.cells zv.cells t)) := by
      simp [execOp, Instr.alloc, zeroValue, typeInfo, hi, hzv, newVar, newRow]
    by_cases hdd : isDst bx dst = true
    · rw [if_pos hdd] at hout
      obtain ⟨hv, rfl⟩ := hout
      simp only [pval, rd] at hv
      split at hv
      case h_2 => cases hv
      rename_i l hl
      cases hv
      cases dst with
      | none => simp [isDst] at hdd
      | some d =>
        simp only [isDst] at hdd
        have F' := F.bnew hdd (hzr ρ) hl t
        refine wp_value hrun (hK ρ _ _ _ F' (fun t ht => put_other t ht) (fun d' hd' => ?_) (by simp))
        simp only [isBnew, hdd, if_true, ne_eq, Option.some.injEq] at hd'
        rw [if_neg (Ne.symm hd')]
    · rw [if_neg hdd] at hout
      simp only [Act1.out, hval, rd] at hout
      split at hout
      case h_2 => cases hout
      rename_i c hc
      cases hout
      obtain ⟨ρ', g1, g2, g3⟩ := ok_newv F.sim t (hzr ρ) hc
      exact op_value F hK hrun (by simpa using hdd) g2 g3 g1 rfl (by simp)
  case box t x =>
    simp only [trAct, Option.map_eq_some_iff] at ht
    obtain ⟨p, hp, rfl⟩ := ht
    have hx := F.opd hp
    have hrun : (execOp a.eval ⟨dst, .box t x, ty, pos, after, guard⟩).run P w = .ok (.value (.pointer (some ⟨w.heap.size, 0, none⟩))) (w.alloc (.cells (a.eval x).cells t)) := by
      simp [execOp, Instr.box, newVar, newRow]
    by_cases hdd : isDst bx dst = true
    · rw [if_pos hdd] at hout
      obtain ⟨hv, rfl⟩ := hout
      simp only [pval] at hv
      split at hv
      case h_2 => cases hv
      rename_i l hl
      cases hv
      cases dst with
      | none => simp [isDst] at hdd
      | some d =>
        simp only [isDst] at hdd
        have F' := F.bnew hdd hx hl t
        refine wp_value hrun (hK ρ _ _ _ F' (fun t ht => put_other t ht) (fun d' hd' => ?_) (by simp))
        simp only [isBnew, hdd, if_true, ne_eq, Option.some.injEq] at hd'
        rw [if_neg (Ne.symm hd')]
    · rw [if_neg hdd] at hout
      simp only [Act1.out, hval] at hout
      split at hout
      case h_2 => cases hout
      rename_i c hc
      cases hout
      obtain ⟨ρ', g1, g2, g3⟩ := ok_newv F.sim t hx hc
      exact op_value F hK hrun (by simpa using hdd) g2 g3 g1 rfl (by simp)
  case build t parts =>
    simp only [trAct, Option.bind_eq_bind, Option.bind_eq_some_iff] at ht
    obtain ⟨z, ⟨zv, ⟨i, hi, hzv⟩, hzt⟩, zc, hzc, ht⟩ := ht
    obtain ⟨hzl, hzo⟩ := (trV_ok (ρ := ρ) hzt).cells hzc
    have hzero : (zeroValue t).run P w = .ok zv w := by simp [zeroValue, typeInfo, hi, hzv]
    have fin : ∀ (place : Nat → Option (Nat × Nat)) (ps : List (Nat × Nat × Opd)), trParts bx place parts.toList = some ps → act = .pu (.build zc ps) →
        (∀ cells, Instr.fill place zv.cells (parts.toList.map fun p => (p.1, a.eval p.2)) = some cells → (Instr.build t (parts.map fun (i, x) => (i, a.eval x))).run P w = .ok (.agg cells) w) →
        (Oper.mk dst (.build t parts) ty pos after guard).wp P a w K Q := by
      intro place ps hps hact hb
      subst hact
      obtain ⟨hv, rfl⟩ := hout
      simp only [pval, Option.map_eq_some_iff] at hv
      obtain ⟨l, hl, rfl⟩ := hv
      obtain ⟨k1, k2⟩ := parts_ok F hps
      obtain ⟨cells, c1, c2, c3⟩ := fill_ok place _ _ zc l zv.cells k1 k2 hzl hzo hl
      exact op_value F hK (cv := .agg cells) (run_v (hb cells c1)) (by simpa [dstOk] using hd) F.sim rfs (VR.agg_iff.2 ⟨c2, c3⟩) rfl (by simp)
    split at ht
    · rename_i fs hu
      simp only [Option.bind_eq_some_iff] at ht
      obtain ⟨ps, hps, ht⟩ := ht
      split at ht
      case isFalse => cases ht
      rename_i hall
      cases ht
      refine fin _ ps hps rfl (fun cells hc => ?_)
      have hplaces : ∀ (l : List Field), (l.all fun f => (tsize P f.type).isSome) = true →
          (l.mapM fun f => (do pure (f.offset, ← sizeOf f.type) : Sem (Nat × Nat))).run P w = .ok (l.map fun f => (f.offset, (tsize P f.type).getD 0)) w := by
        intro l
        induction l with
        | nil => intro _; simp
        | cons f l ih =>
          intro h
          simp only [List.all_cons, Bool.and_eq_true] at h
          obtain ⟨s, hs⟩ := Option.isSome_iff_exists.1 h.1
          rw [List.mapM_cons, Sem.run_bind]
          simp only [Sem.run_bind, run_sizeOf hs, Result.andThen_ok, Sem.run_pure, ih h.2, List.map_cons, hs, Option.getD_some]
      have hp2 : (fs.mapM fun f => (do pure (f.offset, ← sizeOf f.type) : Sem (Nat × Nat))).run P w = .ok (fs.map fun f => (f.offset, (tsize P f.type).getD 0)) w := by
        rw [Array.mapM_eq_mapM_toList, Sem.run_map, hplaces fs.toList hall]
        simp only [Result.andThen_ok]
        congr 1
        exact Array.toList_inj.1 (by simp)
      have hfill : Instr.fill ((fs.map fun f => (f.offset, (tsize P f.type).getD 0))[·]?) zv.cells (parts.toList.map fun p => (p.1, a.eval p.2)) = some cells := by
        rw [← hc]
        congr 1
        funext i
        simp only [Array.getElem?_map]
        cases hfi : fs[i]? with
        | none => rfl
        | some f =>
          have hm : f ∈ fs.toList := by
            have := Array.mem_of_getElem? hfi
            simpa using this
          have := (List.all_eq_true.1 hall) f hm
          obtain ⟨s, hs⟩ := Option.isSome_iff_exists.1 this
          simp [hs]
      simp only [Instr.build, Sem.run_bind, hzero, Result.andThen_ok, run_underlying hu, hp2, Array.toList_map]
      rw [hfill]
      rfl
    · rename_i n e hu
      simp only [Option.bind_eq_some_iff, Option.pure_def, Option.some.injEq] at ht
      obtain ⟨s, hs, ps, hps, rfl⟩ := ht
      refine fin _ ps hps rfl (fun cells hc => ?_)
      simp only [Instr.build, Sem.run_bind, hzero, Result.andThen_ok, run_underlying hu, run_sizeOf hs, Array.toList_map]
      rw [hc]
      rfl
    · cases ht
  case buildSlice t n parts =>
    simp only [trAct, Option.bind_eq_bind, Option.bind_eq_some_iff] at ht
    obtain ⟨e, he, z, hz, ht⟩ := ht
    split at ht
    · cases ht
    rename_i hn
    simp only [Option.bind_eq_some_iff, Option.pure_def, Option.some.injEq] at ht
    obtain ⟨ps, hps, rfl⟩ := ht
    simp only [Act1.out, hval] at hout
    split at hout
    case h_2 => cases hout
    rename_i l hl
    cases hout
    obtain ⟨k1, k2⟩ := parts_ok F hps
    obtain ⟨cv, w', ρ', g1, g2, g3, g4⟩ := ok_blds (P := P) F.sim (t := t) (n := n) (ps := parts.map fun (i, x) => (i, a.eval x)) he hz (by omega) (by simpa using k1) (fun i p q hp hq => k2 i p q (by simpa using hp) hq) hl
    exact op_value F hK (run_v g1) (by simpa [dstOk] using hd) g3 g4 g2 rfl (by simp)
  case load t x =>
    simp only [trAct, Option.bind_eq_bind, Option.bind_eq_some_iff] at ht
    obtain ⟨s, hs, ag, hag, ht⟩ := ht
    split at ht
    · rename_i chk b off ha
      cases ht
      obtain ⟨hv, rfl⟩ := hout
      simp only [pval] at hv
      split at hv
      case isFalse => cases hv
      rename_i hc
      have hl : ∃ l, (rd S (.s b)).cells? = some l := by
        cases hx : rd S (.s b) <;> simp [hx, bgot, AV.cells?] at hv ⊢
      obtain ⟨l, hl⟩ := hl
      obtain ⟨blk, cs, T, h1, h2, h3, h4, h5, h6, h7⟩ := F.addr hE ha (fun t' e ht1 ht2 ht3 => by subst ht1; simp [usesEnv, ht3]; simpa using ht2) hc hl
      obtain ⟨cv, g1, g2⟩ := box_load (P := P) h5 hl h6 h7 hs hag hv
      exact op_value F hK (cv := cv) (by simp only [execOp, h3]; exact run_v g1) (by simpa [dstOk] using hd) F.sim rfs g2 rfl (by simp)
    · simp only [Option.bind_eq_some_iff, Option.pure_def, Option.some.injEq] at ht
      obtain ⟨p, hp, rfl⟩ := ht
      obtain ⟨hv, rfl⟩ := hout
      simp only [lval, ldA] at hv
      split at hv
      case h_2 => cases hv
      rename_i n off hpn
      split at hv
      case h_2 => cases hv
      rename_i rw l hl
      have hx := F.opd hp
      rw [hpn] at hx
      obtain ⟨cv, g1, g2⟩ := ok_ld (P := P) F.sim hs hag hx hl hv
      exact op_value F hK (run_v g1) (by simpa [dstOk] using hd) F.sim rfs g2 rfl (by simp)
  case store t x y =>
    simp only [trAct, Option.bind_eq_bind, Option.bind_eq_some_iff] at ht
    obtain ⟨s, hs, p, hp, ht⟩ := ht
    have hy := F.opd hp
    have hdn : dst = none := by simpa [dstOk] using hd
    subst hdn
    split at ht
    · rename_i chk b off ha
      cases ht
      obtain ⟨hv, rfl⟩ := hout
      simp only [pval] at hv
      split at hv
      case isFalse => cases hv
      rename_i hc
      have hl : ∃ l, (rd S (.s b)).cells? = some l := by
        unfold bput at hv
        split at hv
        · cases hv
        split at hv
        · cases hv
        cases hx : rd S (.s b) <;> simp [hx, AV.cells?] at hv ⊢
      obtain ⟨l, hl⟩ := hl
      obtain ⟨blk, cs, T, h1, h2, h3, h4, h5, h6, h7⟩ := F.addr hE ha (fun t' e ht1 ht2 ht3 => by subst ht1; simp [usesEnv, ht3]; simpa using ht2) hc hl
      obtain ⟨cs', l', g1, g2, g3, g4⟩ := box_store (P := P) h5 hl h6 h7 hs hy hv
      have F' := F.bset h1 h2 h5 g2 g3 g4 (fun _ => h4)
      refine wp_skipped (w' := w.setRow blk cs') ?_ (hK ρ β _ _ ?_ (fun t ht => rfl) (fun _ _ => rfl) (by simp))
      · simp only [execOp, h3]; exact run_u g1
      · simp only [trW, ha, putS]; exact F'
    · rename_i ha
      simp only [Option.bind_eq_some_iff, Option.pure_def, Option.some.injEq] at ht
      obtain ⟨q, hq, rfl⟩ := ht
      simp only [Act1.out, hval] at hout
      split at hout
      case h_2 => cases hout
      rename_i n off c hpn hc
      split at hout
      case h_2 => cases hout
      rename_i l hl
      split at hout
      case isFalse => cases hout
      rename_i hle
      cases hout
      have hx := F.opd hq
      rw [hpn] at hx
      obtain ⟨w', g1, g2, g3⟩ := ok_st (P := P) F.sim hs hx hy hc hl hle
      exact op_skipped F hK (run_u g1) rfl g2 g3 (by simp [trW, ha]) (by simp)
  case fieldAddr s x f =>
    simp only [trAct, Option.bind_eq_bind, Option.bind_eq_some_iff] at ht
    obtain ⟨fd, hfd, sz, hsz, ht⟩ := ht
    split at ht
    · cases ht
    rename_i h0
    split at ht
    · rename_i chk b off ha
      cases ht
      obtain ⟨hv, rfl⟩ := hout
      simp only [pval] at hv
      split at hv
      case isFalse => cases hv
      rename_i hc
      split at hv
      case h_2 => cases hv
      rename_i l hl
      cases hv
      obtain ⟨blk, cs, T, h1, h2, h3, h4, h5, h6, h7⟩ := F.addr hE ha (fun t' e ht1 ht2 ht3 => by subst ht1; simp [usesEnv, ht3]; simpa using ht2) hc hl
      have hrun : (execOp a.eval ⟨dst, .fieldAddr s x f, ty, pos, after, guard⟩).run P w = .ok (.value (.pointer (some ⟨blk, off + fd.offset, none⟩))) w := by
        simp only [execOp, h3]; exact run_v (ok_fad hfd hsz h0 blk off)
      refine wp_value hrun (hK ρ β _ _ (F.put (dst := dst) (by simpa [dstOk] using hd) (.adr _)) (fun t ht => put_other t ht) (fun _ _ => rfl) ?_)
      intro s' x' f' q fd' he hq hf'
      cases he
      rw [ha] at hq; cases hq
      rw [hfd] at hf'; cases hf'
      refine ⟨blk, h2, fun d hdd hlt => ?_⟩
      cases hdd
      rw [getD_put, if_pos ⟨rfl, by rw [← F.len]; exact hlt⟩]
    · rename_i ha
      simp only [Option.bind_eq_some_iff, Option.pure_def, Option.some.injEq] at ht
      obtain ⟨q, hq, rfl⟩ := ht
      obtain ⟨hv, rfl⟩ := hout
      simp only [pval] at hv
      split at hv
      case h_2 => cases hv
      rename_i n o hpn
      cases hv
      have hx := F.opd hq
      rw [hpn] at hx
      generalize hex : a.eval x = cx at hx
      cases hx with
      | ptr _ _ L hn =>
        have hrun : (execOp a.eval ⟨dst, .fieldAddr s x f, ty, pos, after, guard⟩).run P w = .ok (.value (.pointer (some ⟨L.b, L.o + (o + fd.offset), none⟩))) w := by
          simp only [execOp, hex]; rw [← Nat.add_assoc]; exact run_v (ok_fad hfd hsz h0 L.b (L.o + o))
        refine wp_value hrun (hK ρ β _ _ (F.put (dst := dst) (by simpa [dstOk] using hd) (.ptr _ _ L hn)) (fun t ht => put_other t ht) (fun _ _ => rfl) ?_)
        intro s' x' f' q' fd' he hq' hf'
        cases he
        rw [ha] at hq'; cases hq'
  case field t x f =>
    simp only [trAct, Option.bind_eq_bind, Option.bind_eq_some_iff, Option.pure_def, Option.some.injEq] at ht
    obtain ⟨fd, hfd, sz, hsz, ag, hag, p, hp, rfl⟩ := ht
    obtain ⟨hv, rfl⟩ := hout
    simp only [pval] at hv
    split at hv
    case h_2 => cases hv
    rename_i l hl
    have hx := F.opd hp
    rw [hl] at hx
    obtain ⟨cv, g1, g2⟩ := ok_field (P := P) (w := w) hfd hsz hag hx hv
    exact op_value F hK (run_v g1) (by simpa [dstOk] using hd) F.sim rfs g2 rfl (by simp)
  case indexAddr t x i =>
    simp only [trAct, Option.bind_eq_bind, Option.bind_eq_some_iff, Option.pure_def, Option.some.injEq] at ht
    obtain ⟨e, he, s, hs, p, hp, q, hq, rfl⟩ := ht
    obtain ⟨hv, rfl⟩ := hout
    simp only [pval, idxA] at hv
    split at hv
    case h_2 => cases hv
    rename_i es n off len full k j hx0 hi0
    split at hv
    case isFalse => cases hv
    rename_i hj
    cases hv
    have hx := F.opd hp
    have hi := F.opd hq
    rw [hx0] at hx
    rw [hi0] at hi
    obtain ⟨cv, g1, g2⟩ := ok_idx (P := P) (w := w) he hs hx hi hj
    exact op_value F hK (run_v g1) (by simpa [dstOk] using hd) F.sim rfs g2 rfl (by simp)
  case index t x i =>
    simp only [trAct] at ht
    split at ht
    case h_2 => cases ht
    rename_i n e hu
    simp only [Option.bind_eq_bind, Option.bind_eq_some_iff, Option.pure_def, Option.some.injEq] at ht
    obtain ⟨s, hs, ag, hag, p, hp, q, hq, rfl⟩ := ht
    obtain ⟨hv, rfl⟩ := hout
    simp only [pval] at hv
    split at hv
    case h_2 => cases hv
    rename_i l k j hx0 hi0
    split at hv
    case isFalse => cases hv
    rename_i hj
    have hx := F.opd hp
    have hi := F.opd hq
    rw [hx0] at hx
    rw [hi0] at hi
    obtain ⟨cv, g1, g2⟩ := ok_aidx (P := P) (w := w) hu hs hag hx hi hj hv
    exact op_value F hK (run_v g1) (by simpa [dstOk] using hd) F.sim rfs g2 rfl (by simp)
  case extract x i =>
    simp only [trAct, Option.map_eq_some_iff] at ht
    obtain ⟨p, hp, rfl⟩ := ht
    obtain ⟨hv, rfl⟩ := hout
    simp only [pval] at hv
    split at hv
    case h_2 => cases hv
    rename_i l hl
    have hx := F.opd hp
    rw [hl] at hx
    have hx' := hx
    generalize hex : a.eval x = cx at hx hx'
    cases hx with
    | tuple _ vs _ _ =>
      obtain ⟨cv, g1, g2⟩ := (VR.tuple_iff.1 hx').get hv
      have g1' : vs[i]? = some cv := by simpa using g1
      exact op_value F hK (cv := cv) (by simp [execOp, hex, Instr.extract, g1']) (by simpa [dstOk] using hd) F.sim rfs g2 rfl (by simp)
  case binOp op t x y yt =>
    simp only [trAct, trBin] at ht
    have fin : ∀ {cv : Value} {V : AV}, ((do eqGuard op t x y (a.eval x) (a.eval y); binOp op t (a.eval x) (a.eval y) : Sem Value)).run P w = .ok cv w → VR ρ v cv → H' = H →
        (Oper.mk dst (.binOp op t x y yt) ty pos after guard).wp P a w K Q := by
      intro cv V hr hv hH
      subst hH
      exact op_value F hK (run_v hr) (by simpa [dstOk] using hd) F.sim rfs hv rfl (by simp)
    split at ht
    · obtain ⟨p, q, hp, hq, rfl⟩ := trTwo_some ht
      obtain ⟨hv, hH⟩ := hout
      simp only [pval] at hv
      obtain ⟨cv, g1, g2⟩ := ok_bin (P := P) (w := w) (t := t) x y (F.opd hp) (F.opd hq) hv
      exact fin (V := v) g1 g2 hH
    · rename_i hu
      unfold trBool at ht
      split at ht
      · obtain ⟨p, q, hp, hq, rfl⟩ := trTwo_some ht
        obtain ⟨hv, hH⟩ := hout
        simp only [pval] at hv
        split at hv
        case h_2 => cases hv
        rename_i b1 b2 e1 e2
        cases hv
        have h1 := F.opd hp
        have h2 := F.opd hq
        rw [e1] at h1
        rw [e2] at h2
        obtain ⟨cv, g1, g2⟩ := ok_eqb (P := P) (w := w) false x y hu h1 h2
        exact fin (V := .junk) g1 g2 hH
      · obtain ⟨p, q, hp, hq, rfl⟩ := trTwo_some ht
        obtain ⟨hv, hH⟩ := hout
        simp only [pval] at hv
        split at hv
        case h_2 => cases hv
        rename_i b1 b2 e1 e2
        cases hv
        have h1 := F.opd hp
        have h2 := F.opd hq
        rw [e1] at h1
        rw [e2] at h2
        obtain ⟨cv, g1, g2⟩ := ok_eqb (P := P) (w := w) true x y hu h1 h2
        exact fin (V := .junk) g1 g2 hH
      · cases ht
    · rename_i fs hu
      simp only [Option.bind_eq_some_iff] at ht
      obtain ⟨ks, hks, ht⟩ := ht
      unfold trStruct at ht
      split at ht
      · obtain ⟨p, q, hp, hq, rfl⟩ := trTwo_some ht
        obtain ⟨hv, hH⟩ := hout
        simp only [pval] at hv
        split at hv
        case h_2 => cases hv
        rename_i b1 b2 e1 e2
        simp only [Option.map_eq_some_iff] at hv
        obtain ⟨r, hr, rfl⟩ := hv
        have h1 := F.opd hp
        have h2 := F.opd hq
        rw [e1] at h1
        rw [e2] at h2
        obtain ⟨cv, g1, g2⟩ := ok_eqs (P := P) (w := w) false x y hks h1 h2 hr
        exact fin (V := .junk) g1 g2 hH
      · obtain ⟨p, q, hp, hq, rfl⟩ := trTwo_some ht
        obtain ⟨hv, hH⟩ := hout
        simp only [pval] at hv
        split at hv
        case h_2 => cases hv
        rename_i b1 b2 e1 e2
        simp only [Option.map_eq_some_iff] at hv
        obtain ⟨r, hr, rfl⟩ := hv
        have h1 := F.opd hp
        have h2 := F.opd hq
        rw [e1] at h1
        rw [e2] at h2
        obtain ⟨cv, g1, g2⟩ := ok_eqs (P := P) (w := w) true x y hks h1 h2 hr
        exact fin (V := .junk) g1 g2 hH
      · cases ht
    · rename_i e hu
      split at ht
      case isFalse => cases ht
      rename_i hnc
      have hy : y = .const (.slice none 0 0) := by
        unfold isNilConst at hnc
        split at hnc
        · rfl
        · cases hnc
      have nil : ∀ (neg : Bool) (p : Opd), trOpd bx x = some p → act = .pu (.isnil neg p) → op = (if neg then .neq else .eql) → (Oper.mk dst (.binOp op t x y yt) ty pos after guard).wp P a w K Q := by
        intro neg p hp hact hop
        subst hact; subst hop; subst hy
        obtain ⟨hv, hH⟩ := hout
        simp only [pval] at hv
        have h1 := F.opd hp
        have run : ∀ (ad : Option Addr) (l c : Nat), a.eval x = .slice ad l c →
            ((do eqGuard (if neg then .neq else .eql) t x (.const (.slice none 0 0)) (a.eval x) (a.eval (.const (.slice none 0 0))); binOp (if neg then .neq else .eql) t (a.eval x) (a.eval (.const (.slice none 0 0))) : Sem Value)).run P w
              = .ok (.bool (if neg then !ad.isNone else ad.isNone)) w := by
          intro ad l c hec
          rw [hec]
          exact run_isnil neg x _ ad l c hu
        generalize hec : a.eval x = cx at h1
        split at hv
        · rename_i hx0
          cases hv
          rw [hx0] at h1
          cases h1
          refine fin (V := .junk) (run none 0 0 hec) ?_ hH
          cases neg <;> exact .bool _
        · rename_i hx0
          cases hv
          rw [hx0] at h1
          cases h1
          refine fin (V := .junk) (run _ _ _ hec) ?_ hH
          cases neg <;> exact .bool _
        · cases hv
      unfold trNil at ht
      split at ht
      · simp only [Option.map_eq_some_iff] at ht
        obtain ⟨p, hp, rfl⟩ := ht
        exact nil false p hp rfl rfl
      · simp only [Option.map_eq_some_iff] at ht
        obtain ⟨p, hp, rfl⟩ := ht
        exact nil true p hp rfl rfl
      · cases ht
    · cases ht
  case unOp op t x =>
    cases op
    case neg =>
      simp only [trAct, Option.map_eq_some_iff] at ht
      obtain ⟨p, hp, rfl⟩ := ht
      obtain ⟨hv, rfl⟩ := hout
      simp only [pval] at hv
      split at hv
      case h_2 => cases hv
      rename_i k n hn
      cases hv
      have hx := F.opd hp
      rw [hn] at hx
      generalize hec : a.eval x = cx at hx
      cases hx
      exact op_value F hK (cv := .int k (k.wrap (0 - n))) (by simp [execOp, hec, Op.unary, Op.intArith]) (by simpa [dstOk] using hd) F.sim rfs (.int _ _) rfl (by simp)
    case not =>
      simp only [trAct, Option.map_eq_some_iff] at ht
      obtain ⟨p, hp, rfl⟩ := ht
      obtain ⟨hv, rfl⟩ := hout
      simp only [pval] at hv
      split at hv
      case h_2 => cases hv
      rename_i b hn
      cases hv
      have hx := F.opd hp
      rw [hn] at hx
      generalize hec : a.eval x = cx at hx
      cases hx
      exact op_value F hK (cv := .bool (!b)) (by simp [execOp, hec, Op.unary]) (by simpa [dstOk] using hd) F.sim rfs (.bool _) rfl (by simp)
    all_goals simp [trAct] at ht
  case convert src dst' x =>
    simp only [trAct] at ht
    split at ht
    case h_2 => cases ht
    rename_i k0 k h1 h2
    simp only [Option.map_eq_some_iff] at ht
    obtain ⟨p, hp, rfl⟩ := ht
    obtain ⟨hv, rfl⟩ := hout
    simp only [pval] at hv
    split at hv
    case h_2 => cases hv
    rename_i k' n hn
    cases hv
    have hx := F.opd hp
    rw [hn] at hx
    generalize hec : a.eval x = cx at hx
    cases hx
    refine op_value F hK (cv := .int k (k.wrap n)) ?_ (by simpa [dstOk] using hd) F.sim rfs (.int _ _) rfl (by simp)
    simp [execOp, hec, convert, run_underlying h1, run_underlying h2, Conv.intToInt]
  case makeFunc fn first caps =>
    cases fn
    case func f =>
      simp only [trAct] at ht
      split at ht
      case isFalse => cases ht
      rename_i hfe
      simp only [Option.map_eq_some_iff] at ht
      obtain ⟨cs, hcs, rfl⟩ := ht
      obtain ⟨hv, rfl⟩ := hout
      simp only [pval, Option.some.injEq] at hv
      subst hv
      have hf : first = #[] := by simpa using hfe
      subst hf
      refine op_value F hK (cv := .func (.func f) #[] (caps.map a.eval)) (by simp [execOp, Instr.makeFunc]) (by simpa [dstOk] using hd) F.sim rfs (VR.fn_iff.2 ?_) rfl (by simp)
      simpa using F.opds hcs
    all_goals simp [trAct] at ht
  case slice t x lo hi mx =>
    simp only [trAct, Option.bind_eq_bind, Option.bind_eq_some_iff, Option.pure_def, Option.some.injEq] at ht
    obtain ⟨e, he, z, hz, p, hp, lo', hlo, hi', hhi, mx', hmx, rfl⟩ := ht
    obtain ⟨hv, rfl⟩ := hout
    simp only [pval] at hv
    obtain ⟨cv, g1, g2⟩ := ok_slc (P := P) (w := w) he hz (F.opd hp) (opt_ok F hlo) (opt_ok F hhi) (opt_ok F hmx) hv
    exact op_value F hK (run_v g1) (by simpa [dstOk] using hd) F.sim rfs g2 rfl (by simp)
  case makeSlice t l c =>
    simp only [trAct, Option.bind_eq_bind, Option.bind_eq_some_iff, Option.pure_def, Option.some.injEq] at ht
    obtain ⟨e, he, z, hz, p, hp, q, hq, rfl⟩ := ht
    simp only [Act1.out, hval] at hout
    split at hout
    case h_2 => cases hout
    rename_i k1 lv k2 cv hl hc
    split at hout
    case isFalse => cases hout
    rename_i hb
    cases hout
    have h1 := F.opd hp
    have h2 := F.opd hq
    rw [hl] at h1
    rw [hc] at h2
    generalize hel : a.eval l = cl at h1
    generalize hecc : a.eval c = cc at h2
    cases h1; cases h2
    obtain ⟨v, w', ρ', g1, g2, g3, g4⟩ := ok_mks (P := P) F.sim (k1 := k1) (k2 := k2) he hz hb
    exact op_value F hK (by simp only [execOp, hel, hecc]; exact run_v g1) (by simpa [dstOk] using hd) g3 g4 g2 rfl (by simp)
  case makeMap t r =>
    cases r
    case some r => simp [trAct] at ht
    simp only [trAct, Option.some.injEq] at ht
    subst ht
    simp only [Act1.out, hval, Option.some.injEq, Prod.mk.injEq] at hout
    obtain ⟨rfl, rfl⟩ := hout
    obtain ⟨v, w', ρ', g1, g2, g3, g4⟩ := ok_mkm (P := P) F.sim t
    exact op_value F hK (run_v g1) (by simpa [dstOk] using hd) g3 g4 g2 rfl (by simp)
  case lookup t x k ok =>
    simp only [trAct] at ht
    split at ht
    case h_2 => cases ht
    rename_i kt e hu
    split at ht
    case h_2 => cases ht
    rename_i hk
    simp only [Option.bind_eq_bind, Option.bind_eq_some_iff, Option.pure_def, Option.some.injEq] at ht
    obtain ⟨z, hz, p, hp, q, hq, rfl⟩ := ht
    obtain ⟨hv, rfl⟩ := hout
    obtain ⟨cv, g1, g2⟩ := ok_look (P := P) F.sim hu hk hz (F.opd hp) (F.opd hq) S p q rfl rfl hv
    exact op_value F hK (run_v g1) (by simpa [dstOk] using hd) F.sim rfs g2 rfl (by simp)
  case mapUpdate t m k x =>
    simp only [trAct] at ht
    split at ht
    case h_2 => cases ht
    rename_i kt e hu
    split at ht
    case h_2 => cases ht
    rename_i hk
    simp only [Option.bind_eq_bind, Option.bind_eq_some_iff, Option.pure_def, Option.some.injEq] at ht
    obtain ⟨p, hp, q, hq, r, hr, rfl⟩ := ht
    simp only [Act1.out, hval] at hout
    split at hout
    case h_2 => cases hout
    rename_i n kk hm hkk
    split at hout
    case h_2 => cases hout
    rename_i l hl
    split at hout
    case h_2 => cases hout
    rename_i l' hl'
    cases hout
    have h1 := F.opd hp
    have h2 := F.opd hq
    rw [hm] at h1
    rw [hkk] at h2
    obtain ⟨w', g1, g2, g3⟩ := ok_mset (P := P) F.sim hu hk h1 h2 (F.opd hr) hl hl'
    exact op_skipped F hK (run_u g1) (by simpa [dstOk] using hd) g2 g3 rfl (by simp)
  case call c =>
    obtain ⟨callee, args, argTypes⟩ := c
    have viaFn : ∀ (x : Operand) (X : Opd) (xs : List Opd) (f : FuncId) (cap : List AV), trOpd bx x = some X → args.toList.mapM (trOpd bx) = some xs → rd S X = .fn f cap → ACalls P f (xs.map (rd S) ++ cap) H v H' → callee = .value x →
        (Oper.mk dst (.call { callee := callee, args := args, argTypes := argTypes }) ty pos after guard).wp P a w K Q := by
      intro x X xs f cap hX hxs hfn hc hcal
      subst hcal
      have hx := F.opd hX
      rw [hfn] at hx
      have hx' := hx
      generalize hec : a.eval x = cx at hx hx'
      cases hx with
      | fn _ _ vs _ _ =>
        refine op_enter F hK (cargs := args.map a.eval ++ vs) hc ?_ (fun hf => ?_) (by simpa [dstOk] using hd) rfl (by simp)
        · simpa using (F.opds hxs).append (VR.fn_iff.1 hx')
        · have hcf := run_callFunc (P := P) (w := w) (f := f) (args := args.map a.eval ++ vs) hf
          simp [execOp, resolve, hec, Deferred.ofValue, invoke, hcf]
    cases callee
    case value x =>
      cases x
      case func f =>
        simp only [trAct, Option.map_eq_some_iff] at ht
        obtain ⟨xs, hxs, rfl⟩ := ht
        refine viaFn (.func f) (.c (.fn f [])) xs f [] rfl hxs rfl ?_ rfl
        rw [List.append_nil]; exact hout
      all_goals
        simp only [trAct, Option.bind_eq_bind, Option.bind_eq_some_iff, Option.pure_def, Option.some.injEq] at ht
        obtain ⟨X, hX, xs, hxs, rfl⟩ := ht
        obtain ⟨f, cap, hfn, hc⟩ := hout
        exact viaFn _ X xs f cap hX hxs hfn hc rfl
    case invoke r m => simp [trAct] at ht
    case builtin b =>
      simp only [trAct] at ht
      have run : ∀ {s : Sem Value} {cv : Value} {w' : World}, s.run P w = .ok cv w' → (∀ cs, builtin b argTypes ty cs (args.map a.eval) = (do pure (.value (← s)) : Sem Next)) → (execOp a.eval ⟨dst, .call { callee := .builtin b, args := args, argTypes := argTypes }, ty, pos, after, guard⟩).run P w = .ok (.value cv) w' := by
        intro s cv w' hs hb
        simp only [execOp, resolve, Sem.run_bind, Sem.run_pure, Result.andThen_ok, invoke, hb]
        simp [hs]
      unfold trBuiltin at ht
      split at ht
      · rename_i x t' hargs hts
        have ha : args = #[x] := by rw [← Array.toList_inj]; simpa using hargs
        have hty : argTypes = #[t'] := by rw [← Array.toList_inj]; simpa using hts
        subst ha; subst hty
        split at ht
        · rename_i e hu
          simp only [Option.map_eq_some_iff] at ht
          obtain ⟨p, hp, rfl⟩ := ht
          obtain ⟨hv, rfl⟩ := hout
          simp only [pval, lenA] at hv
          have hx := F.opd hp
          generalize hec : a.eval x = cx at hx
          split at hv
          · rename_i hx0
            cases hv
            rw [hx0] at hx
            cases hx
            exact op_value F hK (run (s := Builtin.len_ #[t'] ty #[a.eval x]) (cv := .int .i64 0) (by simp [hec, Builtin.len_, run_underlying hu, goInt]) (fun cs => by simp [builtin])) (by simpa [dstOk] using hd) F.sim rfs (.int _ _) rfl (by simp)
          · rename_i hx0
            cases hv
            rw [hx0] at hx
            cases hx
            exact op_value F hK (run (s := Builtin.len_ #[t'] ty #[a.eval x]) (by simp [hec, Builtin.len_, run_underlying hu, goInt]) (fun cs => by simp [builtin])) (by simpa [dstOk] using hd) F.sim rfs (.int _ _) rfl (by simp)
          · cases hv
        · rename_i kt e hu
          simp only [Option.map_eq_some_iff] at ht
          obtain ⟨p, hp, rfl⟩ := ht
          obtain ⟨hv, rfl⟩ := hout
          simp only [lval] at hv
          have hx := F.opd hp
          generalize hec : a.eval x = cx at hx
          split at hv
          · rename_i hx0
            cases hv
            rw [hx0] at hx
            cases hx
            exact op_value F hK (run (s := Builtin.len_ #[t'] ty #[a.eval x]) (cv := .int .i64 0) (by simp [hec, Builtin.len_, run_underlying hu, goInt]) (fun cs => by simp [builtin])) (by simpa [dstOk] using hd) F.sim rfs (.int _ _) rfl (by simp)
          · rename_i n hx0
            split at hv
            case h_2 => cases hv
            rename_i l hl
            cases hv
            rw [hx0] at hx
            cases hx with
            | mp _ L hn ho =>
              obtain ⟨es, clock, hb, _, h1, _⟩ := F.sim.mapOf hn hl
              have hlen : l.length = es.size := by simpa using h1.1
              have hget : (getObj L.b).run P w = .ok (.map es clock) w := by simp [getObj, Sem.run, hb]
              exact op_value F hK (run (s := Builtin.len_ #[t'] ty #[a.eval x]) (by simp [hec, Builtin.len_, run_underlying hu, hget, goInt]; rfl) (fun cs => by simp [builtin])) (by simpa [dstOk] using hd) F.sim rfs (by rw [hlen]; exact .int _ _) rfl (by simp)
          · cases hv
        · cases ht
      · rename_i x y t' u hargs hts
        have ha : args = #[x, y] := by rw [← Array.toList_inj]; simpa using hargs
        have hty : argTypes = #[t', u] := by rw [← Array.toList_inj]; simpa using hts
        subst ha; subst hty
        split at ht
        case isFalse => cases ht
        rename_i htu
        subst htu
        split at ht
        case h_2 => cases ht
        rename_i e he
        split at ht
        case h_2 => cases ht
        rename_i z hz
        simp only [Option.bind_eq_bind, Option.bind_eq_some_iff, Option.pure_def, Option.some.injEq] at ht
        obtain ⟨p, hp, q, hq, rfl⟩ := ht
        simp only [Act1.out, hval] at hout
        obtain ⟨cv, w', ρ', g1, g2, g3, g4⟩ := ok_app (P := P) F.sim (ty := ty) he hz (F.opd hp) (F.opd hq) hout
        exact op_value F hK (run g1 (fun cs => by simp [builtin])) (by simpa [dstOk] using hd) g3 g4 g2 rfl (by simp)
      · rename_i x y t' u hargs hts
        have ha : args = #[x, y] := by rw [← Array.toList_inj]; simpa using hargs
        have hty : argTypes = #[t', u] := by rw [← Array.toList_inj]; simpa using hts
        subst ha; subst hty
        split at ht
        case isFalse => cases ht
        rename_i htu
        subst htu
        split at ht
        case h_2 => cases ht
        rename_i e he
        split at ht
        case h_2 => cases ht
        rename_i z hz
        simp only [Option.bind_eq_bind, Option.bind_eq_some_iff, Option.pure_def, Option.some.injEq] at ht
        obtain ⟨p, hp, q, hq, rfl⟩ := ht
        obtain ⟨cv, w', g1, g2, g3, g4⟩ := ok_cpy (P := P) F.sim (ty := ty) he hz (F.opd hp) (F.opd hq) S p q rfl rfl hout
        exact op_value F hK (run g1 (fun cs => by simp [builtin])) (by simpa [dstOk] using hd) g3 g4 g2 rfl (by simp)
      · rename_i x t' hargs hts
        have ha : args = #[x] := by rw [← Array.toList_inj]; simpa using hargs
        have hty : argTypes = #[t'] := by rw [← Array.toList_inj]; simpa using hts
        subst ha; subst hty
        split at ht
        case h_2 => cases ht
        rename_i e he
        split at ht
        case h_2 => cases ht
        rename_i z hz
        simp only [Option.map_eq_some_iff] at ht
        obtain ⟨p, hp, rfl⟩ := ht
        obtain ⟨cv, w', g1, g2, g3, g4⟩ := ok_clr (P := P) F.sim (ty := ty) he hz (F.opd hp) S p rfl hout
        exact op_value F hK (run g1 (fun cs => by simp [builtin])) (by simpa [dstOk] using hd) g3 g4 g2 rfl (by simp)
      · rename_i x xs _ hargs
        simp only [Option.bind_eq_bind, Option.bind_eq_some_iff, Option.pure_def, Option.some.injEq] at ht
        obtain ⟨p, hp, ps, hps, rfl⟩ := ht
        obtain ⟨hv, rfl⟩ := hout
        simp only [pval] at hv
        obtain ⟨cv, g1, g2⟩ := mm_ok (P := P) (w := w) true _ _ _ _ _ (F.opds hps) (F.opd hp) hv
        refine op_value F hK (run (s := Builtin.max_ argTypes ty (args.map a.eval)) (cv := cv) ?_ (fun cs => by simp [builtin])) (by simpa [dstOk] using hd) F.sim rfs g2 rfl (by simp)
        simpa [Builtin.max_, hargs] using g1
      · rename_i x xs _ hargs
        simp only [Option.bind_eq_bind, Option.bind_eq_some_iff, Option.pure_def, Option.some.injEq] at ht
        obtain ⟨p, hp, ps, hps, rfl⟩ := ht
        obtain ⟨hv, rfl⟩ := hout
        simp only [pval] at hv
        obtain ⟨cv, g1, g2⟩ := mm_ok (P := P) (w := w) false _ _ _ _ _ (F.opds hps) (F.opd hp) hv
        refine op_value F hK (run (s := Builtin.min_ argTypes ty (args.map a.eval)) (cv := cv) ?_ (fun cs => by simp [builtin])) (by simpa [dstOk] using hd) F.sim rfs g2 rfl (by simp)
        simpa [Builtin.min_, hargs] using g1
      · cases ht
  all_goals simp [trAct] at ht

end
end Go.Eng
