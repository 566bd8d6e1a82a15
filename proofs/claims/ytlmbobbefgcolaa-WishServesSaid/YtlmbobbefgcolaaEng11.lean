/- The abstract machine, part 11: an abstract operation shows what the model's does. No conditions. -/
import Derived.Test.YtlmbobbefgcolaaEng10
namespace Go.Eng
open Go

section
variable {P : Program} {ρ0 : Ren} {H0 : AHeap} {w0 : World} {bx : List Nat} {β : Nat → Option Nat} {ρ : Ren} {S : List AV} {H : AHeap} {a : Act} {w : World}

/-- What must be known of what follows an operation. -/
def OpK (P : Program) (ρ0 : Ren) (H0 : AHeap) (w0 : World) (bx : List Nat) (E : BoxEnv) (β : Nat → Option Nat) (S : List AV) (a : Act) (o : Oper) (v : AV) (H' : AHeap) (K : Act → World → Prop) : Prop :=
  ∀ ρ' β' a' w', Fr ρ0 H0 w0 bx β' ρ' (putS S (trW bx E o) v) H' a' w' → (∀ t, o.dst ≠ some t → a'.tmps.getD t undef = a.tmps.getD t undef) → (∀ d, isBnew bx o ≠ some d → β' d = β d) →
    (∀ s x f q fd, o.op = .fieldAddr s x f → addrOf bx E x = some q → fieldOf P s f = some fd → ∃ blk, β' q.2.1 = some blk ∧ ∀ d, o.dst = some d → d < S.length → a'.tmps.getD d undef = .pointer (some ⟨blk, q.2.2 + fd.offset, none⟩)) → K a' w'

theorem put_other {a : Act} {dst : Option Nat} {cv : Value} (t : Nat) (h : dst ≠ some t) : (a.put dst cv).tmps.getD t undef = a.tmps.getD t undef := by
  cases dst with
  | none => rfl
  | some d => rw [getD_put, if_neg (by rintro ⟨rfl, _⟩; exact h rfl)]

theorem op_value (F : Fr ρ0 H0 w0 bx β ρ S H a w) {E : BoxEnv} {o : Oper} {v : AV} {H' : AHeap} {K : Act → World → Prop} {Q : Exit → Act → World → Prop} (hK : OpK P ρ0 H0 w0 bx E β S a o v H' K)
    {cv : Value} {w' : World} {ρ' : Ren} (hrun : (execOp a.eval o).run P w = .ok (.value cv) w') (hd : isDst bx o.dst = false) (hs : Sim ρ' H' w') (st : Step ρ H w ρ' H' w') (hv : VR ρ' v cv)
    (htw : trW bx E o = o.dst) (hnf : ∀ s x f, o.op ≠ .fieldAddr s x f) : o.wp P a w K Q := by
  refine wp_value hrun (hK ρ' β _ w' ?_ (fun t ht => put_other t ht) (fun _ _ => rfl) (fun s x f _ _ h => absurd h (hnf s x f)))
  rw [htw]
  exact (F.go hs st).put hd hv

theorem op_skipped (F : Fr ρ0 H0 w0 bx β ρ S H a w) {E : BoxEnv} {o : Oper} {H' : AHeap} {K : Act → World → Prop} {Q : Exit → Act → World → Prop} (hK : OpK P ρ0 H0 w0 bx E β S a o undefA H' K)
    {w' : World} {ρ' : Ren} (hrun : (execOp a.eval o).run P w = .ok .skip w') (hd : isDst bx o.dst = false) (hs : Sim ρ' H' w') (st : Step ρ H w ρ' H' w')
    (htw : trW bx E o = o.dst) (hnf : ∀ s x f, o.op ≠ .fieldAddr s x f) : o.wp P a w K Q := by
  refine wp_skipped hrun (hK ρ' β _ w' ?_ (fun t ht => put_other t ht) (fun _ _ => rfl) (fun s x f _ _ h => absurd h (hnf s x f)))
  rw [htw]
  exact (F.go hs st).put hd undef_ok

theorem op_enter (F : Fr ρ0 H0 w0 bx β ρ S H a w) {E : BoxEnv} {o : Oper} {v : AV} {H' : AHeap} {K : Act → World → Prop} {Q : Exit → Act → World → Prop} (hK : OpK P ρ0 H0 w0 bx E β S a o v H' K)
    {f : FuncId} {args : List AV} {cargs : Array Value} (hc : ACalls P f args H v H') (hargs : LR ρ args cargs.toList) (hrun : (∃ fn, P.funcs[f]? = some fn ∧ (fn.name == "runtime.NumGoroutine") = false ∧ fn.body.isNone = false) → (execOp a.eval o).run P w = .ok (.enter f cargs) w)
    (hd : isDst bx o.dst = false) (htw : trW bx E o = o.dst) (hnf : ∀ s x f, o.op ≠ .fieldAddr s x f) : o.wp P a w K Q := by
  unfold Oper.wp
  rw [hrun hc.1]
  refine (hc.2 ρ w cargs F.sim hargs).mono ?_
  rintro e w' ⟨ρ', cv, rfl, hv, hs, st⟩
  refine hK ρ' β _ w' ?_ (fun t ht => put_other t ht) (fun _ _ => rfl) (fun s x f _ _ h => absurd h (hnf s x f))
  rw [htw]
  exact (F.go hs st).put hd hv

theorem run_callFunc {f : FuncId} {args : Array Value} (h : ∃ fn, P.funcs[f]? = some fn ∧ (fn.name == "runtime.NumGoroutine") = false ∧ fn.body.isNone = false) : (callFunc f args).run P w = .ok (.enter f args) w := by
  obtain ⟨fn, h1, h2, h3⟩ := h
  simp only [callFunc, Sem.run_bind, run_program, Result.andThen_ok, h1, h2, h3]
  rfl

theorem trTwo_some {x y : Operand} {f : Opd → Opd → Act1} {act : Act1} (h : trTwo bx x y f = some act) : ∃ p q, trOpd bx x = some p ∧ trOpd bx y = some q ∧ act = f p q := by
  unfold trTwo at h
  split at h
  · rename_i p q hp hq; cases h; exact ⟨p, q, hp, hq, rfl⟩
  · cases h

theorem mm_ok (mx : Bool) : ∀ (ys : List AV) (vs : List Value) (X V : AV) (cx : Value), LR ρ ys vs → VR ρ X cx → mmA mx X ys = some V →
    ∃ cv, (vs.foldlM (if mx then Builtin.max2 else Builtin.min2) cx).run P w = .ok cv w ∧ VR ρ V cv
  | [], [], X, V, cx, _, hx, h => by simp [mmA] at h; subst h; exact ⟨cx, by simp, hx⟩
  | [], _ :: _, _, _, _, h, _, _ => by have := h.1; simp at this
  | _ :: _, [], _, _, _, h, _, _ => by have := h.1; simp at this
  | y :: ys, u :: vs, X, V, cx, hl, hx, h => by
    unfold mmA at h
    split at h
    · simp at *
    · rename_i k x k' y' r heq
      simp at heq
      obtain ⟨rfl, rfl⟩ := heq
      split at h
      case isFalse => cases h
      rename_i hk
      subst hk
      have hy := hl.head
      cases hx; cases hy
      obtain ⟨cv, h1, h2⟩ := mm_ok mx ys vs _ V (.int k (if mx then max x y' else min x y')) hl.tail (.int _ _) h
      refine ⟨cv, ?_, h2⟩
      cases mx
      · simp only [Bool.false_eq_true, if_false] at h1 ⊢
        rw [List.foldlM_cons, Sem.run_bind]
        have e : (Builtin.min2 (.int k x) (.int k y')).run P w = .ok (.int k (min x y')) w := by
          simp only [Builtin.min2, Sem.run_pure]; congr 2; omega
        rw [e]; exact h1
      · simp only [if_true] at h1 ⊢
        rw [List.foldlM_cons, Sem.run_bind]
        have e : (Builtin.max2 (.int k x) (.int k y')).run P w = .ok (.int k (max x y')) w := by
          simp only [Builtin.max2, Sem.run_pure]; congr 2; omega
        rw [e]; exact h1
    · cases h

theorem parts_ok (F : Fr ρ0 H0 w0 bx β ρ S H a w) {place : Nat → Option (Nat × Nat)} {parts : List (Nat × Operand)} {ps : List (Nat × Nat × Opd)} (h : trParts bx place parts = some ps) :
    (ps.map fun p => (p.1, p.2.1, rd S p.2.2)).length = (parts.map fun p => (p.1, a.eval p.2)).length ∧
    ∀ (i : Nat) p q, (parts.map fun p => (p.1, a.eval p.2))[i]? = some p → (ps.map fun p => (p.1, p.2.1, rd S p.2.2))[i]? = some q → place p.1 = some (q.1, q.2.1) ∧ VR ρ q.2.2 p.2 := by
  obtain ⟨h1, h2⟩ := mapM_some h
  refine ⟨by simp [h1], fun i p q hp hq => ?_⟩
  simp only [List.getElem?_map, Option.map_eq_some_iff] at hp hq
  obtain ⟨p', hp', rfl⟩ := hp
  obtain ⟨q', hq', rfl⟩ := hq
  obtain ⟨y, hy, hs⟩ := h2 i p' hp'
  rw [hq'] at hy; cases hy
  simp only [Option.bind_eq_bind, Option.bind_eq_some_iff, Option.pure_def, Option.some.injEq] at hs
  obtain ⟨r, hr, x, hx, rfl⟩ := hs
  exact ⟨hr, F.opd hx⟩

theorem opt_ok (F : Fr ρ0 H0 w0 bx β ρ S H a w) {y : Option Operand} {z : Option Opd} (h : (match y with | none => some none | some y => (trOpd bx y).map some) = some z) :
    (z.map (rd S) = none ∧ y.map a.eval = none) ∨ ∃ p c, z.map (rd S) = some p ∧ y.map a.eval = some c ∧ VR ρ p c := by
  cases y with
  | none => cases h; exact .inl ⟨rfl, rfl⟩
  | some y =>
    simp only [Option.map_eq_some_iff] at h
    obtain ⟨p, hp, rfl⟩ := h
    exact .inr ⟨_, _, rfl, rfl, F.opd hp⟩

end
end Go.Eng
