/- The abstract machine, part 4: what the model's operations do on values that stand for abstract ones. No conditions. -/
import Derived.Test.YtlmbobbefgcolaaEng3
namespace Go.Eng
open Go

section
variable {P : Program} {ρ : Ren} {w : World}

theorem ok_bin {op : BinOp} {t : TypeId} (x y : Operand) {X Y V : AV} {cx cy : Value} (hx : VR ρ X cx) (hy : VR ρ Y cy) (h : binI op X Y = some V) :
    ∃ cv, ((do eqGuard op t x y cx cy; binOp op t cx cy : Sem Value)).run P w = .ok cv w ∧ VR ρ V cv := by
  unfold binI at h
  split at h
  · rename_i k a k' b
    cases hx; cases hy
    have eg : (eqGuard op t x y (.int k a) (.int k' b)).run P w = .ok () w := by cases op <;> simp [eqGuard]
    simp only [Sem.run_bind, eg, Result.andThen_ok]
    cases op
    case shl =>
      simp only at h
      split at h
      · cases h
      · rename_i hb
        cases h
        exact ⟨_, by simp [binOp, Op.shift, hb], .int _ _⟩
    case shr =>
      simp only at h
      split at h
      · cases h
      · rename_i hb
        cases h
        exact ⟨_, by simp [binOp, Op.shift, hb], .int _ _⟩
    all_goals
      simp only at h
      split at h
      · cases h
      · rename_i hk
        simp only [ne_eq, Decidable.not_not] at hk
        subst hk
        first
          | (split at h
             · cases h
             · rename_i hb
               cases h
               refine ⟨_, ?_, .int _ _⟩
               simp [binOp, Op.intDiv, hb]
               done)
          | (cases h
             refine ⟨_, ?_, .int _ _⟩
             simp [binOp, Op.intArith]
             done)
          | (cases h
             refine ⟨_, ?_, .int _ _⟩
             simp only [binOp, ne_eq, not_true, if_false, Op.intBits]; rfl)
          | (cases h
             refine ⟨_, ?_, .bool _⟩
             simp [binOp, Op.intCmp])
  · cases h

theorem ok_eqb (neg : Bool) {t : TypeId} (x y : Operand) {a b : Bool} {cx cy : Value} (ht : P.underlying t = some .bool) (hx : VR ρ (.bool a) cx) (hy : VR ρ (.bool b) cy) :
    ∃ cv, ((do eqGuard (if neg then .neq else .eql) t x y cx cy; binOp (if neg then .neq else .eql) t cx cy : Sem Value)).run P w = .ok cv w ∧ VR ρ (.bool (if neg then !(a == b) else a == b)) cv := by
  cases hx; cases hy
  cases neg
  · exact ⟨.bool (a == b), by simp [eqGuard, binOp, Op.equal, Op.maxDepth, run_equalIn_bool' w 9999 t a b ht], .bool _⟩
  · exact ⟨.bool (!(a == b)), by simp [eqGuard, binOp, Op.equal, Op.maxDepth, run_equalIn_bool' w 9999 t a b ht], .bool _⟩

theorem run_part (t : TypeId) (cs : Array Value) (off sz : Nat) (ag : Bool) (l : List AV) {v : AV} (hs : tsize P t = some sz) (ha : tagg P t = some ag) (h : partA l off sz ag = some v) (hr : LR ρ l cs.toList)
    (h1 : ∀ v ∈ cs.toList, v.oneCell' = true) : ∃ cv, (part t cs off).run P w = .ok cv w ∧ VR ρ v cv := by
  unfold partA at h
  split at h
  case isFalse => cases h
  rename_i hl
  cases hi : P.info? t with
  | none => simp [tsize, hi] at hs
  | some i =>
    simp [tsize, hi] at hs
    subst hs
    cases ag with
    | true =>
      simp at h
      subst h
      have hagg : (isAgg t).run P w = .ok true w := by
        unfold tagg at ha
        split at ha <;> simp at ha <;> rename_i hu <;> simp [isAgg, run_underlying hu]
      refine ⟨.agg (cs.extract off (off + i.size)), by simp [part, hagg, sizeOf, typeInfo, hi], VR.agg_iff.2 ⟨?_, ?_⟩⟩
      · have := (hr.drop off).take i.size
        have e : (cs.extract off (off + i.size)).toList = (cs.toList.drop off).take i.size := by
          rw [Array.toList_extract, List.extract_eq_take_drop]; congr 1; omega
        rw [e]; exact this
      · intro v hv
        have e : (cs.extract off (off + i.size)).toList = (cs.toList.drop off).take i.size := by
          rw [Array.toList_extract, List.extract_eq_take_drop]; congr 1; omega
        rw [e] at hv
        exact h1 v (List.mem_of_mem_drop (List.mem_of_mem_take hv))
    | false =>
      simp at h
      obtain ⟨hsz, h⟩ := h
      obtain ⟨cv, h2, h3⟩ := hr.get h
      have hagg : (isAgg t).run P w = .ok false w := by
        unfold tagg at ha
        split at ha <;> simp at ha
        rename_i d h1 h2 hu
        simp only [isAgg, Sem.run_bind, run_underlying hu, Result.andThen_ok]
        try rfl
      refine ⟨cv, ?_, h3⟩
      have h2' : cs[off]? = some cv := by simpa using h2
      simp [part, hagg, h2']

theorem eqFields_ok (d : Nat) : ∀ (fs : List Field) (k : Nat) (ks : List Bool) (xs ys : List AV) (vx vy : Array Value) (r : Bool), flatFields P fs k = some ks → LR ρ xs (vx.toList.drop k) → LR ρ ys (vy.toList.drop k) →
    eqc ks xs ys = some r → (Op.eqFields (d + 1) vx vy fs).run P w = .ok r w
  | [], k, ks, xs, ys, vx, vy, r, hf, _, _, h => by
    simp [flatFields] at hf
    subst hf
    unfold eqc at h
    split at h <;> simp at *
    subst h
    simp [Op.eqFields]
  | f :: fs, k, ks, xs, ys, vx, vy, r, hf, hx, hy, h => by
    unfold flatFields at hf
    split at hf
    case isFalse => cases hf
    rename_i hno
    simp only [Bool.and_eq_true, bne_iff_ne, ne_eq, beq_iff_eq] at hno
    obtain ⟨hn, ho⟩ := hno
    have key : ∃ x xs' y ys' kd ks' b r', xs = x :: xs' ∧ ys = y :: ys' ∧ flatFields P fs (k + 1) = some ks' ∧ ks = kd :: ks' ∧ eqc ks' xs' ys' = some r' ∧ r = (b && r') ∧
        (∀ w : World, (isAgg f.type).run P w = .ok false w) ∧ ∀ cx cy, VR ρ x cx → VR ρ y cy → (Op.equalIn (d + 1) f.type cx cy).run P w = .ok b w := by
      split at hf
      · rename_i ki ks' hu hfs
        cases hf
        unfold eqc at h
        split at h <;> try (simp at *; done)
        rename_i ks1 k1 a xs' k2 b ys' e0
        simp at e0
        subst e0
        split at h
        · rename_i hk
          subst hk
          cases hr : eqc ks' xs' ys' with
          | none => simp [hr] at h
          | some r' =>
            simp [hr] at h
            refine ⟨_, _, _, _, _, ks', a == b, r', rfl, rfl, hfs, rfl, hr, h.symm, fun w => by simp [isAgg, run_underlying hu], ?_⟩
            intro cx cy h1 h2
            cases h1; cases h2
            exact run_equalIn_int w d f.type _ _ a b hu
        · cases h
      · rename_i ks' hu hfs
        cases hf
        unfold eqc at h
        split at h <;> try (simp at *; done)
        rename_i ks1 a xs' b ys' e0
        simp at e0
        subst e0
        cases hr : eqc ks' xs' ys' with
        | none => simp [hr] at h
        | some r' =>
          simp [hr] at h
          refine ⟨_, _, _, _, _, ks', a == b, r', rfl, rfl, hfs, rfl, hr, h.symm, fun w => by simp [isAgg, run_underlying hu], ?_⟩
          intro cx cy h1 h2
          cases h1; cases h2
          exact run_equalIn_bool' w d f.type a b hu
      · cases hf
    obtain ⟨x, xs', y, ys', kd, ks', b, r', rfl, rfl, hfs, rfl, hr', rfl, hagg, heq⟩ := key
    obtain ⟨cx, hcx, hvx⟩ := hx.get (i := 0) rfl
    obtain ⟨cy, hcy, hvy⟩ := hy.get (i := 0) rfl
    have hcx' : vx[k]? = some cx := by simpa using hcx
    have hcy' : vy[k]? = some cy := by simpa using hcy
    have tx : LR ρ xs' (vx.toList.drop (k + 1)) := by
      have := hx.drop 1; simpa [List.drop_drop, Nat.add_comm] using this
    have ty : LR ρ ys' (vy.toList.drop (k + 1)) := by
      have := hy.drop 1; simpa [List.drop_drop, Nat.add_comm] using this
    have px : (part f.type vx f.offset).run P w = .ok cx w := by simp [part, hagg, ho, hcx']
    have py : (part f.type vy f.offset).run P w = .ok cy w := by simp [part, hagg, ho, hcy']
    have ih := eqFields_ok d fs (k + 1) ks' xs' ys' vx vy r' hfs tx ty hr'
    simp only [Op.eqFields, Sem.run_bind, Sem.run_ite]
    rw [if_pos (by simpa using hn)]
    simp only [px, py, heq cx cy hvx hvy, Result.andThen_ok]
    cases b <;> simp [ih]

theorem ok_eqs (neg : Bool) {t : TypeId} (x y : Operand) {xs ys : List AV} {ks : List Bool} {r : Bool} {cx cy : Value} (ht : eqStruct P t = some ks) (hx : VR ρ (.agg xs) cx) (hy : VR ρ (.agg ys) cy) (h : eqc ks xs ys = some r) :
    ∃ cv, ((do eqGuard (if neg then .neq else .eql) t x y cx cy; binOp (if neg then .neq else .eql) t cx cy : Sem Value)).run P w = .ok cv w ∧ VR ρ (.bool (if neg then !r else r)) cv := by
  have hx' := hx
  have hy' := hy
  cases hx; cases hy
  rename_i vx _ _ _ vy _ _ _
  unfold eqStruct at ht
  split at ht
  case h_2 => cases ht
  rename_i fs hu
  split at ht
  case isFalse => cases ht
  rename_i hc
  simp only [Bool.and_eq_true, Bool.not_eq_true'] at hc
  have hfo : P.fieldsOf t = fs := by simp [Program.fieldsOf, hu]
  have he : (Op.equalIn 10000 t (.agg vx) (.agg vy)).run P w = .ok r w := by
    rw [run_equalIn_struct w 9999 t vx vy (by rw [hfo]; exact hu) hc.1, hfo]
    exact eqFields_ok 9998 fs.toList 0 ks xs ys vx vy r ht (by simpa using (VR.agg_iff.1 hx').1) (by simpa using (VR.agg_iff.1 hy').1) h
  cases neg
  · refine ⟨.bool r, ?_, .bool _⟩
    simp [run_eqGuard_agg (P := P) w .eql t x y vx vy hc.2, run_eql_struct, he]
  · refine ⟨.bool (!r), ?_, .bool _⟩
    simp [run_eqGuard_agg (P := P) w .neq t x y vx vy hc.2, run_neq_struct, he]

end
end Go.Eng
