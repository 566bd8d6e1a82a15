/- The abstract machine, part 3: the frame's state, and the operations one by one. No conditions. -/
import Derived.Test.YtlmbobbefgcolaaEng2
namespace Go.Eng
open Go

/-- How an abstract frame stands in the model's: 'β' says in which block each box lies. -/
structure Fr (ρ0 : Ren) (H0 : AHeap) (w0 : World) (bx : List Nat) (β : Nat → Option Nat) (ρ : Ren) (S : List AV) (H : AHeap) (a : Act) (w : World) : Prop where
  sim : Sim ρ H w
  step : Step ρ0 H0 w0 ρ H w
  dfr : a.defers = []
  len : S.length = a.tmps.size
  slots : ∀ i, bx.contains i = false → VR ρ (rd S (.s i)) (a.tmps.getD i undef)
  boxes : ∀ d, bx.contains d = true → rd S (.s d) = .junk ∨ ∃ b cs T l, β d = some b ∧ a.tmps.getD d undef = .pointer (some ⟨b, 0, none⟩) ∧
    w.heap[b]? = some (.cells cs T (0, 0)) ∧ (rd S (.s d)).cells? = some l ∧ LR ρ l cs.toList ∧ ∀ v ∈ cs.toList, v.oneCell' = true
  priv : ∀ d b, β d = some b → w0.heap.size ≤ b ∧ b < w.heap.size ∧ (∀ n L, ρ n = some L → L.b ≠ b) ∧ (∀ d', β d' = some b → d' = d)

section
variable {ρ0 : Ren} {H0 : AHeap} {w0 : World} {bx : List Nat} {β : Nat → Option Nat} {ρ : Ren} {S : List AV} {H : AHeap} {a : Act} {w : World}

theorem rd_set {S : List AV} {d i : Nat} {v : AV} : rd (S.set d v) (.s i) = if d = i ∧ d < S.length then v else rd S (.s i) := by
  show ((S.set d v)[i]?).getD .junk = if d = i ∧ d < S.length then v else (S[i]?).getD .junk
  rw [List.getElem?_set]
  by_cases h : d = i
  · subst h
    by_cases hl : d < S.length
    · simp [hl]
    · simp [hl]
  · simp [h]

theorem getD_put {a : Act} {d i : Nat} {v : Value} : (a.put (some d) v).tmps.getD i undef = if d = i ∧ d < a.tmps.size then v else a.tmps.getD i undef := by
  simp only [Act.put, Array.getD_eq_getD_getElem?, Array.getElem?_setIfInBounds]
  by_cases h : d = i
  · subst h
    by_cases hl : d < a.tmps.size
    · simp [hl]
    · simp [hl]
  · simp [h]

/-- The world goes on; the frame's slots and boxes stay. -/
theorem Fr.go (F : Fr ρ0 H0 w0 bx β ρ S H a w) {ρ' : Ren} {H' : AHeap} {w' : World} (hs : Sim ρ' H' w') (st : Step ρ H w ρ' H' w') : Fr ρ0 H0 w0 bx β ρ' S H' a w' := by
  have hsub : Sub ρ ρ' := st.sub F.sim
  have hblk : ∀ d b, β d = some b → w'.heap[b]? = w.heap[b]? := by
    intro d b hb
    obtain ⟨_, h2, h3, _⟩ := F.priv d b hb
    refine st.keep b h2 ?_
    rintro ⟨n, L, e, _, e2, _⟩
    exact h3 n L e e2
  refine ⟨hs, F.step.trans st, F.dfr, F.len, fun i hi => (F.slots i hi).mono hsub, ?_, ?_⟩
  · intro d hd
    rcases F.boxes d hd with h | ⟨b, cs, T, l, h1, h2, h3, h4, h5, h6⟩
    · exact .inl h
    · exact .inr ⟨b, cs, T, l, h1, h2, by rw [hblk d b h1]; exact h3, h4, h5.mono hsub, h6⟩
  · intro d b hb
    obtain ⟨h1, h2, h3, h4⟩ := F.priv d b hb
    refine ⟨h1, Nat.lt_of_lt_of_le h2 st.size, ?_, h4⟩
    intro n L e hb'
    rcases st.fresh n L e with h5 | h5 | ⟨m, M, em, _, eb, _⟩
    · exact h3 n L ((st.old n h5) ▸ e) hb'
    · omega
    · exact h3 m M em (eb.trans hb')

/-- A slot that is no box is written. -/
theorem Fr.put (F : Fr ρ0 H0 w0 bx β ρ S H a w) {dst : Option Nat} {v : AV} {cv : Value} (hd : isDst bx dst = false) (hv : VR ρ v cv) : Fr ρ0 H0 w0 bx β ρ (putS S dst v) H (a.put dst cv) w := by
  cases dst with
  | none => exact F
  | some d =>
    simp only [isDst] at hd
    refine ⟨F.sim, F.step, F.dfr, by simp [putS, Act.put, F.len], ?_, ?_, F.priv⟩
    · intro i hi
      simp only [putS]
      rw [rd_set, getD_put, F.len]
      split
      · exact hv
      · exact F.slots i hi
    · intro d' hd'
      have hne : d ≠ d' := by rintro rfl; rw [hd] at hd'; cases hd'
      simp only [putS]
      rw [rd_set, getD_put, if_neg (by simp [hne]), if_neg (by simp [hne])]
      exact F.boxes d' hd'

/-- A slot that is no box holds something that is not asked for. -/
theorem Fr.forget (F : Fr ρ0 H0 w0 bx β ρ S H a w) {S0 : List AV} (h : Forget S S0) : Fr ρ0 H0 w0 bx β ρ S0 H a w := by
  refine ⟨F.sim, F.step, F.dfr, h.1.trans F.len, ?_, ?_, F.priv⟩
  · intro i hi
    rcases h.2 i with e | e
    · rw [e]; exact .junk _
    · rw [e]; exact F.slots i hi
  · intro d hd
    rcases h.2 d with e | e
    · exact .inl e
    · rw [e]; exact F.boxes d hd

theorem mapM_some {α β : Type} {f : α → Option β} : ∀ {l : List α} {r : List β}, l.mapM f = some r → l.length = r.length ∧ ∀ (i : Nat) (x : α), l[i]? = some x → ∃ y, r[i]? = some y ∧ f x = some y
  | [], r, h => by simp at h; subst h; simp
  | x :: l, r, h => by
    rw [List.mapM_cons] at h
    cases hx : f x with
    | none => simp [hx] at h
    | some y =>
      cases hl : l.mapM f with
      | none => simp [hx, hl] at h
      | some ys =>
        simp [hx, hl] at h
        subst h
        obtain ⟨h1, h2⟩ := mapM_some hl
        refine ⟨by simp [h1], fun i z hz => ?_⟩
        cases i with
        | zero => simp at hz; subst hz; exact ⟨y, by simp, hx⟩
        | succ i => simpa using h2 i z (by simpa using hz)

theorem trS_ok {ρ : Ren} {v : Value} {x : AV} (h : trS v = some x) : VR ρ x v ∧ v.oneCell' = true := by
  unfold trS at h
  split at h <;> simp at h <;> subst h <;> refine ⟨?_, rfl⟩ <;> constructor

theorem trV_ok {ρ : Ren} {v : Value} {x : AV} (h : trV v = some x) : VR ρ x v := by
  unfold trV at h
  split at h
  · rename_i cs
    cases hm : cs.toList.mapM trS with
    | none => simp [hm] at h
    | some l =>
      simp [hm] at h
      subst h
      obtain ⟨h1, h2⟩ := mapM_some hm
      refine VR.agg_iff.2 ⟨⟨h1.symm, fun i x v hx hv => ?_⟩, fun v hv => ?_⟩
      · obtain ⟨y, hy, hs⟩ := h2 i v hv
        rw [hx] at hy; cases hy
        exact (trS_ok hs).1
      · obtain ⟨i, hi, he⟩ := List.getElem_of_mem hv
        obtain ⟨y, hy, hs⟩ := h2 i v (by rw [List.getElem?_eq_getElem hi, he])
        exact (trS_ok (ρ := ρ) hs).2
  · exact (trS_ok h).1

/-- An operand. -/
theorem Fr.opd (F : Fr ρ0 H0 w0 bx β ρ S H a w) {x : Operand} {o : Opd} (h : trOpd bx x = some o) : VR ρ (rd S o) (a.eval x) := by
  cases x with
  | tmp t =>
    simp only [trOpd] at h
    split at h
    · cases h
    · rename_i hc
      cases h
      exact F.slots t (by simpa using hc)
  | const v =>
    simp only [trOpd] at h
    cases hv : trV v with
    | none => simp [hv] at h
    | some y =>
      simp [hv] at h
      subst h
      exact trV_ok hv
  | func f =>
    simp only [trOpd] at h
    cases h
    exact VR.fn_iff.2 LR.nil
  | global g => simp [trOpd] at h

theorem Fr.opds (F : Fr ρ0 H0 w0 bx β ρ S H a w) {xs : List Operand} {os : List Opd} (h : xs.mapM (trOpd bx) = some os) : LR ρ (os.map (rd S)) (xs.map a.eval) := by
  obtain ⟨h1, h2⟩ := mapM_some h
  refine ⟨by simp [h1], fun i x v hx hv => ?_⟩
  simp only [List.getElem?_map, Option.map_eq_some_iff] at hx hv
  obtain ⟨o, ho, rfl⟩ := hx
  obtain ⟨y, hy, rfl⟩ := hv
  obtain ⟨z, hz, hs⟩ := h2 i y hy
  rw [ho] at hz; cases hz
  exact F.opd hs

end

theorem wp_value {P : Program} {o : Oper} {a : Act} {w w' : World} {K : Act → World → Prop} {Q : Exit → Act → World → Prop} {v : Value}
    (h : (execOp a.eval o).run P w = .ok (.value v) w') (k : K (a.put o.dst v) w') : o.wp P a w K Q := by
  unfold Oper.wp; rw [h]; exact k
theorem wp_skipped {P : Program} {o : Oper} {a : Act} {w w' : World} {K : Act → World → Prop} {Q : Exit → Act → World → Prop}
    (h : (execOp a.eval o).run P w = .ok .skip w') (k : K (a.put o.dst undef) w') : o.wp P a w K Q := by
  unfold Oper.wp; rw [h]; exact k

theorem undef_ok {ρ : Ren} : VR ρ undefA undef := VR.tuple_iff.2 LR.nil

end Go.Eng
