/- The abstract machine, part 10: one operation of a frame. No conditions. -/
import Derived.Test.YtlmbobbefgcolaaEng9
namespace Go.Eng
open Go

section
variable {P : Program} {ρ0 : Ren} {H0 : AHeap} {w0 : World} {bx : List Nat} {β : Nat → Option Nat} {ρ : Ren} {S : List AV} {H : AHeap} {a : Act} {w : World}

theorem rd_out {S : List AV} {d : Nat} (h : ¬ d < S.length) : rd S (.s d) = .junk := by
  show (S[d]?).getD .junk = .junk
  rw [List.getElem?_eq_none (by omega)]; rfl

/-- A box is made. -/
theorem Fr.bnew (F : Fr ρ0 H0 w0 bx β ρ S H a w) {d : Nat} (hd : bx.contains d = true) {x : AV} {cx : Value} {l : List AV} (hx : VR ρ x cx) (hl : x.cells? = some l) (T : TypeId) :
    Fr ρ0 H0 w0 bx (fun d' => if d' = d then some w.heap.size else β d') ρ (S.set d x) H (a.put (some d) (.pointer (some ⟨w.heap.size, 0, none⟩))) (w.alloc (.cells cx.cells T)) := by
  have hs := F.sim.allocBox (.cells cx.cells T)
  have st := Step.allocBox F.sim (.cells cx.cells T)
  obtain ⟨hr, ho⟩ := hx.cells hl
  refine ⟨hs, F.step.trans st, F.dfr, by simp [Act.put, F.len], ?_, ?_, ?_⟩
  · intro i hi
    have hne : d ≠ i := by rintro rfl; rw [hd] at hi; cases hi
    rw [rd_set, getD_put, if_neg (by simp [hne]), if_neg (by simp [hne])]
    exact F.slots i hi
  · intro d' hd'
    by_cases he : d = d'
    · subst he
      by_cases hlt : d < S.length
      · right
        have e1 : rd (S.set d x) (.s d) = x := by rw [rd_set, if_pos ⟨rfl, hlt⟩]
        have e2 : (a.put (some d) (.pointer (some ⟨w.heap.size, 0, none⟩))).tmps.getD d undef = .pointer (some ⟨w.heap.size, 0, none⟩) := by rw [getD_put, if_pos ⟨rfl, by rw [← F.len]; exact hlt⟩]
        rw [e1]
        exact ⟨w.heap.size, cx.cells, T, l, by simp, e2, heap_alloc_at _ _, hl, hr, ho⟩
      · left; exact rd_out (by rw [List.length_set]; exact hlt)
    · have e1 : rd (S.set d x) (.s d') = rd S (.s d') := by rw [rd_set, if_neg (by simp [he])]
      have e2 : (a.put (some d) (.pointer (some ⟨w.heap.size, 0, none⟩))).tmps.getD d' undef = a.tmps.getD d' undef := by rw [getD_put, if_neg (by simp [he])]
      rw [e1, e2]
      rcases F.boxes d' hd' with h | ⟨b, cs, T', l', h1, h2, h3, h4, h5, h6⟩
      · exact .inl h
      · have hb := (F.priv d' b h1).2.1
        exact .inr ⟨b, cs, T', l', by rw [if_neg (Ne.symm he)]; exact h1, h2, by rw [heap_alloc_lt _ _ hb]; exact h3, h4, h5, h6⟩
  · intro d' b hb
    have hb' : (if d' = d then some w.heap.size else β d') = some b := hb
    split at hb'
    · rename_i he
      subst he
      cases hb'
      refine ⟨F.step.size, by simp, fun n L e h => ?_, fun d'' h => ?_⟩
      · have := (F.sim.dom n L e).2; omega
      · have h' : (if d'' = d' then some w.heap.size else β d'') = some w.heap.size := h
        split at h'
        · assumption
        · have := (F.priv d'' _ h').2.1; omega
    · obtain ⟨h1, h2, h3, h4⟩ := F.priv d' b hb'
      refine ⟨h1, by simp; omega, h3, fun d'' h => ?_⟩
      have h' : (if d'' = d then some w.heap.size else β d'') = some b := h
      split at h'
      · cases h'; omega
      · exact h4 d'' h'

/-- A box's content is written. -/
theorem Fr.bset (F : Fr ρ0 H0 w0 bx β ρ S H a w) {d b : Nat} (hd : bx.contains d = true) (hb : β d = some b) {cs cs' : Array Value} {T : TypeId} (hcell : w.heap[b]? = some (.cells cs T (0, 0)))
    {x : AV} {l : List AV} (hl : x.cells? = some l) (hr : LR ρ l cs'.toList) (ho : ∀ v ∈ cs'.toList, v.oneCell' = true) (hp : d < S.length → a.tmps.getD d undef = .pointer (some ⟨b, 0, none⟩)) :
    Fr ρ0 H0 w0 bx β ρ (S.set d x) H a (w.setRow b cs') := by
  obtain ⟨p1, p2, p3, p4⟩ := F.priv d b hb
  have hsz : (w.setRow b cs').heap.size = w.heap.size := by simp [World.setRow]
  have hnown : ¬ Own ρ0 H0 b ∨ w0.heap.size ≤ b := .inr p1
  have hs : Sim ρ H (w.setRow b cs') := F.sim.world (by omega) (fun n L e => setRow_other w b L.b cs' (p3 n L e))
  have st : Step ρ0 H0 w0 ρ H (w.setRow b cs') := by
    have k := F.step
    refine ⟨k.old, k.len, k.os, k.tape, k.out, by have := k.size; omega, fun b' hb' ho' => ?_, k.own, k.fresh⟩
    rw [setRow_other w b b' cs' (by omega)]
    exact k.keep b' hb' ho'
  refine ⟨hs, st, F.dfr, by simp [F.len], ?_, ?_, ?_⟩
  · intro i hi
    have hne : d ≠ i := by rintro rfl; rw [hd] at hi; cases hi
    rw [rd_set, if_neg (by simp [hne])]
    exact F.slots i hi
  · intro d' hd'
    by_cases he : d = d'
    · subst he
      by_cases hlt : d < S.length
      · right
        rw [rd_set, if_pos ⟨rfl, hlt⟩]
        exact ⟨b, cs', T, l, hb, hp hlt, setRow_heap w b cs cs' T (0, 0) hcell, hl, hr, ho⟩
      · left; exact rd_out (by simpa using hlt)
    · rw [rd_set, if_neg (by simp [he])]
      rcases F.boxes d' hd' with h | ⟨b', cs1, T', l', h1, h2, h3, h4, h5, h6⟩
      · exact .inl h
      · have hbb : b' ≠ b := by
          rintro rfl
          exact he ((p4 d' h1).symm)
        exact .inr ⟨b', cs1, T', l', h1, h2, by rw [setRow_other w b b' cs' hbb]; exact h3, h4, h5, h6⟩
  · intro d' b' hb'
    obtain ⟨h1, h2, h3, h4⟩ := F.priv d' b' hb'
    exact ⟨h1, by omega, h3, h4⟩

theorem box_load {b : Nat} {cs : Array Value} {T : TypeId} {X v : AV} {l : List AV} {t : TypeId} {off sz : Nat} {ag : Bool} (hb : w.heap[b]? = some (.cells cs T (0, 0))) (hl : X.cells? = some l) (hr : LR ρ l cs.toList)
    (ho : ∀ v ∈ cs.toList, v.oneCell' = true) (h1 : tsize P t = some sz) (h2 : tagg P t = some ag) (h : bgot X off sz ag = some v) :
    ∃ cv, (Instr.loadAt t (.pointer (some ⟨b, off, none⟩))).run P w = .ok cv w ∧ VR ρ v cv := by
  have one : l = [X] → off = 0 ∧ sz = 1 ∧ ag = false → v = X → ∃ cv, (Instr.loadAt t (.pointer (some ⟨b, off, none⟩))).run P w = .ok cv w ∧ VR ρ v cv := by
    rintro rfl ⟨rfl, rfl, rfl⟩ rfl
    obtain ⟨cv, hcv, hv⟩ := hr.get (i := 0) rfl
    have hcell : w.cell? ⟨b, 0, none⟩ = some cv := by rw [cell_of_row w b 0 cs T (0, 0) hb]; simpa using hcv
    exact ⟨cv, by simp [Instr.loadAt, Instr.sureAddr, loadVar, run_isAgg h2, hcell], hv⟩
  cases X with
  | agg m =>
    simp [AV.cells?] at hl
    subst hl
    simp only [bgot, partA] at h
    split at h
    case isFalse => cases h
    rename_i hle
    have hlen := hr.1
    simp at hlen
    cases ag with
    | true =>
      simp at h
      subst h
      refine ⟨.agg ((cs.toList.drop off).take sz).toArray, ?_, VR.agg_iff.2 ⟨by simpa using (hr.drop off).take sz, ?_⟩⟩
      · have := run_loadCells_list (P := P) w ⟨b, off, none⟩ ((cs.toList.drop off).take sz) (fun j v hv => by
          rw [add_none, cell_of_row w b _ cs T (0, 0) hb]
          rw [List.getElem?_take] at hv
          split at hv
          · rw [List.getElem?_drop] at hv; simpa using hv
          · cases hv)
        rw [show ((cs.toList.drop off).take sz).length = sz by rw [List.length_take, List.length_drop]; simp; omega] at this
        simp [Instr.loadAt, Instr.sureAddr, loadVar, run_isAgg h2, run_sizeOf h1, this]
      · intro v hv
        exact ho v (List.mem_of_mem_drop (List.mem_of_mem_take (by simpa using hv)))
    | false =>
      simp at h
      obtain ⟨hsz, h⟩ := h
      obtain ⟨cv, hcv, hv⟩ := hr.get h
      have hcell : w.cell? ⟨b, off, none⟩ = some cv := by rw [cell_of_row w b off cs T (0, 0) hb]; simpa using hcv
      exact ⟨cv, by simp [Instr.loadAt, Instr.sureAddr, loadVar, run_isAgg h2, hcell], hv⟩
  | junk => simp [bgot] at h
  | adr => simp [bgot] at h
  | tuple _ => simp [bgot] at h
  | _ =>
    simp only [AV.cells?, Option.some.injEq] at hl
    simp only [bgot] at h
    split at h
    · rename_i hc
      cases h
      exact one hl.symm hc rfl
    · cases h

theorem box_store {b : Nat} {cs : Array Value} {T : TypeId} {X Y V : AV} {l : List AV} {cy : Value} {t : TypeId} {off sz : Nat} (hb : w.heap[b]? = some (.cells cs T (0, 0))) (hl : X.cells? = some l) (hr : LR ρ l cs.toList)
    (ho : ∀ v ∈ cs.toList, v.oneCell' = true) (h1 : tsize P t = some sz) (hy : VR ρ Y cy) (h : bput X off sz Y = some V) :
    ∃ cs' l', (Instr.storeAt t (.pointer (some ⟨b, off, none⟩)) cy).run P w = .ok () (w.setRow b cs') ∧ V.cells? = some l' ∧ LR ρ l' cs'.toList ∧ ∀ v ∈ cs'.toList, v.oneCell' = true := by
  unfold bput at h
  split at h
  · cases h
  rename_i c hc
  split at h
  · cases h
  rename_i hsz
  have hsz : c.length = sz := by simpa using hsz
  obtain ⟨hcr, hco⟩ := hy.cells hc
  have hcy : cy.cells.size = sz := by rw [← hsz]; simpa using hcr.1.symm
  have run : ∀ m, off + sz ≤ m → m = cs.size → (Instr.storeAt t (.pointer (some ⟨b, off, none⟩)) cy).run P w = .ok () (w.setRow b (cs.toList.take off ++ cy.cells.toList ++ cs.toList.drop (off + cy.cells.toList.length)).toArray) := by
    rintro m hm rfl
    have hst := run_storeCells_at P b off T cy.cells.toList 0 cs w hb (by simp; omega) hco
    simp only [Nat.add_zero] at hst
    simp [Instr.storeAt, Instr.sureAddr, storeVar, run_sizeOf h1, hcy, hst]
  have hlen := hr.1
  cases X with
  | agg m =>
    simp [AV.cells?] at hl
    subst hl
    simp at h
    obtain ⟨hle, rfl⟩ := h
    have hlen' : m.length = cs.size := by simpa using hlen
    exact ⟨_, splice m off c, run m.length hle hlen', rfl, by simpa using hr.splice hcr off, by simpa using mem_splice ho hco⟩
  | junk => simp at h
  | adr => simp at h
  | tuple _ => simp at h
  | _ =>
    simp only [AV.cells?, Option.some.injEq] at hl
    subst hl
    simp only at h
    split at h
    case isFalse => cases h
    rename_i h0
    subst h0
    split at h
    case h_2 => cases h
    rename_i y
    split at h
    case isFalse => cases h
    rename_i hcell
    cases h
    simp at hsz
    subst hsz
    have hs1 : cs.size = 1 := by simpa using hlen.symm
    refine ⟨_, [V], run 1 (by omega) hs1.symm, ?_, ?_, ?_⟩
    · cases V <;> simp_all [AV.cells?, isCell]
    · have e : cs.toList.drop (0 + cy.cells.toList.length) = [] := List.drop_eq_nil_of_le (by simp; omega)
      rw [e]
      simpa using hcr
    · have e : cs.toList.drop (0 + cy.cells.toList.length) = [] := List.drop_eq_nil_of_le (by simp; omega)
      rw [e]
      simpa using hco

/-- The addresses of parts of boxes that are in use. -/
def EnvOk (bx : List Nat) (E : BoxEnv) (β : Nat → Option Nat) (S : List AV) (a : Act) (js : List Nat) : Prop :=
  ∀ e ∈ E, e.1 ∈ js → isAdr (rd S (.s e.2.1)) = true → bx.contains e.2.2.1 = true → ∃ blk, β e.2.2.1 = some blk ∧ a.tmps.getD e.2.1 undef = .pointer (some ⟨blk, e.2.2.2, none⟩)

theorem cells?_ne_junk {x : AV} {l : List AV} (h : x.cells? = some l) : x ≠ .junk := by rintro rfl; simp [AV.cells?] at h

theorem Fr.addr (F : Fr ρ0 H0 w0 bx β ρ S H a w) {E : BoxEnv} {x : Operand} {chk : Option Nat} {b off : Nat} {l : List AV} {js : List Nat} (hE : EnvOk bx E β S a js) (h : addrOf bx E x = some (chk, b, off))
    (hj : ∀ t e, x = .tmp t → bx.contains t = false → envFind bx E t = some e → e.1 ∈ js) (hc : chkd chk S = true) (hl : (rd S (.s b)).cells? = some l) :
    ∃ blk cs T, bx.contains b = true ∧ β b = some blk ∧ a.eval x = .pointer (some ⟨blk, off, none⟩) ∧ a.tmps.getD b undef = .pointer (some ⟨blk, 0, none⟩) ∧ w.heap[blk]? = some (.cells cs T (0, 0)) ∧ LR ρ l cs.toList ∧ ∀ v ∈ cs.toList, v.oneCell' = true := by
  cases x with
  | tmp t =>
    simp only [addrOf] at h
    split at h
    · rename_i ht
      cases h
      rcases F.boxes _ ht with hj | ⟨blk, cs, T, l', h1, h2, h3, h4, h5, h6⟩
      · exact absurd hj (cells?_ne_junk hl)
      · rw [hl] at h4; cases h4
        exact ⟨blk, cs, T, ht, h1, h2, h2, h3, h5, h6⟩
    · rename_i ht
      simp only [Option.map_eq_some_iff] at h
      obtain ⟨e, he, heq⟩ := h
      simp only [Prod.mk.injEq] at heq
      obtain ⟨rfl, rfl, rfl⟩ := heq
      have hmem : e ∈ E := List.mem_of_find?_eq_some he
      have hprop := List.find?_some he
      simp only [Bool.and_eq_true, beq_iff_eq] at hprop
      have hadr : isAdr (rd S (.s e.2.1)) = true := by rw [hprop.1]; exact hc
      obtain ⟨blk, g1, g2⟩ := hE e hmem (hj t e rfl (by simpa using ht) he) hadr hprop.2
      rcases F.boxes _ hprop.2 with hj | ⟨blk', cs, T, l', h1, h2, h3, h4, h5, h6⟩
      · exact absurd hj (cells?_ne_junk hl)
      · rw [hl] at h4; cases h4
        rw [g1] at h1; cases h1
        refine ⟨blk, cs, T, hprop.2, g1, ?_, h2, h3, h5, h6⟩
        show a.tmps.getD t undef = _
        rw [← hprop.1]; exact g2
  | const v => simp [addrOf] at h
  | func f => simp [addrOf] at h
  | global g => simp [addrOf] at h

end
end Go.Eng
