/- The abstract machine, part 6: what reads and writes the heap. No conditions. -/
import Derived.Test.YtlmbobbefgcolaaEng5
namespace Go.Eng
open Go

section
variable {P : Program} {ρ : Ren} {H : AHeap} {w : World}

theorem Sim.window (hs : Sim ρ H w) {n : Nat} {L : Loc} {rw : Bool} {l : List AV} (hn : ρ n = some L) (hl : H[n]? = some (.cells rw l)) :
    ∃ cs T fz, w.heap[L.b]? = some (.cells cs T fz) ∧ (rw = true → L.own = true) ∧ (L.own = true → cs.size = L.sz ∧ fz = (0, 0)) ∧ L.o + l.length ≤ cs.size ∨ l.length = 0 := by
  have h := hs.obj n L _ hn hl
  cases hb : w.heap[L.b]? with
  | none => rw [hb] at h; exact h.elim
  | some b =>
    rw [hb] at h
    cases b with
    | cells cs T fz =>
      obtain ⟨h1, h2, h3, h4⟩ := h
      have := h3.1
      simp at this
      by_cases h0 : l.length = 0
      · exact ⟨cs, T, fz, .inr h0⟩
      · exact ⟨cs, T, fz, .inl ⟨rfl, h1, h2, by omega⟩⟩
    | _ => exact h.elim

/-- The cells of a live object. -/
theorem Sim.cellsOf (hs : Sim ρ H w) {n : Nat} {L : Loc} {rw : Bool} {l : List AV} (hn : ρ n = some L) (hl : H[n]? = some (.cells rw l)) :
    ∃ cs T fz, w.heap[L.b]? = some (.cells cs T fz) ∧ (rw = true → L.own = true) ∧ (L.own = true → cs.size = L.sz ∧ fz = (0, 0)) ∧ LR ρ l ((cs.toList.drop L.o).take l.length) ∧
      (∀ v ∈ (cs.toList.drop L.o).take l.length, v.oneCell' = true) := by
  have h := hs.obj n L _ hn hl
  cases hb : w.heap[L.b]? with
  | none => rw [hb] at h; exact h.elim
  | some b =>
    rw [hb] at h
    cases b with
    | cells cs T fz => exact ⟨cs, T, fz, rfl, h⟩
    | _ => exact h.elim

/-- A run of cells of a live object. -/
theorem Sim.run (hs : Sim ρ H w) {n : Nat} {L : Loc} {rw : Bool} {l : List AV} (hn : ρ n = some L) (hl : H[n]? = some (.cells rw l)) (off cnt : Nat) (hc : off + cnt ≤ l.length) :
    ∃ vs, LR ρ ((l.drop off).take cnt) vs ∧ vs.length = cnt ∧ (∀ v ∈ vs, v.oneCell' = true) ∧ ∀ (j : Nat) v, vs[j]? = some v → w.cell? ((⟨L.b, L.o + off, none⟩ : Addr).add j) = some v := by
  obtain ⟨cs, T, fz, hb, _, _, hr, ho⟩ := hs.cellsOf hn hl
  have hlen := hr.1
  simp at hlen
  refine ⟨(((cs.toList.drop L.o).take l.length).drop off).take cnt, (hr.drop off).take cnt, by simp; omega, fun v hv => ho v (List.mem_of_mem_drop (List.mem_of_mem_take hv)), fun j v hv => ?_⟩
  rw [add_none, cell_of_row w L.b _ cs T fz hb]
  rw [List.getElem?_take] at hv
  split at hv
  · rw [List.getElem?_drop, List.getElem?_take] at hv
    split at hv
    · rw [List.getElem?_drop] at hv
      rw [← hv, ← Array.getElem?_toList]
      congr 1; omega
    · cases hv
  · cases hv

theorem ok_ld (hs : Sim ρ H w) {t : TypeId} {sz : Nat} {ag : Bool} {n off : Nat} {rw : Bool} {l : List AV} {v : AV} {cp : Value} (h1 : tsize P t = some sz) (h2 : tagg P t = some ag) (hp : VR ρ (.ptr n off) cp)
    (hl : H[n]? = some (.cells rw l)) (h : partA l off sz ag = some v) : ∃ cv, (Instr.loadAt t cp).run P w = .ok cv w ∧ VR ρ v cv := by
  cases hp with
  | ptr _ _ L hn =>
    unfold partA at h
    split at h
    case isFalse => cases h
    rename_i hle
    obtain ⟨vs, hr, hvl, ho, hc⟩ := hs.run hn hl off sz hle
    cases ag with
    | true =>
      simp at h
      subst h
      refine ⟨.agg vs.toArray, ?_, VR.agg_iff.2 ⟨by simpa using hr, by simpa using ho⟩⟩
      have := run_loadCells_list (P := P) w ⟨L.b, L.o + off, none⟩ vs hc
      rw [hvl] at this
      simp [Instr.loadAt, Instr.sureAddr, loadVar, run_isAgg h2, run_sizeOf h1, this]
    | false =>
      simp at h
      obtain ⟨hsz, h⟩ := h
      subst hsz
      obtain ⟨cv, hcv, hv⟩ := hr.get (i := 0) (x := v) (by simp [h])
      refine ⟨cv, ?_, hv⟩
      have hcell := hc 0 cv hcv
      rw [add_none, Nat.add_zero] at hcell
      simp [Instr.loadAt, Instr.sureAddr, loadVar, run_isAgg h2, hcell]

theorem take_drop_splice (A c : List Value) (o n off : Nat) (h1 : o + n ≤ A.length) (h2 : off + c.length ≤ n) :
    ((A.take (o + off) ++ c ++ A.drop (o + off + c.length)).drop o).take n = ((A.drop o).take n).take off ++ c ++ ((A.drop o).take n).drop (off + c.length) := by
  apply List.ext_getElem?
  intro i
  simp only [List.getElem?_take, List.getElem?_drop, List.getElem?_append, List.length_append, List.length_take, List.length_drop]
  have e1 : min (o + off) A.length = o + off := by omega
  have e2 : min off (min n (A.length - o)) = off := by omega
  rw [e1, e2]
  by_cases hi : i < n
  · simp only [hi, if_true]
    by_cases h3 : i < off
    · simp only [show o + i < o + off + c.length from by omega, show o + i < o + off from by omega, show i < off + c.length from by omega, h3, if_true]
    · by_cases h4 : i < off + c.length
      · rw [if_pos (by omega), if_neg (by omega), if_pos (by omega), if_neg (by omega)]
        congr 1; omega
      · rw [if_neg (by omega), if_neg (by omega), if_pos (by omega)]
        congr 1; omega
  · rw [if_neg hi]
    rw [if_neg (by omega), if_neg (by omega)]

/-- Cells of an object of the call's own are overwritten. -/
theorem write_row (hs : Sim ρ H w) {n : Nat} {L : Loc} {l c : List AV} {cs : List Value} {off : Nat} (hn : ρ n = some L) (hl : H[n]? = some (.cells true l)) (hc : off + c.length ≤ l.length) (hr : LR ρ c cs) (ho : ∀ v ∈ cs, v.oneCell' = true) :
    ∃ w', (storeCells ⟨L.b, L.o + off, none⟩ cs).run P w = .ok () w' ∧ Sim ρ (H.set n (.cells true (splice l off c))) w' ∧ Step ρ H w ρ (H.set n (.cells true (splice l off c))) w' := by
  obtain ⟨cur, T, fz, hb, hown, hsz, hlr, hone⟩ := hs.cellsOf hn hl
  obtain ⟨hsz1, rfl⟩ := hsz (hown rfl)
  have hlen := hlr.1
  simp at hlen
  have hcl := hr.1
  by_cases hz : cs.length = 0
  · have e1 : cs = [] := List.eq_nil_of_length_eq_zero hz
    have e2 : c = [] := List.eq_nil_of_length_eq_zero (by omega)
    subst e1; subst e2
    refine ⟨w, by simp [storeCells], ?_⟩
    have e3 : splice l off [] = l := by simp [splice]
    rw [e3]
    exact hs.write hn (hown rfl) hl (by simp) (by simp) rfl rfl rfl rfl (fun _ _ => rfl) (hs.obj n L _ hn hl)
  · have hst := run_storeCells_at P L.b (L.o + off) T cs 0 cur w hb (by omega) ho
    simp only [Nat.add_zero] at hst
    refine ⟨_, hst, hs.write hn (hown rfl) hl (by simp) (by simp) (by simp [World.setRow]) rfl rfl rfl (fun b hb' => setRow_other w L.b b _ hb') ?_⟩
    rw [setRow_heap w L.b cur _ T (0, 0) hb]
    have hlen' : (splice l off c).length = l.length := by simp [splice]; omega
    have hcur : cur.toList.length = cur.size := by simp
    have e := take_drop_splice cur.toList cs L.o l.length off (by omega) (by omega)
    refine ⟨fun _ => hown rfl, fun _ => ⟨?_, rfl⟩, ?_, ?_⟩
    · simp; omega
    · rw [hlen', List.toList_toArray, e]
      exact hlr.splice hr off
    · rw [hlen', List.toList_toArray, e]
      exact mem_splice hone ho

theorem ok_st (hs : Sim ρ H w) {t : TypeId} {sz : Nat} {n off : Nat} {l c : List AV} {x : AV} {cp cx : Value} (h1 : tsize P t = some sz) (hp : VR ρ (.ptr n off) cp) (hx : VR ρ x cx) (hxc : x.cells? = some c)
    (hl : H[n]? = some (.cells true l)) (hc : c.length = sz ∧ off + sz ≤ l.length) :
    ∃ w', (Instr.storeAt t cp cx).run P w = .ok () w' ∧ Sim ρ (H.set n (.cells true (splice l off c))) w' ∧ Step ρ H w ρ (H.set n (.cells true (splice l off c))) w' := by
  cases hp with
  | ptr _ _ L hn =>
    obtain ⟨hr, ho⟩ := hx.cells hxc
    obtain ⟨w', hrun, hs', st⟩ := write_row (P := P) hs hn hl (off := off) (by omega) hr ho
    refine ⟨w', ?_, hs', st⟩
    have hsz : cx.cells.size = sz := by rw [← hc.1]; simpa using hr.1.symm
    simp [Instr.storeAt, Instr.sureAddr, storeVar, run_sizeOf h1, hsz, hrun]

/-- A new object. -/
theorem new_row (hs : Sim ρ H w) {l : List AV} {cs : Array Value} (T : TypeId) (_hle : l.length ≤ cs.size) (hr : LR ρ l (cs.toList.take l.length)) (ho : ∀ v ∈ cs.toList.take l.length, v.oneCell' = true) :
    Sim (ρ.put H.length ⟨w.heap.size, 0, true, cs.size⟩) (H ++ [.cells true l]) (w.alloc (.cells cs T)) ∧
      Step ρ H w (ρ.put H.length ⟨w.heap.size, 0, true, cs.size⟩) (H ++ [.cells true l]) (w.alloc (.cells cs T)) := by
  refine hs.alloc (.cells true l) (.cells cs T) cs.size ⟨fun _ => rfl, fun _ => ⟨rfl, rfl⟩, ?_, ?_⟩
  · simp only [List.drop_zero]; exact hr.mono (Sub.put hs.none_of_len)
  · simpa using ho

theorem put_self {ρ : Ren} {n : Nat} {L : Loc} : (ρ.put n L) n = some L := by simp [Ren.put]

theorem new_all (hs : Sim ρ H w) {l : List AV} {cs : Array Value} (T : TypeId) (hr : LR ρ l cs.toList) (ho : ∀ v ∈ cs.toList, v.oneCell' = true) :
    Sim (ρ.put H.length ⟨w.heap.size, 0, true, cs.size⟩) (H ++ [.cells true l]) (w.alloc (.cells cs T)) ∧
      Step ρ H w (ρ.put H.length ⟨w.heap.size, 0, true, cs.size⟩) (H ++ [.cells true l]) (w.alloc (.cells cs T)) := by
  have hl : l.length = cs.toList.length := hr.1
  refine new_row hs T (by simp at hl; omega) (by rw [hl, List.take_length]; exact hr) (fun v hv => ho v (List.mem_of_mem_take hv))

theorem ok_mks (hs : Sim ρ H w) {t e : TypeId} {z : List AV} {k1 k2 : IntKind} {lv cv : Int} (ht : selem P t = some e) (hz : ezero P e = some z) (h : 0 ≤ lv ∧ lv ≤ cv ∧ cv ≤ lim) :
    ∃ v w' ρ', (Instr.makeSlice t (.int k1 lv) (.int k2 cv)).run P w = .ok v w' ∧ VR ρ' (.sl z.length H.length 0 lv.toNat (lv == cv)) v ∧ Sim ρ' (H ++ [.cells true (repl z cv.toNat)]) w' ∧
      Step ρ H w ρ' (H ++ [.cells true (repl z cv.toNat)]) w' := by
  obtain ⟨i, v, hi, hv, hsz, hpos, hby, hvs, hcells⟩ := ezero_some hz
  obtain ⟨h0, h1, h2⟩ := h
  have h2' : cv ≤ 2147483648 := h2
  have hb : (i.bytes : Int) * cv ≤ 281474976710656 := by
    have : (i.bytes : Int) * cv ≤ 65536 * 2147483648 := Int.mul_le_mul (by omega) h2' (by omega) (by omega)
    omega
  have hr := run_make (P := P) w t e i v (selem_some ht) hi hv k1 k2 lv cv h0 h1 hb (by omega)
  rw [hsz] at hr
  obtain ⟨hlr, hone⟩ := repl_made hpos hvs (hcells ρ) cv.toNat
  obtain ⟨hs', st⟩ := new_all hs e hlr hone
  refine ⟨_, _, _, hr, ?_, hs', st⟩
  refine VR.sl _ _ _ _ _ ⟨w.heap.size, 0, true, _⟩ ⟨w.heap.size, 0, none⟩ cv.toNat put_self (by omega) (fun hf => ?_) (.inl rfl) (fun _ => .inr (by simp [size_madeCells]))
  have : lv = cv := by simpa using hf
  rw [this]

theorem ok_blds (hs : Sim ρ H w) {t e : TypeId} {z l : List AV} {n : Nat} {ps : Array (Nat × Value)} {as : List (Nat × Nat × AV)} (ht : selem P t = some e) (hz : ezero P e = some z) (hn : n * z.length ≤ 65536)
    (hlen : as.length = ps.toList.length) (hrel : ∀ (i : Nat) p a, ps.toList[i]? = some p → as[i]? = some a → (some (p.1 * z.length, z.length) = some (a.1, a.2.1)) ∧ VR ρ a.2.2 p.2) (h : fillA as (repl z n) = some l) :
    ∃ v w' ρ', (Instr.buildSlice t n ps).run P w = .ok v w' ∧ VR ρ' (.sl z.length H.length 0 n true) v ∧ Sim ρ' (H ++ [.cells true l]) w' ∧ Step ρ H w ρ' (H ++ [.cells true l]) w' := by
  obtain ⟨i, v, hi, hv, hsz, hpos, hby, hvs, hcells⟩ := ezero_some hz
  obtain ⟨hlr, hone⟩ := repl_made hpos hvs (hcells ρ) n
  obtain ⟨cells', hf, hl', ho'⟩ := fill_ok (fun i => some (i * z.length, z.length)) ps.toList as _ l _ hlen hrel hlr hone h
  obtain ⟨hs', st⟩ := new_all hs e hl' ho'
  have hsize : cells'.size = n * z.length := by
    have keep : ∀ (as : List (Nat × Nat × AV)) (l l' : List AV), fillA as l = some l' → l'.length = l.length := by
      intro as
      induction as with
      | nil => intro l l' h; simp [fillA] at h; subst h; rfl
      | cons a as ih =>
        intro l l' h
        obtain ⟨off, sz, x⟩ := a
        simp only [fillA] at h
        split at h
        · rename_i c _
          split at h
          · rw [ih _ _ h]; simp [splice]; omega
          · cases h
        · cases h
    have h1 := keep _ _ _ h
    rw [repl_length] at h1
    have := hl'.1
    simp at this
    omega
  refine ⟨.slice (some ⟨w.heap.size, 0, none⟩) n n, _, _, ?_, ?_, hs', st⟩
  · simp only [Instr.buildSlice, Sem.run_bind, run_underlying (selem_some ht), Result.andThen_ok, sizeOf, typeInfo, run_program, hi, Sem.run_pure, hsz, zeroValue]
    have hf' : Instr.fill (fun i => some (i * z.length, z.length)) (madeCells v.cells (n * z.length)) ps.toList = some cells' := hf
    by_cases h0 : n * z.length = 0
    · have : madeCells v.cells (n * z.length) = (Array.range (n * z.length)).map ((#[] : Array Value)[· % (#[] : Array Value).size]!) := by simp [madeCells, h0]
      rw [this] at hf'
      simp [h0] at hf' ⊢
      simp [hf', newRow]
    · have hn' : ¬ (16777216 < n * z.length) := by omega
      unfold madeCells at hf'
      simp [h0, hn', hi, hv, hf', newRow]
  · refine VR.sl _ _ _ _ _ ⟨w.heap.size, 0, true, cells'.size⟩ ⟨w.heap.size, 0, none⟩ n put_self (Nat.le_refl _) (fun _ => rfl) (.inl rfl) (fun _ => .inr ?_)
    simp [hsize]

end
end Go.Eng
