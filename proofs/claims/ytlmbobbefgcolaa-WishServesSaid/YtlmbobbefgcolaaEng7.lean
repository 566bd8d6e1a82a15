/- The abstract machine, part 7: append, copy, clear, slicing. No conditions. -/
import Derived.Test.YtlmbobbefgcolaaEng6
namespace Go.Eng
open Go

section
variable {P : Program} {ρ : Ren} {H : AHeap} {w : World}

theorem cellsAt_some {H : AHeap} {n off cnt : Nat} {l : List AV} (h : cellsAt H n off cnt = some l) : ∃ rw l0, H[n]? = some (.cells rw l0) ∧ off + cnt ≤ l0.length ∧ l = (l0.drop off).take cnt := by
  unfold cellsAt at h
  split at h
  · rename_i rw l0 hl
    split at h
    · rename_i hle; cases h; exact ⟨rw, l0, hl, hle, rfl⟩
    · cases h
  · cases h

/-- What a slice holds. -/
theorem slCells_ok (hs : Sim ρ H w) {es k : Nat} {Y : AV} {new : List AV} {cy : Value} (hy : VR ρ Y cy) (h : slCells es H Y = some (k, new)) :
    ∃ (a : Option Addr) (cap : Nat) (vs : List Value), cy = .slice a k cap ∧ (a = none → k = 0 ∧ cap = 0) ∧ LR ρ new vs ∧ vs.length = k * es ∧ (∀ v ∈ vs, v.oneCell' = true) ∧
      ∀ a', a = some a' → ∀ (j : Nat) v, vs[j]? = some v → w.cell? (a'.add j) = some v := by
  unfold slCells at h
  split at h
  · cases h
    cases hy
    exact ⟨none, 0, [], rfl, fun _ => ⟨rfl, rfl⟩, LR.nil, by simp, by simp, by simp⟩
  · rename_i es' n off len full
    split at h
    case isFalse => cases h
    rename_i he
    subst he
    simp only [Option.map_eq_some_iff, Prod.mk.injEq] at h
    obtain ⟨l, hl, rfl, rfl⟩ := h
    cases hy with
    | sl _ _ _ _ _ L a cap h1 h2 h3 h4 h5 =>
      obtain ⟨rw, l0, hl0, hle, rfl⟩ := cellsAt_some hl
      obtain ⟨vs, hr, hvl, ho, hc⟩ := hs.run h1 hl0 off _ hle
      refine ⟨some a, cap, vs, rfl, by simp, hr, hvl, ho, ?_⟩
      intro a' ha' j v hv
      cases ha'
      rcases h4 with h4 | h4
      · subst h4; exact hc j v hv
      · have : len = 0 := by omega
        subst this
        simp at hvl
        subst hvl
        simp at hv
  · cases h

theorem grown_size {z : Value} {es need c : Nat} {vs : List Value} (hz : z.cells.size = es) (hl : vs.length = need * es) (hc : need ≤ c) : (vs.toArray ++ Builtin.zeroCells z.cells (c - need)).size = c * es := by
  simp [Builtin.zeroCells, hz, hl, ← Nat.add_mul]
  congr 1; omega

theorem ok_app (hs : Sim ρ H w) {t e ty : TypeId} {z : List AV} {X Y V : AV} {H' : AHeap} {cx cy : Value} (ht : selem P t = some e) (hz : ezero P e = some z) (hx : VR ρ X cx) (hy : VR ρ Y cy) (h : appA z.length H X Y = some (V, H')) :
    ∃ v w' ρ', (Builtin.append_ #[t, t] ty #[cx, cy]).run P w = .ok v w' ∧ VR ρ' V v ∧ Sim ρ' H' w' ∧ Step ρ H w ρ' H' w' := by
  obtain ⟨i, zv, hi, hzv, hsz, hpos, hby, hvs, hcells⟩ := ezero_some hz
  have hu := selem_some ht
  unfold appA at h
  split at h
  case h_1 => cases h
  rename_i k new hk
  obtain ⟨a, cap, vs, rfl, hnone, hr, hvl, ho, hcell⟩ := slCells_ok hs hy hk
  -- nothing to append
  have zero : ∀ (base : Option Addr) (len c : Nat), len ≤ c → k = 0 → cx = .slice base len c → (Builtin.append_ #[t, t] ty #[cx, .slice a k cap]).run P w = .ok cx w := by
    intro base len c hlc hk0 hcx
    subst hk0; subst hcx
    have hf : (Builtin.firstCells i.size 0 (.slice a 0 cap)).run P w = .ok #[] w := by cases a <;> simp [Builtin.firstCells, loadCells, loadCellsFrom]
    cases base <;> simp [Builtin.append_, run_underlying hu, sizeOf, typeInfo, hi, Builtin.lenOf, hlc, hf, storeCells]
  -- a new block
  have grow : ∀ (olds : List Value) (ol : List AV) (len : Nat) (cap0 : Nat) (base : Option Addr), cx = .slice base len cap0 → (base = none → len = 0 ∧ cap0 = 0) → olds.length = len * z.length → LR ρ ol olds → (∀ v ∈ olds, v.oneCell' = true) →
      (∀ b, base = some b → ∀ (j : Nat) v, olds[j]? = some v → w.cell? (b.add j) = some v) → 0 < k → cap0 < len + k → len + k ≤ lim →
      ∃ v w' ρ', (Builtin.append_ #[t, t] ty #[cx, .slice a k cap]).run P w = .ok v w' ∧ VR ρ' (.sl z.length H.length 0 (len + k) false) v ∧ Sim ρ' (H ++ [.cells true (ol ++ new)]) w' ∧ Step ρ H w ρ' (H ++ [.cells true (ol ++ new)]) w' := by
    intro olds ol len cap0 base hcx hb0 hol hor hoo hoc hkp hcap hlim
    obtain ⟨a', rfl⟩ : ∃ a', a = some a' := by
      cases a with
      | none => have := (hnone rfl).1; omega
      | some a' => exact ⟨a', rfl⟩
    have hlim' : len + k ≤ 2147483648 := hlim
    have hbytes : (len + k) * i.bytes ≤ 140737488355328 := by
      have := Nat.mul_le_mul hlim' hby
      omega
    have hge := grownCap_ge w (len + k) cap0 e
    have hrun : (Builtin.append_ #[t, t] ty #[cx, .slice (some a') k cap]).run P w =
        .ok (.slice (some ⟨w.heap.size, 0, none⟩) (len + k) (grownCap w (len + k) cap0 e)) (w.drew.alloc (.cells ((olds ++ vs).toArray ++ Builtin.zeroCells zv.cells (grownCap w (len + k) cap0 e - (len + k))) e)) := by
      cases base with
      | none =>
        obtain ⟨rfl, rfl⟩ := hb0 rfl
        have : olds = [] := List.eq_nil_of_length_eq_zero (by simpa using hol)
        subst this
        subst hcx
        have := run_append_nil (P := P) w t ty e i zv hu hi hzv a' k cap vs (by rw [hsz]; exact hvl) (hcell a' rfl) hkp (by omega) (by simp at hbytes; omega)
        simpa using this
      | some b =>
        subst hcx
        have := run_append_grow (P := P) w t ty e i zv hu hi hzv b len cap0 olds (by rw [hsz]; exact hol) (hoc b rfl) a' k cap vs (by rw [hsz]; exact hvl) (hcell a' rfl) hcap (by omega)
          (growslice_fits hcap hbytes)
        rw [this]
        simp
    have hll : (ol ++ new).length = (olds ++ vs).length := (hor.append hr).1
    have hsize := grown_size (z := zv) (es := z.length) (need := len + k) (c := grownCap w (len + k) cap0 e) (vs := olds ++ vs) hvs (by rw [List.length_append, hol, hvl, Nat.add_mul]) hge
    have htk : ((olds ++ vs).toArray ++ Builtin.zeroCells zv.cells (grownCap w (len + k) cap0 e - (len + k))).toList.take (ol ++ new).length = olds ++ vs := by
      rw [hll, Array.toList_append, List.toList_toArray]; exact List.take_left
    obtain ⟨hs', st⟩ := new_row (w := w.drew) hs.drew (l := ol ++ new) (cs := (olds ++ vs).toArray ++ Builtin.zeroCells zv.cells (grownCap w (len + k) cap0 e - (len + k))) e
      (by rw [hll, Array.size_append]; simp) (by rw [htk]; exact hor.append hr)
      (by rw [htk]; intro v hv; rcases List.mem_append.1 hv with h | h; exact hoo v h; exact ho v h)
    have st' : Step ρ H w ρ H w.drew := ⟨fun _ _ => rfl, Nat.le_refl _, rfl, rfl, rfl, Nat.le_refl _, fun _ _ _ => rfl, fun _ h => .inr h, fun n L e => .inl (hs.dom n L e).1⟩
    refine ⟨_, _, _, hrun, ?_, hs', st'.trans st⟩
    refine VR.sl _ _ _ _ _ ⟨w.heap.size, 0, true, _⟩ ⟨w.heap.size, 0, none⟩ _ put_self hge (by simp) (.inl rfl) (fun _ => .inr ?_)
    show 0 + grownCap w (len + k) cap0 e * z.length ≤ Array.size _
    rw [hsize]; exact Nat.le_of_eq (Nat.zero_add _)
  split at h
  · -- nil
    split at h
    · rename_i hk0
      cases h
      cases hx
      exact ⟨_, w, ρ, zero none 0 0 (Nat.le_refl _) hk0 rfl, .nilS, hs, Step.refl _ _ _ hs⟩
    · split at h
      · rename_i hk0 hlim
        cases h
        cases hx
        have := grow [] [] 0 0 none rfl (fun _ => ⟨rfl, rfl⟩) (by simp) LR.nil (by simp) (by simp) (by omega) (by omega) (by omega)
        simpa using this
      · cases h
  · -- a slice
    rename_i es' n off len full
    split at h
    · rename_i hk0
      cases h
      have hx' := hx
      cases hx with
      | sl _ _ _ _ _ L a0 cap0 h1 h2 h3 h4 h5 =>
        exact ⟨_, w, ρ, zero _ _ _ h2 hk0 rfl, hx', hs, Step.refl _ _ _ hs⟩
    · rename_i hk0
      split at h
      case isFalse => cases h
      rename_i hc
      obtain ⟨rfl, hlim⟩ := hc
      split at h
      case h_2 => cases h
      rename_i rw l hl
      split at h
      case isFalse => cases h
      rename_i hle
      cases hx with
      | sl _ _ _ _ _ L a0 cap0 h1 h2 h3 h4 h5 =>
        obtain ⟨olds, hor, hol, hoo, hoc⟩ := hs.run h1 hl off _ hle
        have hoc' : ∀ b, (some a0 : Option Addr) = some b → ∀ (j : Nat) v, olds[j]? = some v → w.cell? (b.add j) = some v := by
          intro b hb j v hv
          cases hb
          rcases h4 with h4 | h4
          · subst h4; exact hoc j v hv
          · have : len = 0 := by omega
            subst this
            simp at hol
            subst hol
            simp at hv
        cases full with
        | true =>
          simp at h
          obtain ⟨rfl, rfl⟩ := h
          have := h3 rfl
          exact grow olds _ len cap0 (some a0) rfl (by simp) hol hor hoo hoc' (by omega) (by omega) (by omega)
        | false =>
          cases rw with
          | false => simp at h
          | true =>
            simp at h
            obtain ⟨rfl, rfl⟩ := h
            have hown : L.own = true := by
              obtain ⟨_, _, _, _, h, _⟩ := hs.cellsOf h1 hl
              exact h rfl
            have hnl := (hs.dom n L h1).1
            have hlv : live H n := ⟨_, hl, by simp⟩
            have dead : ∀ {m : Nat}, live (H.set n .dead) m → m ≠ n ∧ live H m := by
              rintro m ⟨o, h1, h2⟩
              rw [List.getElem?_set] at h1
              split at h1
              · rename_i e; subst e; simp [] at h1; exact absurd h1.symm h2
              · rename_i e; exact ⟨fun h => e h.symm, o, h1, h2⟩
            -- the old name is given up
            have hsd : Sim ρ (H.set n .dead) w := by
              refine ⟨fun m M e => by simpa using hs.dom m M e, fun m M o e ho => ?_, fun m m' M M' e e' hne l1 l2 hb => hs.sep m m' M M' e e' hne (dead l1).2 (dead l2).2 hb⟩
              rw [List.getElem?_set] at ho
              split at ho
              · rename_i e'; subst e'; simp [] at ho; subst ho; trivial
              · exact hs.obj m M o e ho
            have std : Step ρ H w ρ (H.set n .dead) w := by
              refine ⟨fun _ _ => rfl, by simp, rfl, rfl, rfl, Nat.le_refl _, fun _ _ _ => rfl, ?_, fun m M e => .inl (hs.dom m M e).1⟩
              rintro b ⟨m, M, e, h1, h2, h3⟩
              exact .inr ⟨m, M, e, h1, h2, (dead h3).2⟩
            by_cases hroom : len + k ≤ cap0
            · -- in place
              have hc0 : cap0 ≠ 0 := by omega
              rcases h4 with rfl | h4
              case inr => exact absurd h4 hc0
              have hcapsz : L.o + off + cap0 * z.length ≤ L.sz := (h5 hown).resolve_left hc0
              obtain ⟨cur, T, fz, hb, _, hsz2, hlr, hone⟩ := hs.cellsOf h1 hl
              obtain ⟨hcs, rfl⟩ := hsz2 hown
              have hmul : (len + k) * z.length ≤ cap0 * z.length := Nat.mul_le_mul_right _ hroom
              rw [Nat.add_mul] at hmul
              obtain ⟨a', rfl⟩ : ∃ a', a = some a' := by
                cases a with
                | none => have := (hnone rfl).1; omega
                | some a' => exact ⟨a', rfl⟩
              have hf := run_firstCells_some (P := P) w i.size k a' k cap vs (by rw [hsz]; exact hvl) (hcell a' rfl)
              rw [hsz] at hf
              have hst := run_storeCells_at P L.b (L.o + off + len * z.length) T vs 0 cur w hb (by omega) ho
              simp only [Nat.add_zero] at hst
              have hrun : (Builtin.append_ #[t, t] ty #[.slice (some ⟨L.b, L.o + off, none⟩) len cap0, .slice (some a') k cap]).run P w =
                  .ok (.slice (some ⟨L.b, L.o + off, none⟩) (len + k) cap0) (w.setRow L.b (cur.toList.take (L.o + off + len * z.length) ++ vs ++ cur.toList.drop (L.o + off + len * z.length + vs.length)).toArray) := by
                simp [Builtin.append_, run_underlying hu, sizeOf, typeInfo, hi, Builtin.lenOf, hroom, hf, hsz, add_none, hst]
              let L' : Loc := ⟨L.b, L.o + off, true, L.sz⟩
              have hlen : (H.set n .dead).length = H.length := by simp
              have hput : ρ H.length = none := hs.none_of_len
              have hsub : Sub ρ (ρ.put H.length L') := Sub.put hput
              have cs : ∀ {m M}, (ρ.put H.length L') m = some M → (m = H.length ∧ M = L') ∨ (ρ m = some M ∧ m < H.length) := by
                intro m M e
                unfold Ren.put at e
                split at e
                · rename_i hm; cases e; exact .inl ⟨hm, rfl⟩
                · exact .inr ⟨e, (hs.dom m M e).1⟩
              have hlast : ((H.set n .dead) ++ [AObj.cells true ((l.drop off).take (len * z.length) ++ new)])[H.length]? = some (.cells true ((l.drop off).take (len * z.length) ++ new)) := by
                rw [List.getElem?_append_right (by simp)]; simp
              have lv : ∀ {m : Nat}, m < H.length → (live ((H.set n .dead) ++ [AObj.cells true ((l.drop off).take (len * z.length) ++ new)]) m ↔ live (H.set n .dead) m) := fun hm => live_append (by simpa using hm)
              have hcurl : cur.toList.length = cur.size := by simp
              have hcell' : ((cur.toList.take (L.o + off + len * z.length) ++ vs ++ cur.toList.drop (L.o + off + len * z.length + vs.length)).drop (L.o + off)).take (len * z.length + vs.length) = olds ++ vs := by
                have hl2 := hlr.1
                simp at hl2
                have ho2 : olds = ((cur.toList.drop L.o).take l.length |>.drop off).take (len * z.length) := by
                  apply List.ext_getElem?
                  intro j
                  by_cases hj : j < len * z.length
                  · obtain ⟨v, hv⟩ : ∃ v, olds[j]? = some v := ⟨olds[j]'(by omega), by simp [hol, hj]⟩
                    have := hoc j v hv
                    rw [add_none, cell_of_row w L.b _ cur T (0, 0) hb] at this
                    rw [hv, List.getElem?_take, if_pos hj, List.getElem?_drop, List.getElem?_take, if_pos (by omega), List.getElem?_drop, ← this, ← Array.getElem?_toList]
                    congr 1; omega
                  · rw [List.getElem?_eq_none (by omega), List.getElem?_eq_none (by simp; omega)]
                have key := take_drop_splice cur.toList vs (L.o + off) (len * z.length + vs.length) (len * z.length) (by omega) (Nat.le_refl _)
                rw [key, ho2]
                have e0 : ((List.drop (L.o + off) cur.toList).take (len * z.length + vs.length)).drop (len * z.length + vs.length) = [] := List.drop_eq_nil_of_le (by rw [List.length_take]; omega)
                rw [e0, List.append_nil]
                congr 1
                rw [List.take_take, List.drop_take, List.take_take, List.drop_drop]
                congr 1
                omega
              refine ⟨_, _, ρ.put H.length L', hrun, ?_, ⟨?_, ?_, ?_⟩, ⟨?_, ?_, rfl, rfl, rfl, ?_, ?_, ?_, ?_⟩⟩
              · refine VR.sl _ _ _ _ _ L' ⟨L.b, L.o + off, none⟩ cap0 put_self hroom (by simp) (.inl rfl) (fun _ => .inr hcapsz)
              · intro m M e
                rcases cs e with ⟨rfl, rfl⟩ | ⟨e', hm⟩
                · exact ⟨by simp, by simpa [World.setRow] using (hs.dom n L h1).2⟩
                · refine ⟨by simp; omega, by simpa [World.setRow] using (hs.dom m M e').2⟩
              · intro m M o e hmo
                rcases cs e with ⟨rfl, rfl⟩ | ⟨e', hm⟩
                · rw [hlast] at hmo
                  cases hmo
                  show ObjR _ L' _ _
                  rw [setRow_heap w L.b cur _ T (0, 0) hb]
                  refine ⟨fun _ => rfl, fun _ => ⟨by simp [L']; omega, rfl⟩, ?_, ?_⟩
                  · have hn : ((l.drop off).take (len * z.length) ++ new).length = len * z.length + vs.length := by rw [List.length_append, hor.1, hr.1, hol]
                    rw [hn, List.toList_toArray, hcell']
                    exact (hor.append hr).mono hsub
                  · have hn : ((l.drop off).take (len * z.length) ++ new).length = len * z.length + vs.length := by rw [List.length_append, hor.1, hr.1, hol]
                    rw [hn, List.toList_toArray, hcell']
                    intro v hv
                    rcases List.mem_append.1 hv with h | h
                    · exact hoo v h
                    · exact ho v h
                · rw [List.getElem?_append_left (by simpa using hm)] at hmo
                  by_cases hd : o = .dead
                  · subst hd; trivial
                  · have hlm : live (H.set n .dead) m := ⟨o, hmo, hd⟩
                    obtain ⟨hmn, hlm'⟩ := dead hlm
                    have hbne : M.b ≠ L.b := by
                      intro hbe
                      have := hs.sep m n M L e' h1 hmn hlm' hlv hbe
                      rw [hown] at this; simp at this
                    rw [setRow_other w L.b M.b _ hbne]
                    exact (hsd.obj m M o e' hmo).mono hsub
              · intro m m' M M' e e' hne l1 l2 hbe
                rcases cs e with ⟨rfl, rfl⟩ | ⟨e1, hm⟩ <;> rcases cs e' with ⟨rfl, rfl⟩ | ⟨e2, hm'⟩
                · exact absurd rfl hne
                · exfalso
                  obtain ⟨hmn, hlm'⟩ := dead ((lv hm').1 l2)
                  have := hs.sep m' n M' L e2 h1 hmn hlm' hlv hbe.symm
                  rw [hown] at this; simp at this
                · exfalso
                  obtain ⟨hmn, hlm'⟩ := dead ((lv hm).1 l1)
                  have := hs.sep m n M L e1 h1 hmn hlm' hlv hbe
                  rw [hown] at this; simp at this
                · exact hsd.sep m m' M M' e1 e2 hne ((lv hm).1 l1) ((lv hm').1 l2) hbe
              · intro m hm; unfold Ren.put; rw [if_neg (by omega)]
              · simp
              · simp [World.setRow]
              · intro b _ hno
                exact setRow_other w L.b b _ (fun e => hno ⟨n, L, h1, hown, e.symm, hlv⟩)
              · rintro b ⟨m, M, e, h2', h3', h4'⟩
                rcases cs e with ⟨rfl, rfl⟩ | ⟨e1, hm⟩
                · exact .inr ⟨n, L, h1, hown, h3', hlv⟩
                · exact .inr ⟨m, M, e1, h2', h3', (dead ((lv hm).1 h4')).2⟩
              · intro m M e
                rcases cs e with ⟨rfl, rfl⟩ | ⟨e1, hm⟩
                · exact .inr (.inr ⟨n, L, h1, hown, rfl, hlv⟩)
                · exact .inl hm
            · -- a new block
              obtain ⟨v, w', ρ', g1, g2, g3, g4⟩ := grow olds _ len cap0 (some a0) rfl (by simp) hol hor hoo hoc' (by omega) (by omega) (by omega)
              refine ⟨v, w', ρ', g1, g2, ?_, ?_⟩
              all_goals
                have hset : (H.set n AObj.dead) ++ [AObj.cells true ((l.drop off).take (len * z.length) ++ new)] = (H ++ [AObj.cells true ((l.drop off).take (len * z.length) ++ new)]).set n .dead := by
                  rw [List.set_append_left _ _ hnl]
                have hn' : n < (H ++ [AObj.cells true ((l.drop off).take (len * z.length) ++ new)]).length := by simp; omega
                have dead' : ∀ {m : Nat}, live ((H ++ [AObj.cells true ((l.drop off).take (len * z.length) ++ new)]).set n .dead) m → live (H ++ [AObj.cells true ((l.drop off).take (len * z.length) ++ new)]) m := by
                  rintro m ⟨o, k1, k2⟩
                  rw [List.getElem?_set] at k1
                  split at k1
                  · rename_i e; subst e; simp [] at k1; exact absurd k1.symm k2
                  · exact ⟨o, k1, k2⟩
                rw [hset]
              · refine ⟨fun m M e => by simpa using g3.dom m M e, fun m M o e hmo => ?_, fun m m' M M' e e' hne l1 l2 hb => g3.sep m m' M M' e e' hne (dead' l1) (dead' l2) hb⟩
                rw [List.getElem?_set] at hmo
                split at hmo
                · rename_i e'; subst e'; simp [] at hmo; subst hmo; trivial
                · exact g3.obj m M o e hmo
              · refine ⟨g4.old, by simp, g4.os, g4.tape, g4.out, g4.size, g4.keep, ?_, g4.fresh⟩
                rintro b ⟨m, M, e, k1, k2, k3⟩
                exact g4.own b ⟨m, M, e, k1, k2, dead' k3⟩
  · cases h

end
end Go.Eng
