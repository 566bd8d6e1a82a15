/- The abstract machine, part 5: structs, slices, literals in the model. No conditions. -/
import Derived.Test.YtlmbobbefgcolaaEng4
namespace Go.Eng
open Go

section
variable {P : Program} {ρ : Ren} {w : World}

theorem add_none (b o n : Nat) : (⟨b, o, none⟩ : Addr).add n = ⟨b, o + n, none⟩ := by
  unfold Addr.add; split <;> simp_all

theorem info_of_size {t : TypeId} {sz : Nat} (h : tsize P t = some sz) : ∃ i, P.info? t = some i ∧ i.size = sz := by
  cases hi : P.info? t with
  | none => simp [tsize, hi] at h
  | some i => exact ⟨i, rfl, by simpa [tsize, hi] using h⟩

theorem run_sizeOf {t : TypeId} {sz : Nat} (h : tsize P t = some sz) (w : World) : (sizeOf t).run P w = .ok sz w := by
  obtain ⟨i, hi, hs⟩ := info_of_size h
  simp [sizeOf, typeInfo, hi, hs]

theorem run_isAgg {t : TypeId} {ag : Bool} (h : tagg P t = some ag) (w : World) : (isAgg t).run P w = .ok ag w := by
  unfold tagg at h
  split at h
  · rename_i hu; simp at h; subst h; simp [isAgg, run_underlying hu]
  · rename_i hu; simp at h; subst h; simp [isAgg, run_underlying hu]
  · rename_i d h1 h2 hu
    simp at h; subst h
    simp only [isAgg, Sem.run_bind, run_underlying hu, Result.andThen_ok]
    rfl
  · cases h

theorem fieldOf_some {s : TypeId} {f : Nat} {fd : Field} (h : fieldOf P s f = some fd) : ∃ fs, P.underlying s = some (.struct fs) ∧ fs[f]? = some fd := by
  unfold fieldOf at h
  split at h
  · rename_i fs hu; exact ⟨fs, hu, h⟩
  · cases h

theorem ok_field {t : TypeId} {f : Nat} {fd : Field} {sz : Nat} {ag : Bool} {l : List AV} {v : AV} {cx : Value} (hf : fieldOf P t f = some fd) (hs : tsize P fd.type = some sz) (ha : tagg P fd.type = some ag)
    (hx : VR ρ (.agg l) cx) (h : partA l fd.offset sz ag = some v) : ∃ cv, (Instr.field t cx f).run P w = .ok cv w ∧ VR ρ v cv := by
  obtain ⟨fs, hu, hfs⟩ := fieldOf_some hf
  have hx' := hx
  cases hx
  rename_i vs _ _ _
  obtain ⟨h1, h2⟩ := VR.agg_iff.1 hx'
  obtain ⟨cv, hr, hv⟩ := run_part (P := P) (w := w) fd.type vs fd.offset sz ag l hs ha h h1 h2
  exact ⟨cv, by simp [Instr.field, run_underlying hu, hfs, asAgg, hr], hv⟩

theorem ok_aidx {t e : TypeId} {n sz : Nat} {ag : Bool} {l : List AV} {v : AV} {k : IntKind} {j : Int} {cx ci : Value} (hu : P.underlying t = some (.array n e)) (hs : tsize P e = some sz) (ha : tagg P e = some ag)
    (hx : VR ρ (.agg l) cx) (hi : VR ρ (.int k j) ci) (hj : 0 ≤ j ∧ j < n) (h : partA l (j.toNat * sz) sz ag = some v) : ∃ cv, (Instr.index t cx ci).run P w = .ok cv w ∧ VR ρ v cv := by
  have hx' := hx
  cases hx; cases hi
  rename_i vs _ _ _
  obtain ⟨h1, h2⟩ := VR.agg_iff.1 hx'
  obtain ⟨cv, hr, hv⟩ := run_part (P := P) (w := w) e vs (j.toNat * sz) sz ag l hs ha h h1 h2
  exact ⟨cv, by simp [Instr.index, asIntOf, run_underlying hu, hj, run_sizeOf hs, hr], hv⟩

theorem selem_some {t e : TypeId} (h : selem P t = some e) : P.underlying t = some (.slice e) := by
  unfold selem at h
  split at h
  · rename_i hu; cases h; exact hu
  · cases h

theorem ok_idx {t e : TypeId} {sz es n off len : Nat} {full : Bool} {k : IntKind} {j : Int} {cx ci : Value} (ht : selem P t = some e) (hs : tsize P e = some sz)
    (hx : VR ρ (.sl es n off len full) cx) (hi : VR ρ (.int k j) ci) (hj : 0 ≤ j ∧ j < len) :
    ∃ cv, (Instr.indexAt t cx ci).run P w = .ok cv w ∧ VR ρ (.ptr n (off + j.toNat * sz)) cv := by
  have hu := selem_some ht
  cases hi
  cases hx with
  | sl _ _ _ _ _ L a cap h1 h2 h3 h4 h5 =>
    have hc : cap ≠ 0 := by omega
    rcases h4 with rfl | h4
    case inr => exact absurd h4 hc
    refine ⟨.pointer (some ⟨L.b, L.o + (off + j.toNat * sz), none⟩), ?_, .ptr _ _ L h1⟩
    simp [Instr.indexAt, asIntOf, run_underlying hu, hj, run_sizeOf hs, add_none, Nat.add_assoc]

theorem ok_fad {s : TypeId} {f : Nat} {fd : Field} {sz : Nat} (hf : fieldOf P s f = some fd) (hs : tsize P fd.type = some sz) (h0 : sz ≠ 0) (b o : Nat) :
    (Instr.fieldAt s (.pointer (some ⟨b, o, none⟩)) f).run P w = .ok (.pointer (some ⟨b, o + fd.offset, none⟩)) w := by
  obtain ⟨fs, hu, hfs⟩ := fieldOf_some hf
  simp [Instr.fieldAt, run_underlying hu, hfs, Instr.sureAddr, fieldPlace, run_sizeOf hs, h0, add_none]

/-- Cells written one after another. -/
theorem setAll (off : Nat) : ∀ (vs : List Value) (k : Nat) (arr : Array Value), off + k + vs.length ≤ arr.size →
    ((vs.zipIdx k).foldl (fun cs p => cs.setIfInBounds (off + p.2) p.1) arr).toList = arr.toList.take (off + k) ++ vs ++ arr.toList.drop (off + k + vs.length)
  | [], k, arr, _ => by simp
  | v :: vs, k, arr, h => by
    have h' : off + k + (vs.length + 1) ≤ arr.size := by simpa using h
    simp only [List.zipIdx_cons, List.foldl_cons]
    rw [setAll off vs (k + 1) _ (by simp; omega)]
    have e := list_seg_step arr.toList (off + k) v vs (by simp; omega)
    simpa [Array.toList_setIfInBounds, Nat.add_assoc] using e

theorem LR.splice {l c : List AV} {ls cs : List Value} (h : LR ρ l ls) (k : LR ρ c cs) (off : Nat) : LR ρ (splice l off c) (ls.take off ++ cs ++ ls.drop (off + cs.length)) := by
  unfold Eng.splice
  rw [k.1]
  exact ((h.take off).append k).append (h.drop _)

theorem mem_splice {ls cs : List Value} {off n : Nat} {p : Value → Prop} (h1 : ∀ v ∈ ls, p v) (h2 : ∀ v ∈ cs, p v) : ∀ v ∈ ls.take off ++ cs ++ ls.drop n, p v := by
  intro v hv
  simp only [List.mem_append] at hv
  rcases hv with (hv | hv) | hv
  · exact h1 v (List.mem_of_mem_take hv)
  · exact h2 v hv
  · exact h1 v (List.mem_of_mem_drop hv)

theorem fill_ok (place : Nat → Option (Nat × Nat)) : ∀ (ps : List (Nat × Value)) (as : List (Nat × Nat × AV)) (l l' : List AV) (cells : Array Value),
    as.length = ps.length → (∀ (i : Nat) p a, ps[i]? = some p → as[i]? = some a → place p.1 = some (a.1, a.2.1) ∧ VR ρ a.2.2 p.2) → LR ρ l cells.toList → (∀ v ∈ cells.toList, v.oneCell' = true) →
    fillA as l = some l' → ∃ cells', Instr.fill place cells ps = some cells' ∧ LR ρ l' cells'.toList ∧ ∀ v ∈ cells'.toList, v.oneCell' = true
  | [], [], l, l', cells, _, _, h1, h2, h => by simp [fillA] at h; subst h; exact ⟨cells, rfl, h1, h2⟩
  | [], _ :: _, _, _, _, h, _, _, _, _ => by simp at h
  | _ :: _, [], _, _, _, h, _, _, _, _ => by simp at h
  | (i, v) :: ps, (off, sz, x) :: as, l, l', cells, hlen, hrel, h1, h2, h => by
    obtain ⟨hp, hv⟩ := hrel 0 _ _ rfl rfl
    simp only [fillA] at h
    split at h
    case h_2 => cases h
    rename_i c hc
    split at h
    case isFalse => cases h
    rename_i hsz
    obtain ⟨hr, ho⟩ := hv.cells hc
    have hcl : v.cells.size = c.length := by simpa using hr.1.symm
    have hll : l.length = cells.size := by simpa using h1.1
    have hset := setAll off v.cells.toList 0 cells (by simp; omega)
    have e : (v.cells.zipIdx.foldl (fun cs (c, j) => cs.setIfInBounds (off + j) c) cells).toList = cells.toList.take off ++ v.cells.toList ++ cells.toList.drop (off + v.cells.toList.length) := by
      rw [← Array.foldl_toList, Array.toList_zipIdx]
      simpa using hset
    obtain ⟨cells', hf, hl', ho'⟩ := fill_ok place ps as _ l' (v.cells.zipIdx.foldl (fun cs (c, j) => cs.setIfInBounds (off + j) c) cells) (by simpa using hlen)
      (fun j p a hp ha => hrel (j + 1) p a (by simpa using hp) (by simpa using ha)) (by rw [e]; exact h1.splice hr off) (by rw [e]; exact mem_splice h2 ho) h
    refine ⟨cells', ?_, hl', ho'⟩
    simp only [Instr.fill, hp]
    rw [if_neg (by simp; omega)]
    exact hf

theorem ezero_some {e : TypeId} {z : List AV} (h : ezero P e = some z) : ∃ i v, P.info? e = some i ∧ i.zero = some v ∧ i.size = z.length ∧ 0 < z.length ∧ i.bytes ≤ 65536 ∧ v.cells.size = z.length ∧ ∀ ρ, LR ρ z v.cells.toList ∧ ∀ u ∈ v.cells.toList, u.oneCell' = true := by
  unfold ezero at h
  split at h
  case h_2 => cases h
  rename_i i hi
  split at h
  case h_2 => cases h
  rename_i l hl
  split at h
  case isFalse => cases h
  rename_i hc
  cases h
  cases hz : i.zero with
  | none => simp [hz] at hl
  | some v =>
    simp only [hz, Option.bind_some] at hl
    cases hx : trV v with
    | none => simp [hx] at hl
    | some x =>
      simp only [hx, Option.bind_some] at hl
      have key : ∀ ρ, LR ρ z v.cells.toList ∧ ∀ u ∈ v.cells.toList, u.oneCell' = true := fun ρ => (trV_ok (ρ := ρ) hx).cells hl
      refine ⟨i, v, hi, hz, hc.1.symm, by omega, hc.2.2, ?_, key⟩
      have := (key (fun _ => none)).1.1
      simpa using this.symm

theorem repl_length (z : List AV) : ∀ n, (repl z n).length = n * z.length
  | 0 => by simp [repl]
  | n + 1 => by simp [repl, repl_length z n, Nat.add_mul]; omega

theorem repl_get (z : List AV) (hz : 0 < z.length) : ∀ (n i : Nat), i < n * z.length → (repl z n)[i]? = z[i % z.length]?
  | 0, i, h => by simp at h
  | n + 1, i, h => by
    simp only [repl]
    by_cases hi : i < z.length
    · rw [List.getElem?_append_left hi, Nat.mod_eq_of_lt hi]
    · rw [List.getElem?_append_right (by omega), repl_get z hz n _ (by rw [Nat.add_mul] at h; omega), Nat.mod_eq_sub_mod (Nat.not_lt.1 hi)]

theorem repl_made {z : List AV} {v : Value} (hz : 0 < z.length) (hs : v.cells.size = z.length) (h : LR ρ z v.cells.toList ∧ ∀ u ∈ v.cells.toList, u.oneCell' = true) (n : Nat) :
    LR ρ (repl z n) (madeCells v.cells (n * z.length)).toList ∧ ∀ u ∈ (madeCells v.cells (n * z.length)).toList, u.oneCell' = true := by
  have get : ∀ i, i < n * z.length → (madeCells v.cells (n * z.length)).toList[i]? = some (v.cells[i % z.length]'(by rw [hs]; exact Nat.mod_lt _ hz)) := by
    intro i hi
    have hm : i % z.length < v.cells.size := by rw [hs]; exact Nat.mod_lt _ hz
    simp [madeCells, hi, hs]
    exact getElem!_pos v.cells (i % z.length) hm
  refine ⟨⟨by simp [repl_length, size_madeCells], fun i x u hx hu => ?_⟩, fun u hu => ?_⟩
  · have hi : i < n * z.length := by have := (List.getElem?_eq_some_iff.1 hx).1; rwa [repl_length] at this
    rw [repl_get z hz n i hi] at hx
    rw [get i hi] at hu
    cases hu
    exact h.1.2 (i % z.length) x _ hx (by simp [hs, Nat.mod_lt _ hz])
  · obtain ⟨i, hi, he⟩ := List.getElem_of_mem hu
    have hi' : i < n * z.length := by simpa [size_madeCells] using hi
    have := get i hi'
    rw [List.getElem?_eq_getElem hi, he] at this
    cases this
    exact h.2 _ (by simp)

end
end Go.Eng
