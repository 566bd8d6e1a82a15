/- The abstract machine, part 8: copy, clear, slicing, maps. No conditions. -/
import Derived.Test.YtlmbobbefgcolaaEng7
namespace Go.Eng
open Go

section
variable {P : Program} {ρ : Ren} {H : AHeap} {w : World}

theorem write_slice (hs : Sim ρ H w) {n : Nat} {L : Loc} {l c : List AV} {cs : List Value} {off : Nat} {a0 : Addr} (hn : ρ n = some L) (hl : H[n]? = some (.cells true l)) (hc : off + c.length ≤ l.length) (hr : LR ρ c cs) (ho : ∀ v ∈ cs, v.oneCell' = true)
    (ha : a0 = ⟨L.b, L.o + off, none⟩ ∨ c.length = 0) :
    ∃ w', (storeCells a0 cs).run P w = .ok () w' ∧ Sim ρ (H.set n (.cells true (splice l off c))) w' ∧ Step ρ H w ρ (H.set n (.cells true (splice l off c))) w' := by
  rcases ha with ha | ha
  · subst ha; exact write_row hs hn hl hc hr ho
  · obtain ⟨w', h1, h2, h3⟩ := write_row (P := P) hs hn hl hc hr ho
    have hz : cs = [] := List.eq_nil_of_length_eq_zero (by rw [← hr.1]; exact ha)
    subst hz
    simp [storeCells] at h1
    subst h1
    exact ⟨w, by simp [storeCells], h2, h3⟩

theorem slCells_take (hs : Sim ρ H w) {es k : Nat} {Y : AV} {new : List AV} {cy : Value} (hy : VR ρ Y cy) (h : slCells es H Y = some (k, new)) (m : Nat) (hm : m ≤ k) :
    ∃ (a : Option Addr) (cap : Nat) (vs : List Value), cy = .slice a k cap ∧ LR ρ (new.take (m * es)) vs ∧ vs.length = m * es ∧ (∀ v ∈ vs, v.oneCell' = true) ∧ (Builtin.firstCells es m cy).run P w = .ok vs.toArray w := by
  obtain ⟨a, cap, vs, rfl, hnone, hr, hvl, ho, hc⟩ := slCells_ok hs hy h
  have hmul : m * es ≤ k * es := Nat.mul_le_mul_right _ hm
  refine ⟨a, cap, vs.take (m * es), rfl, hr.take _, by rw [List.length_take]; omega, fun v hv => ho v (List.mem_of_mem_take hv), ?_⟩
  cases a with
  | none =>
    have := (hnone rfl).1
    subst this
    have : m = 0 := by omega
    subst this
    simp [Builtin.firstCells]
  | some a =>
    refine run_firstCells_some (P := P) w es m a k cap _ (by rw [List.length_take]; omega) (fun j v hv => ?_)
    rw [List.getElem?_take] at hv
    split at hv
    · exact hc a rfl j v hv
    · cases hv

theorem ok_cpy (hs : Sim ρ H w) {t e ty : TypeId} {z : List AV} {X Y V : AV} {H' : AHeap} {cx cy : Value} (ht : selem P t = some e) (hz : ezero P e = some z) (hx : VR ρ X cx) (hy : VR ρ Y cy) (S : List AV) (ox oy : Opd) (hX : rd S ox = X) (hY : rd S oy = Y)
    (h : hval (.cpy z.length ox oy) S H = some (V, H')) :
    ∃ v w', (Builtin.copy_ #[t, t] ty #[cx, cy]).run P w = .ok v w' ∧ VR ρ V v ∧ Sim ρ H' w' ∧ Step ρ H w ρ H' w' := by
  obtain ⟨i, zv, hi, hzv, hsz, hpos, hby, hvs, hcells⟩ := ezero_some hz
  have hu := selem_some ht
  simp only [hval, hX, hY] at h
  split at h
  · rename_i k hk
    cases h
    cases hx
    obtain ⟨a, cap, vs, rfl, hr, hvl, ho, hf⟩ := slCells_take (P := P) hs hy hk 0 (Nat.zero_le _)
    have : vs = [] := List.eq_nil_of_length_eq_zero (by simpa using hvl)
    subst this
    refine ⟨.int .i64 0, w, ?_, .int _ _, hs, Step.refl _ _ _ hs⟩
    simp [Builtin.copy_, run_underlying hu, Builtin.lenOf, sizeOf, typeInfo, hi, hsz, hf, goInt]
  · rename_i es' n off len full k new hk
    split at h
    case isFalse => cases h
    rename_i he
    subst he
    split at h
    case h_2 => cases h
    rename_i l hl
    split at h
    case isFalse => cases h
    rename_i hle
    cases h
    cases hx with
    | sl _ _ _ _ _ L a0 cap0 h1 h2 h3 h4 h5 =>
      obtain ⟨a, cap, vs, rfl, hr, hvl, ho, hf⟩ := slCells_take (P := P) hs hy hk (min k len) (Nat.min_le_left _ _)
      have hmul : min k len * z.length ≤ len * z.length := Nat.mul_le_mul_right _ (Nat.min_le_right _ _)
      have hcl := hr.1
      obtain ⟨w', hrun, hs', st⟩ := write_slice (P := P) hs h1 hl (off := off) (a0 := a0) (by omega) hr ho (by
        rcases h4 with h4 | h4
        · exact .inl h4
        · right
          have : len = 0 := by omega
          subst this
          simp)
      refine ⟨_, w', ?_, .int _ _, hs', st⟩
      have hmin : Nat.min k len = min k len := rfl
      simp [Builtin.copy_, run_underlying hu, Builtin.lenOf, sizeOf, typeInfo, hi, hsz, hmin, hf, hrun, goInt]
  · cases h

theorem ok_clr (hs : Sim ρ H w) {t e ty : TypeId} {z : List AV} {X V : AV} {H' : AHeap} {cx : Value} (ht : selem P t = some e) (hz : ezero P e = some z) (hx : VR ρ X cx) (S : List AV) (ox : Opd) (hX : rd S ox = X)
    (h : hval (.clr z.length z ox) S H = some (V, H')) :
    ∃ v w', (Builtin.clear_ #[t] ty #[cx]).run P w = .ok v w' ∧ VR ρ V v ∧ Sim ρ H' w' ∧ Step ρ H w ρ H' w' := by
  obtain ⟨i, zv, hi, hzv, hsz, hpos, hby, hvs, hcells⟩ := ezero_some hz
  have hu := selem_some ht
  simp only [hval, hX] at h
  split at h
  · cases h
    cases hx
    exact ⟨undef, w, by simp [Builtin.clear_, run_underlying hu, undef], undef_ok, hs, Step.refl _ _ _ hs⟩
  · rename_i es' n off len full
    split at h
    · rename_i h0
      cases h
      subst h0
      cases hx with
      | sl _ _ _ _ _ L a0 cap0 h1 h2 h3 h4 h5 =>
        exact ⟨undef, w, by simp [Builtin.clear_, run_underlying hu, undef], undef_ok, hs, Step.refl _ _ _ hs⟩
    · rename_i h0
      split at h
      case isFalse => cases h
      rename_i he
      subst he
      split at h
      case h_2 => cases h
      rename_i l hl
      split at h
      case isFalse => cases h
      rename_i hle
      cases h
      cases hx with
      | sl _ _ _ _ _ L a0 cap0 h1 h2 h3 h4 h5 =>
        obtain ⟨hlr, hone⟩ := repl_made hpos hvs (hcells ρ) len
        have hzc : Builtin.zeroCells zv.cells len = madeCells zv.cells (len * z.length) := by simp [Builtin.zeroCells, madeCells, hvs]
        rw [← hzc] at hlr hone
        obtain ⟨w', hrun, hs', st⟩ := write_slice (P := P) hs h1 hl (off := off) (a0 := a0) (by rw [repl_length]; exact hle) hlr hone (.inl (h4.resolve_right (by omega)))
        refine ⟨_, w', ?_, undef_ok, hs', st⟩
        simp only [Builtin.clear_]
        simp only [List.getElem?_toArray, List.getElem?_cons_zero, Sem.run_bind, run_underlying hu, Result.andThen_ok]
        cases len with
        | zero => exact absurd rfl h0
        | succ len =>
          simp [zeroValue, typeInfo, hi, hzv, hrun, undef]
  · cases h

theorem bnd_some {x : Option AV} {y d : Nat} {r : Nat} (h : bnd x y d = some r) : (x = none ∧ r = d) ∨ ∃ k i, x = some (.int k i) ∧ 0 ≤ i ∧ i ≤ y ∧ r = i.toNat := by
  unfold bnd at h
  split at h
  · cases h; exact .inl ⟨rfl, rfl⟩
  · rename_i k i
    split at h
    · rename_i hc; cases h; exact .inr ⟨k, i, rfl, hc.1, hc.2, rfl⟩
    · cases h
  · cases h

theorem run_bound (k : IntKind) (i : Int) (y : Nat) (code : BoundsCode) (h0 : 0 ≤ i) (h1 : i ≤ y) : (Instr.sliceBound (.int k i) y code).run P w = .ok i.toNat w := run_sliceBound w k i y code h0 h1

theorem ok_slc {t e : TypeId} {z : List AV} {X V : AV} {lo hi mx : Option AV} {clo chi cmx : Option Value} {cx : Value} (ht : selem P t = some e) (hz : ezero P e = some z) (hx : VR ρ X cx)
    (hlo : (lo = none ∧ clo = none) ∨ ∃ a c, lo = some a ∧ clo = some c ∧ VR ρ a c) (hhi : (hi = none ∧ chi = none) ∨ ∃ a c, hi = some a ∧ chi = some c ∧ VR ρ a c) (hmx : (mx = none ∧ cmx = none) ∨ ∃ a c, mx = some a ∧ cmx = some c ∧ VR ρ a c)
    (h : slcA z.length X lo hi mx = some V) : ∃ v, (Instr.sliceAt t cx clo chi cmx).run P w = .ok v w ∧ VR ρ V v := by
  obtain ⟨i, zv, hi', hzv, hsz, hpos, hby, hvs, hcells⟩ := ezero_some hz
  have hu := selem_some ht
  -- what a slice of (a, len, cap) with bounds l, h, m is
  have fin : ∀ (a : Option Addr) (len cap l h m : Nat), (Instr.sliceBounds true len cap clo chi cmx).run P w = .ok (l, h, m) w →
      (Instr.sliceAt t (.slice a len cap) clo chi cmx).run P w = .ok (.slice (if m = l then a else a.map (·.add (l * z.length))) (h - l) (m - l)) w := by
    intro a len cap l h m hb
    simp [Instr.sliceAt, Instr.slice, run_underlying hu, hb, sizeOf, typeInfo, hi', hsz]
  unfold slcA at h
  split at h
  · -- nil
    split at h
    case h_2 => cases h
    rename_i rh rl eh el
    cases h
    cases hx
    refine ⟨.slice none 0 0, ?_, .nilS⟩
    have b0 : ∀ {x : Option AV} {c : Option Value} {r : Nat}, ((x = none ∧ c = none) ∨ ∃ a v, x = some a ∧ c = some v ∧ VR ρ a v) → bnd x 0 0 = some r → c = none ∨ ∃ k, c = some (.int k 0) := by
      intro x c r hc hb
      rcases bnd_some hb with ⟨rfl, _⟩ | ⟨k, j, rfl, h0, h1, _⟩
      · rcases hc with hc | ⟨a, v, h, _⟩
        · exact .inl hc.2
        · cases h
      · rcases hc with ⟨h, _⟩ | ⟨a, v, h, rfl, hv⟩
        · cases h
        · cases h
          cases hv
          have : j = 0 := by omega
          subst this
          exact .inr ⟨k, rfl⟩
    have hcm : cmx = none := by
      rcases hmx with ⟨_, h⟩ | ⟨a, c, h, _⟩
      · exact h
      · cases h
    subst hcm
    have hb := fin none 0 0 0 0 0
    simp only [if_true, Nat.sub_self] at hb
    refine hb ?_
    rcases b0 hlo el with rfl | ⟨k1, rfl⟩ <;> rcases b0 hhi eh with rfl | ⟨k2, rfl⟩ <;> simp [Instr.sliceBounds, run_sliceBound]
  · -- a slice
    rename_i es' n off len full
    split at h
    case isTrue => cases h
    rename_i he
    have he' : es' = z.length := by simpa using he
    subst he'
    cases hx with
    | sl _ _ _ _ _ L a0 cap h1 h2 h3 h4 h5 =>
      -- the value that comes out
      have out : ∀ (l hh m : Nat) (fl : Bool), l ≤ hh → hh ≤ m → m ≤ cap → (fl = true → m = hh) → hh ≤ cap →
          VR ρ (.sl z.length n (off + l * z.length) (hh - l) fl) (.slice (if m = l then (some a0 : Option Addr) else (some a0).map (·.add (l * z.length))) (hh - l) (m - l)) := by
        intro l hh m fl hlh hhm hmc hfl _
        split
        · rename_i hml
          subst hml
          refine .sl _ _ _ _ _ L a0 _ h1 (by omega) (fun h => by have := hfl h; omega) (.inr (by omega)) (fun ho => .inl (by omega))
        · rename_i hml
          rcases h4 with rfl | h4
          case inr => omega
          simp only [Option.map_some, add_none]
          refine .sl _ _ _ _ _ L _ _ h1 (by omega) (fun h => by have := hfl h; omega) (.inl (by rw [Nat.add_assoc])) (fun ho => .inr ?_)
          · have := (h5 ho).resolve_left (by omega)
            have h6 : (l + (m - l)) * z.length ≤ cap * z.length := Nat.mul_le_mul_right _ (by omega)
            rw [Nat.add_mul] at h6
            omega
      have bv : ∀ {x : Option AV} {c : Option Value} {y d r : Nat} {code : BoundsCode}, ((x = none ∧ c = none) ∨ ∃ a v, x = some a ∧ c = some v ∧ VR ρ a v) → bnd x y d = some r →
          (c = none ∧ r = d) ∨ ∃ k i, c = some (.int k i) ∧ 0 ≤ i ∧ i ≤ y ∧ r = i.toNat := by
        intro x c y d r _ hc hb
        rcases bnd_some hb with ⟨rfl, hr⟩ | ⟨k, j, rfl, h0, h1, hr⟩
        · rcases hc with hc | ⟨a, v, h, _⟩
          · exact .inl ⟨hc.2, hr⟩
          · cases h
        · rcases hc with ⟨h, _⟩ | ⟨a, v, h, rfl, hv⟩
          · cases h
          · cases h
            cases hv
            exact .inr ⟨k, j, rfl, h0, h1, hr⟩
      split at h
      · -- no maximum
        have hcm : cmx = none := by
          rcases hmx with ⟨_, h⟩ | ⟨a, c, h, _⟩
          · exact h
          · cases h
        subst hcm
        split at h
        · -- to the end
          have hch : chi = none := by
            rcases hhi with ⟨_, h⟩ | ⟨a, c, h, _⟩
            · exact h
            · cases h
          subst hch
          simp only [Option.map_eq_some_iff] at h
          obtain ⟨l, hl, rfl⟩ := h
          have hlr : l ≤ len := by
            rcases bv (code := .index) hlo hl with ⟨_, rfl⟩ | ⟨k, j, _, h0, h1, rfl⟩ <;> omega
          refine ⟨_, fin _ len cap l len cap ?_, out l len cap full hlr h2 (Nat.le_refl _) h3 h2⟩
          rcases bv (code := .index) hlo hl with ⟨rfl, rfl⟩ | ⟨k, j, rfl, h0, h1, rfl⟩
          · simp [Instr.sliceBounds]
          · simp [Instr.sliceBounds, run_bound k j len _ h0 h1]
        · rename_i hv
          simp only [Option.bind_eq_some_iff, Option.map_eq_some_iff] at h
          obtain ⟨hh, hhe, l, hl, rfl⟩ := h
          rcases bv (code := .index) hhi hhe with ⟨hcn, _⟩ | ⟨k2, j2, rfl, g0, g1, rfl⟩
          · rcases hhi with ⟨h, _⟩ | ⟨a, c, _, hc, _⟩
            · cases h
            · rw [hcn] at hc; cases hc
          · have hlr : l ≤ j2.toNat := by
              rcases bv (code := .index) hlo hl with ⟨_, rfl⟩ | ⟨k, j, _, h0, h1, rfl⟩ <;> omega
            refine ⟨_, fin _ len cap l j2.toNat cap ?_, out l j2.toNat cap _ hlr (by omega) (Nat.le_refl _) (fun hf => ?_) (by omega)⟩
            · rcases bv (code := .index) hlo hl with ⟨rfl, rfl⟩ | ⟨k, j, rfl, h0, h1, rfl⟩
              · simp [Instr.sliceBounds, run_bound k2 j2 cap _ g0 (by omega)]
              · simp [Instr.sliceBounds, run_bound k2 j2 cap _ g0 (by omega), run_bound k j j2.toNat _ h0 h1]
            · simp at hf
              have := h3 hf.1
              omega
      · rename_i mv
        simp only [Option.bind_eq_some_iff] at h
        obtain ⟨m, hm, h⟩ := h
        split at h
        · cases h
        rename_i hv
        simp only [Option.bind_eq_some_iff, Option.map_eq_some_iff] at h
        obtain ⟨hh, hhe, l, hl, rfl⟩ := h
        rcases bv (code := .index) hmx hm with ⟨rfl, _⟩ | ⟨k3, j3, rfl, m0, m1, rfl⟩
        · rcases hmx with ⟨h, _⟩ | ⟨a, c, _, h, _⟩ <;> cases h
        rcases bv (code := .index) hhi hhe with ⟨rfl, _⟩ | ⟨k2, j2, rfl, g0, g1, rfl⟩
        · rcases hhi with ⟨h, _⟩ | ⟨a, c, _, h, _⟩ <;> cases h
        have hlr : l ≤ j2.toNat := by
          rcases bv (code := .index) hlo hl with ⟨_, rfl⟩ | ⟨k, j, _, h0, h1, rfl⟩ <;> omega
        refine ⟨_, fin _ len cap l j2.toNat j3.toNat ?_, out l j2.toNat j3.toNat _ hlr (by omega) (by omega) (fun hf => ?_) (by omega)⟩
        · rcases bv (code := .index) hlo hl with ⟨rfl, rfl⟩ | ⟨k, j, rfl, h0, h1, rfl⟩
          · simp [Instr.sliceBounds, run_bound k3 j3 cap _ m0 (by omega), run_bound k2 j2 j3.toNat _ g0 (by omega)]
          · simp [Instr.sliceBounds, run_bound k3 j3 cap _ m0 (by omega), run_bound k2 j2 j3.toNat _ g0 (by omega), run_bound k j j2.toNat _ h0 (by omega)]
        · have : j2.toNat = j3.toNat := by simpa using hf
          omega
  · cases h

end
end Go.Eng
