/- The abstract machine, part 20: the arguments of a law. No conditions. -/
import Derived.Test.YtlmbobbefgcolaaEng19
import Derived.ProofKit
namespace Go.Eng
open Go Go.ChangeShapes Go.WideShapes Go.ChangeAt Go.RowKit

/-- What a cell of an argument is. -/
inductive CK where
  | int (k : IntKind)
  | bool
  | sl (es : Nat) (row : List CK)

def Field.cks (g : TypeId → Option (List CK)) (cells : TypeId → Nat) : List Field → Nat → Option (List CK)
  | [], _ => some []
  | f :: fs, pos =>
    match g f.type with
    | none => none
    | some k => if f.offset = pos ∧ k.length = cells f.type then (Field.cks g cells fs (pos + k.length)).map (k ++ ·) else none

def ckOf (P : Program) : Nat → TypeId → Option (List CK)
  | 0, _ => none
  | d + 1, t =>
    match P.underlying t with
    | some .bool => some [.bool]
    | some (.int k) => some [.int k]
    | some (.slice e) =>
      match ckOf P d e with
      | some row => if row.length = P.cellsOf e ∧ 0 < row.length then some [.sl row.length row] else none
      | none => none
    | some (.struct fs) =>
      match Field.cks (ckOf P d) P.cellsOf fs.toList 0 with
      | some ks => if ks.length = P.cellsOf t then some ks else none
      | none => none
    | _ => none

/-- A cell of memory that may be read. -/
inductive CellOK (w : World) : CK → Value → Prop where
  | int (k : IntKind) (n : Int) : (Lit.int k n).wf = true → CellOK w (.int k) (.int k n)
  | bool (b : Bool) : CellOK w .bool (.bool b)
  | nil (es : Nat) (row : List CK) : CellOK w (.sl es row) (.slice none 0 0)
  | sl (es : Nat) (row : List CK) (a : Addr) (len cap : Nat) (f : Nat → List Value) : len ≤ cap → cap ≤ maxLen → (cap ≠ 0 → a.spot = none ∧ ∃ cs T fz, w.heap[a.block]? = some (Obj.cells cs T fz)) → es = row.length →
      (∀ i, i < len → w.cells? 0 (a.add (i * es)) es = some (f i)) → (∀ (i j : Nat) (c : Value) (k : CK), i < len → (f i)[j]? = some c → row[j]? = some k → CellOK w k c) →
      CellOK w (.sl es row) (.slice (some a) len cap)

def RowOK (w : World) (ks : List CK) (cs : List Value) : Prop := cs.length = ks.length ∧ ∀ (i : Nat) (k : CK) (c : Value), ks[i]? = some k → cs[i]? = some c → CellOK w k c

theorem RowOK.one {w : World} {k : CK} {c : Value} (h : CellOK w k c) : RowOK w [k] [c] := by
  refine ⟨rfl, fun i k' c' hk hc => ?_⟩
  cases i with
  | zero => simp at hk hc; subst hk; subst hc; exact h
  | succ i => simp at hk

theorem RowOK.append {w : World} {k1 k2 : List CK} {c1 c2 : List Value} (h1 : RowOK w k1 c1) (h2 : RowOK w k2 c2) : RowOK w (k1 ++ k2) (c1 ++ c2) := by
  refine ⟨by simp [h1.1, h2.1], fun i k c hk hc => ?_⟩
  rw [List.getElem?_append] at hk hc
  by_cases hi : i < k1.length
  · rw [if_pos hi] at hk; rw [if_pos (by rw [h1.1]; exact hi)] at hc
    exact h1.2 i k c hk hc
  · rw [if_neg hi] at hk; rw [if_neg (by rw [h1.1]; exact hi)] at hc
    rw [h1.1] at hc
    exact h2.2 _ k c hk hc

section
variable {H : Type} {enc : TypeId × Value → H} {P : Program} {w : World}

theorem fields_ok {g : TypeId → Option (List CK)} {cells : TypeId → Nat} {F : Field → Option (DataW H × List MemPlace)} {cs : List Value}
    (hg : ∀ (f : Field) (ks : List CK) (x : DataW H × List MemPlace), g f.type = some ks → F f = some x → RowOK w ks ((cs.drop f.offset).take (cells f.type))) :
    ∀ (fs : List Field) (pos : Nat) (ks : List CK) (ys : List (DataW H × List MemPlace)), Field.cks g cells fs pos = some ks → fs.mapM F = some ys → RowOK w ks ((cs.drop pos).take ks.length) := by
  intro fs
  induction fs with
  | nil => intro pos ks ys hk _; simp [Field.cks] at hk; subst hk; exact ⟨by simp, by simp⟩
  | cons f fs ih =>
    intro pos ks ys hk hm
    simp only [Field.cks] at hk
    split at hk
    · cases hk
    rename_i k hgk
    split at hk
    case isFalse => cases hk
    rename_i hc
    simp only [Option.map_eq_some_iff] at hk
    obtain ⟨ks', hks', rfl⟩ := hk
    rw [List.mapM_cons] at hm
    cases hF : F f with
    | none => rw [hF] at hm; cases hm
    | some x =>
      rw [hF] at hm
      cases hms : fs.mapM F with
      | none => rw [hms] at hm; cases hm
      | some ys' =>
        have h1 := hg f k x hgk hF
        have h2 := ih _ _ _ hks' hms
        rw [hc.1, ← hc.2] at h1
        have e : (cs.drop pos).take (k ++ ks').length = (cs.drop pos).take k.length ++ (cs.drop (pos + k.length)).take ks'.length := by
          rw [List.length_append, List.take_add, List.drop_drop]
        rw [e]
        exact h1.append h2

theorem trod_ok : ∀ (d : Nat) (t : TypeId) (ks : List CK) (fuel : Nat) (cs : List Value) (x : DataW H × List MemPlace), ckOf P d t = some ks →
    DataW.trod enc P w 0 (fun _ => true) true fuel t cs = some x → RowOK w ks cs := by
  intro d
  induction d with
  | zero => intro t ks fuel cs x h; simp [ckOf] at h
  | succ d ih =>
    intro t ks fuel cs x hk h
    simp only [ckOf] at hk
    split at hk
    · rename_i hu
      cases hk
      cases fuel with
      | zero => simp [DataW.trod] at h
      | succ fuel =>
        unfold DataW.trod at h
        rw [hu] at h
        simp only at h
        split at h <;> first | (rename_i he; cases he) | cases h
        all_goals first | exact RowOK.one (.bool _) | skip
    · rename_i k hu
      cases hk
      cases fuel with
      | zero => simp [DataW.trod] at h
      | succ fuel =>
        unfold DataW.trod at h
        rw [hu] at h
        simp only at h
        split at h <;> first | (rename_i he; cases he) | cases h
        all_goals first
          | (split at h
             · rename_i hc; obtain ⟨rfl, hw⟩ := hc; exact RowOK.one (.int _ _ hw)
             · cases h)
          | skip
    · rename_i e hu
      split at hk
      case h_2 => cases hk
      rename_i row hrow
      split at hk
      case isFalse => cases hk
      rename_i hc
      cases hk
      rcases DataW.trod_slice hu h with ⟨rfl, _⟩ | ⟨a, len, cap, elems, rest, n, _, rfl, _, _, hl, hm, hlen, hel, hsp, _⟩
      · exact RowOK.one (.nil _ _)
      · have cell : ∀ i, i < len → ∃ cs', w.cells? 0 (a.add (i * row.length)) row.length = some cs' ∧ RowOK w row cs' := by
          intro i hi
          have h1 := hel i hi
          rw [← hc.1] at h1
          have h2 : elems[i]? = some elems[i] := by simp [hlen, hi]
          rw [h2] at h1
          cases hcs : w.cells? 0 (a.add (i * row.length)) row.length with
          | none => rw [hcs] at h1; cases h1
          | some cs' =>
            rw [hcs] at h1
            exact ⟨cs', rfl, ih _ _ _ _ _ hrow h1⟩
        have first : ∀ (b : Nat) {m : Nat} {cs' : List Value}, b = 0 → 0 < m → w.cells? 0 (a.add b) m = some cs' → a.spot = none ∧ ∃ cs T fz, w.heap[a.block]? = some (Obj.cells cs T fz) := by
          intro b m cs' hb0 hm0 hcs
          subst hb0
          unfold World.cells? at hcs
          rw [if_pos (Nat.zero_le _)] at hcs
          have : ∃ v, w.cell? ((a.add 0).add 0) = some v := by
            cases m with
            | zero => omega
            | succ m =>
              rw [List.range_succ_eq_map, List.mapM_cons] at hcs
              cases hv : w.cell? ((a.add 0).add 0) with
              | none => rw [hv] at hcs; cases hcs
              | some v => exact ⟨v, rfl⟩
          obtain ⟨v, hv⟩ := this
          refine ⟨by simpa [Addr.add] using World.cell?_spot hv, ?_⟩
          unfold World.cell? at hv
          split at hv
          · rename_i cs T fz h1
            exact ⟨cs, T, fz, by simpa [Addr.add] using h1⟩
          · cases hv
        refine RowOK.one (.sl row.length row a len cap (fun i => (w.cells? 0 (a.add (i * row.length)) row.length).getD []) hl hm ?_ rfl ?_ ?_)
        · intro hcap
          by_cases h0 : 0 < len
          · obtain ⟨cs', h1, _⟩ := cell 0 h0
            exact first _ (by simp) hc.2 h1
          · have hl0 : len = 0 := by omega
            subst hl0
            have h1 := (hsp rfl).2 0 (by omega)
            rw [← hc.1] at h1
            have hr := (hsp rfl).1
            have h2 : rest[0]? = some rest[0] := by simp
            rw [h2] at h1
            cases hcs : w.cells? 0 (a.add ((0 + 0) * row.length)) row.length with
            | none => rw [hcs] at h1; cases h1
            | some cs' => exact first _ (by simp) hc.2 hcs
        · intro i hi
          obtain ⟨cs', h1, _⟩ := cell i hi
          simp [h1]
        · intro i j c k hi hc' hk'
          obtain ⟨cs', h1, h2⟩ := cell i hi
          simp [h1] at hc'
          exact h2.2 j k c hk' hc'
    · rename_i fs hu
      split at hk
      case h_2 => cases hk
      rename_i ks' hks
      split at hk
      case isFalse => cases hk
      rename_i hc
      cases hk
      cases fuel with
      | zero => simp [DataW.trod] at h
      | succ fuel =>
        unfold DataW.trod at h
        rw [hu] at h
        simp only at h
        split at h
        case isFalse => cases h
        rename_i hlen
        simp only [Option.map_eq_some_iff] at h
        obtain ⟨ys, hys, rfl⟩ := h
        have := fields_ok (w := w) (cs := cs) (g := ckOf P d) (cells := P.cellsOf) (fun f ks x h1 h2 => ih _ _ _ _ _ h1 h2) fs.toList 0 ks ys hks hys
        rw [List.drop_zero, hc, ← hlen, List.take_length] at this
        exact this
    · cases hk

end

/-- A cell of an argument, abstractly. -/
inductive AOK (H : AHeap) : CK → AV → Prop where
  | int (k : IntKind) (n : Int) : (Lit.int k n).wf = true → AOK H (.int k) (.int k n)
  | bool (b : Bool) : AOK H .bool (.bool b)
  | nil (es : Nat) (row : List CK) : AOK H (.sl es row) .nilS
  | sl (es : Nat) (row : List CK) (n len : Nat) (l : List AV) : len ≤ maxLen → H[n]? = some (.cells false l) → l.length = len * es → es = row.length →
      (∀ (i j : Nat) (c : AV) (k : CK), i < len → j < es → l[i * es + j]? = some c → row[j]? = some k → AOK H k c) → AOK H (.sl es row) (.sl es n 0 len false)

theorem AOK.mono {H H' : AHeap} (hp : H <+: H') {k : CK} {v : AV} (h : AOK H k v) : AOK H' k v := by
  induction h with
  | int k n h => exact .int k n h
  | bool b => exact .bool b
  | nil es row => exact .nil es row
  | sl es row n len l h1 h2 h3 h4 _ ih => exact .sl es row n len l h1 (pre_get hp h2) h3 h4 ih

def RO (ρ : Ren) : Prop := ∀ n L, ρ n = some L → L.own = false

/-- An object that can only be read. -/
theorem new_ro {ρ : Ren} {H : AHeap} {w : World} (hs : Sim ρ H w) (hr : RO ρ) {b o : Nat} {l : List AV} {cs : Array Value} {T : TypeId} {fz : Nat × Nat} (hb : w.heap[b]? = some (.cells cs T fz)) (hl : LR ρ l ((cs.toList.drop o).take l.length)) (ho : ∀ v ∈ (cs.toList.drop o).take l.length, v.oneCell' = true) :
    Sim (ρ.put H.length ⟨b, o, false, 0⟩) (H ++ [.cells false l]) w ∧ RO (ρ.put H.length ⟨b, o, false, 0⟩) ∧ Sub ρ (ρ.put H.length ⟨b, o, false, 0⟩) := by
  have hput : ρ H.length = none := hs.none_of_len
  have hsub : Sub ρ (ρ.put H.length ⟨b, o, false, 0⟩) := Sub.put hput
  have cs' : ∀ {m M}, (ρ.put H.length ⟨b, o, false, 0⟩) m = some M → (m = H.length ∧ M = ⟨b, o, false, 0⟩) ∨ (ρ m = some M ∧ m < H.length) := by
    intro m M e
    unfold Ren.put at e
    split at e
    · rename_i hm; cases e; exact .inl ⟨hm, rfl⟩
    · exact .inr ⟨e, (hs.dom m M e).1⟩
  have hro : RO (ρ.put H.length ⟨b, o, false, 0⟩) := by
    intro m M e
    rcases cs' e with ⟨rfl, rfl⟩ | ⟨e', _⟩
    · rfl
    · exact hr m M e'
  refine ⟨⟨?_, ?_, ?_⟩, hro, hsub⟩
  · intro m M e
    rcases cs' e with ⟨rfl, rfl⟩ | ⟨e', hm⟩
    · exact ⟨by simp, (Array.getElem?_eq_some_iff.1 hb).1⟩
    · exact ⟨by simp; omega, (hs.dom m M e').2⟩
  · intro m M ob e hob
    rcases cs' e with ⟨rfl, rfl⟩ | ⟨e', hm⟩
    · simp at hob
      subst hob
      show ObjR _ _ _ w.heap[b]?
      rw [hb]
      exact ⟨fun h => (by cases h), fun h => (by cases h), hl.mono hsub, ho⟩
    · rw [List.getElem?_append_left hm] at hob
      exact (hs.obj m M ob e' hob).mono hsub
  · intro m k M K em ek _ _ _ _
    exact ⟨hro m M em, hro k K ek⟩

/-- A list of things opened one after another. -/
theorem open_list {w : World} {ks : List CK} {cs : List Value} (hl : cs.length = ks.length)
    (h : ∀ (i : Nat) (k : CK) (c : Value), ks[i]? = some k → cs[i]? = some c → ∀ (ρ : Ren) (H : AHeap), Sim ρ H w → RO ρ → ∃ ρ' H' v, Sim ρ' H' w ∧ RO ρ' ∧ Sub ρ ρ' ∧ H <+: H' ∧ VR ρ' v c ∧ AOK H' k v) :
    ∀ (ρ : Ren) (H : AHeap), Sim ρ H w → RO ρ → ∃ ρ' H' vs, Sim ρ' H' w ∧ RO ρ' ∧ Sub ρ ρ' ∧ H <+: H' ∧ LR ρ' vs cs ∧ (∀ (i : Nat) (k : CK) (v : AV), ks[i]? = some k → vs[i]? = some v → AOK H' k v) := by
  induction ks generalizing cs with
  | nil =>
    intro ρ H hs hr
    have : cs = [] := List.eq_nil_of_length_eq_zero hl
    subst this
    exact ⟨ρ, H, [], hs, hr, Sub.refl _, List.prefix_refl _, LR.nil, by simp⟩
  | cons k ks ih =>
    intro ρ H hs hr
    cases cs with
    | nil => simp at hl
    | cons c cs =>
      obtain ⟨ρ1, H1, v, s1, r1, b1, p1, v1, a1⟩ := h 0 k c rfl rfl ρ H hs hr
      obtain ⟨ρ2, H2, vs, s2, r2, b2, p2, v2, a2⟩ := ih (cs := cs) (by simpa using hl) (fun i k c hk hc => h (i + 1) k c (by simpa using hk) (by simpa using hc)) ρ1 H1 s1 r1
      refine ⟨ρ2, H2, v :: vs, s2, r2, b1.trans b2, p1.trans p2, LR.cons (v1.mono b2) v2, fun i k' v' hk hv => ?_⟩
      cases i with
      | zero => simp at hk hv; subst hk; subst hv; exact a1.mono p2
      | succ i => exact a2 i k' v' (by simpa using hk) (by simpa using hv)

theorem flatMap_get {α β : Type} {f : α → List β} {es : Nat} : ∀ (xs : List α), (∀ x ∈ xs, (f x).length = es) → ∀ (i j : Nat) (x : α), xs[i]? = some x → j < es → (xs.flatMap f)[i * es + j]? = (f x)[j]?
  | [], _, i, j, x, h, _ => by simp at h
  | y :: ys, hl, i, j, x, h, hj => by
    have hy := hl y (by simp)
    rw [List.flatMap_cons]
    cases i with
    | zero =>
      simp at h; subst h
      rw [Nat.zero_mul, Nat.zero_add, List.getElem?_append_left (by omega)]
    | succ i =>
      rw [List.getElem?_append_right (by rw [hy, Nat.add_mul, Nat.one_mul]; omega), hy, show (i + 1) * es + j - es = i * es + j by rw [Nat.add_mul, Nat.one_mul]; omega]
      exact flatMap_get ys (fun z hz => hl z (by simp [hz])) i j x (by simpa using h) hj

theorem flatMap_len {α β : Type} {f : α → List β} {es : Nat} : ∀ (xs : List α), (∀ x ∈ xs, (f x).length = es) → (xs.flatMap f).length = xs.length * es
  | [], _ => by simp
  | y :: ys, hl => by
    rw [List.flatMap_cons, List.length_append, hl y (by simp), flatMap_len ys (fun z hz => hl z (by simp [hz])), List.length_cons, Nat.add_mul]; omega

theorem cells?_some {w : World} {a : Addr} {n : Nat} {cs : List Value} (h : w.cells? 0 a n = some cs) : cs.length = n ∧ ∀ j, j < n → w.cell? (a.add j) = cs[j]? := by
  unfold World.cells? at h
  rw [if_pos (Nat.zero_le _)] at h
  obtain ⟨h1, h2⟩ := mapM_some h
  refine ⟨by simpa using h1.symm, fun j hj => ?_⟩
  obtain ⟨y, h3, h4⟩ := h2 j j (by simp [hj])
  rw [h3, h4]

theorem CellOK.oneCell {w : World} {k : CK} {c : Value} (h : CellOK w k c) : c.oneCell' = true := by
  cases h <;> rfl

def Opens (w : World) (k : CK) (c : Value) : Prop :=
  ∀ (ρ : Ren) (H : AHeap), Sim ρ H w → RO ρ → ∃ ρ' H' v, Sim ρ' H' w ∧ RO ρ' ∧ Sub ρ ρ' ∧ H <+: H' ∧ VR ρ' v c ∧ AOK H' k v

theorem open_cell {w : World} (hne : ∃ (b : Nat) (cs : Array Value) (T : TypeId) (fz : Nat × Nat), w.heap[b]? = some (Obj.cells cs T fz)) {k : CK} {c : Value} (h : CellOK w k c) : Opens w k c := by
  induction h with
  | int k n h => intro ρ H hs hr; exact ⟨ρ, H, .int k n, hs, hr, Sub.refl _, List.prefix_refl _, .int _ _, .int _ _ h⟩
  | bool b => intro ρ H hs hr; exact ⟨ρ, H, .bool b, hs, hr, Sub.refl _, List.prefix_refl _, .bool _, .bool _⟩
  | nil es row => intro ρ H hs hr; exact ⟨ρ, H, .nilS, hs, hr, Sub.refl _, List.prefix_refl _, .nilS, .nil _ _⟩
  | sl es row a len cap f hlc hm hcap hes hcells hrow ih =>
    intro ρ H hs hr
    have hfl : ∀ i ∈ List.range len, (f i).length = es := fun i hi => (cells?_some (hcells i (by simpa using hi))).1
    have hrl : ∀ i ∈ List.range len, ((fun _ => row) i : List CK).length = es := fun i _ => hes.symm
    have hl1 := flatMap_len (f := f) (List.range len) hfl
    have hl2 := flatMap_len (f := fun _ => row) (List.range len) hrl
    have hes0 : ∀ p, p < len * es → 0 < es := fun p hp => Nat.pos_of_ne_zero (fun h => by subst h; simp at hp)
    have split : ∀ p, p < len * es → p / es < len ∧ p % es < es ∧ p / es * es + p % es = p := fun p hp => by
      have h0 := hes0 p hp
      exact ⟨(Nat.div_lt_iff_lt_mul h0).2 hp, Nat.mod_lt _ h0, Nat.div_add_mod' p es⟩
    have at1 : ∀ p, p < len * es → ((List.range len).flatMap f)[p]? = (f (p / es))[p % es]? := fun p hp => by
      obtain ⟨h1, h2, h3⟩ := split p hp
      have := flatMap_get (f := f) (List.range len) hfl (p / es) (p % es) (p / es) (by simp [h1]) h2
      rwa [h3] at this
    have at2 : ∀ p, p < len * es → ((List.range len).flatMap (fun _ => row))[p]? = row[p % es]? := fun p hp => by
      obtain ⟨h1, h2, h3⟩ := split p hp
      have := flatMap_get (f := fun _ => row) (List.range len) hrl (p / es) (p % es) (p / es) (by simp [h1]) h2
      rwa [h3] at this
    obtain ⟨ρ1, H1, vs, s1, r1, b1, p1, v1, a1⟩ := open_list (w := w) (ks := (List.range len).flatMap (fun _ => row)) (cs := (List.range len).flatMap f) (by rw [hl1, hl2]) (fun p k c hk hc => by
      have hp : p < len * es := by
        have := (List.getElem?_eq_some_iff.1 hc).1
        rw [hl1] at this; simpa using this
      rw [at1 p hp] at hc; rw [at2 p hp] at hk
      exact ih (p / es) (p % es) c k (split p hp).1 hc hk) ρ H hs hr
    have hvl : vs.length = len * es := by rw [v1.1, hl1]; simp
    have hone : ∀ v ∈ (List.range len).flatMap f, v.oneCell' = true := by
      intro v hv
      obtain ⟨p, hp, hpe⟩ := List.mem_iff_getElem.1 hv
      have hp' : p < len * es := by rw [hl1] at hp; simpa using hp
      have h1 : ((List.range len).flatMap f)[p]? = some v := by rw [List.getElem?_eq_getElem hp, hpe]
      have h2 := at1 p hp'
      rw [h1] at h2
      have h3 : row[p % es]? = some (row[p % es]'(by rw [← hes]; exact (split p hp').2.1)) := by simp [← hes, (split p hp').2.1]
      exact (hrow (p / es) (p % es) v _ (split p hp').1 h2.symm h3).oneCell
    have fin : ∀ (b o : Nat) (cs : Array Value) (T : TypeId) (fz : Nat × Nat), w.heap[b]? = some (.cells cs T fz) → (cs.toList.drop o).take (len * es) = (List.range len).flatMap f → (a = ⟨b, o, none⟩ ∨ cap = 0) →
        ∃ ρ' H' v, Sim ρ' H' w ∧ RO ρ' ∧ Sub ρ ρ' ∧ H <+: H' ∧ VR ρ' v (.slice (some a) len cap) ∧ AOK H' (.sl es row) v := by
      intro b o cs T fz hb hcs ha
      obtain ⟨s2, r2, b2⟩ := new_ro (b := b) (o := o) (l := vs) s1 r1 hb (by rw [hvl, hcs]; exact v1) (by rw [hvl, hcs]; exact hone)
      refine ⟨_, H1 ++ [.cells false vs], .sl es H1.length 0 len false, s2, r2, b1.trans b2, p1.trans (pre_app _ _), .sl _ _ _ _ _ ⟨b, o, false, 0⟩ a cap put_self hlc (fun h => by cases h) (by simpa using ha) (fun h => by cases h), .sl es row H1.length len vs (by omega) (by simp) hvl hes ?_⟩
      intro i j c k hi hj hc hk
      have hp : i * es + j < len * es := by
        have : i * es + es ≤ len * es := by rw [← Nat.succ_mul]; exact Nat.mul_le_mul_right _ hi
        omega
      have h2 := at2 _ hp
      rw [show (i * es + j) % es = j by rw [Nat.mul_comm, Nat.mul_add_mod]; exact Nat.mod_eq_of_lt hj, hk] at h2
      exact (a1 _ k c h2 hc).mono (pre_app _ _)
    by_cases hc0 : cap = 0
    · obtain ⟨b, cs, T, fz, hb⟩ := hne
      have : len = 0 := by omega
      subst this
      exact fin b 0 cs T fz hb (by simp) (.inr hc0)
    · obtain ⟨hsp, cs, T, fz, hb⟩ := hcap hc0
      obtain ⟨ab, ao, asp⟩ := a
      simp at hsp
      subst hsp
      have cell : ∀ p, p < len * es → cs[ao + p]? = ((List.range len).flatMap f)[p]? := by
        intro p hp
        obtain ⟨h1, h2, h3⟩ := split p hp
        have := (cells?_some (hcells (p / es) h1)).2 (p % es) h2
        rw [at1 p hp, ← this, add_none, add_none]
        have hb' : w.heap[ab]? = some (.cells cs T fz) := hb
        simp only [World.cell?, hb', Option.isSome_none, Bool.false_eq_true, if_false]
        congr 1
        omega
      refine fin ab ao cs T fz hb ?_ (.inl rfl)
      apply List.ext_getElem?
      intro p
      by_cases hp : p < len * es
      · rw [List.getElem?_take, if_pos hp, List.getElem?_drop, ← cell p hp, Array.getElem?_toList]
      · rw [List.getElem?_eq_none (by rw [List.length_take]; omega), List.getElem?_eq_none (by rw [hl1]; simp; omega)]

/-- What the arguments of a function are; 'true': a struct. -/
def argSpec (P : Program) : List TypeId → Option (List (Bool × List CK))
  | [] => some []
  | t :: ts =>
    match ckOf P 8 t, argSpec P ts with
    | some ks, some r => (match P.underlying t with
      | some (.struct _) => some ((true, ks) :: r)
      | some .bool | some (.int _) | some (.slice _) => some ((false, ks) :: r)
      | _ => none)
    | _, _ => none

def ArgA (H : AHeap) : Bool × List CK → AV → Prop
  | (true, ks), v => ∃ l, v = .agg l ∧ l.length = ks.length ∧ ∀ (i : Nat) (k : CK) (x : AV), ks[i]? = some k → l[i]? = some x → AOK H k x
  | (false, ks), v => ∃ k, ks = [k] ∧ AOK H k v

def ArgsA (H : AHeap) : List (Bool × List CK) → List AV → Prop
  | [], [] => True
  | s :: ss, v :: vs => ArgA H s v ∧ ArgsA H ss vs
  | _, _ => False

theorem ArgA.mono {H H' : AHeap} (hp : H <+: H') : ∀ {s : Bool × List CK} {v : AV}, ArgA H s v → ArgA H' s v
  | (true, _), _, ⟨l, h1, h2, h3⟩ => ⟨l, h1, h2, fun i k x hk hx => (h3 i k x hk hx).mono hp⟩
  | (false, _), _, ⟨k, h1, h2⟩ => ⟨k, h1, h2.mono hp⟩

section
variable {H : Type} {enc : TypeId × Value → H} {P : Program} {W : World}

theorem open_arg (hne : ∃ (b : Nat) (cs : Array Value) (T : TypeId) (fz : Nat × Nat), W.heap[b]? = some (Obj.cells cs T fz)) {base : Nat} {t : TypeId} {ts : List TypeId} {v : Value} {d : DataW H} {ps : List MemPlace} {s : Bool × List CK} {ss : List (Bool × List CK)}
    (hsp : argSpec P (t :: ts) = some (s :: ss)) (h : DataW.Trod enc P W 0 (fun _ => true) true t v d ps) (hok : Value.okWide P W .any base t v) (ρ : Ren) (A : AHeap) (hs : Sim ρ A W) (hr : RO ρ) :
    argSpec P ts = some ss ∧ ∃ ρ' A' a, Sim ρ' A' W ∧ RO ρ' ∧ Sub ρ ρ' ∧ A <+: A' ∧ VR ρ' a v ∧ ArgA A' s a := by
  simp only [argSpec] at hsp
  split at hsp
  case h_2 => cases hsp
  rename_i ks r hks hr'
  obtain ⟨fuel, hf⟩ := h
  have hrow := trod_ok 8 t ks fuel _ _ hks hf
  have one : ∀ (hc : v.cells.toList = [v]), (∃ k, ks = [k]) → ∃ ρ' A' a, Sim ρ' A' W ∧ RO ρ' ∧ Sub ρ ρ' ∧ A <+: A' ∧ VR ρ' a v ∧ ArgA A' (false, ks) a := by
    rintro hc ⟨k, rfl⟩
    rw [hc] at hrow
    obtain ⟨ρ', A', a, h1, h2, h3, h4, h5, h6⟩ := open_cell hne (hrow.2 0 k v rfl rfl) ρ A hs hr
    exact ⟨ρ', A', a, h1, h2, h3, h4, h5, k, rfl, h6⟩
  have hks' := hks
  simp only [ckOf] at hks
  split at hsp
  · rename_i fs hu
    cases hsp
    refine ⟨hr', ?_⟩
    simp only [Value.okWide, hu] at hok
    obtain ⟨cs, rfl, hsz, _⟩ := hok
    have hone : ∀ u ∈ cs.toList, u.oneCell' = true := by
      intro u hu'
      obtain ⟨i, hi, hie⟩ := List.mem_iff_getElem.1 hu'
      have h1 : cs.toList[i]? = some u := by rw [List.getElem?_eq_getElem hi, hie]
      have hi' : i < ks.length := by rw [← hrow.1]; exact hi
      exact (hrow.2 i ks[i] u (by simp [hi']) h1).oneCell
    obtain ⟨ρ', A', l, h1, h2, h3, h4, h5, h6⟩ := open_list (w := W) hrow.1 (fun i k c hk hc => open_cell hne (hrow.2 i k c hk hc)) ρ A hs hr
    exact ⟨ρ', A', .agg l, h1, h2, h3, h4, VR.agg_iff.2 ⟨h5, hone⟩, l, rfl, by rw [h5.1]; exact hrow.1, h6⟩
  · rename_i hu
    cases hsp
    rw [hu] at hks
    refine ⟨hr', one ?_ ⟨_, (by cases hks; rfl)⟩⟩
    obtain ⟨b, rfl⟩ := okWide_bool hu hok
    simp [Value.cells]
  · rename_i k hu
    cases hsp
    rw [hu] at hks
    refine ⟨hr', one ?_ ⟨_, (by cases hks; rfl)⟩⟩
    obtain ⟨b, rfl⟩ := okWide_int hu hok
    simp [Value.cells]
  · rename_i e hu
    cases hsp
    rw [hu] at hks
    simp only at hks
    split at hks
    case h_2 => cases hks
    split at hks
    case isFalse => cases hks
    refine ⟨hr', one ?_ ⟨_, (by cases hks; rfl)⟩⟩
    obtain ⟨a, len, cap, rfl⟩ := okWide_slice hu hok
    simp [Value.cells]
  · cases hsp

theorem open_args (hne : ∃ (b : Nat) (cs : Array Value) (T : TypeId) (fz : Nat × Nat), W.heap[b]? = some (Obj.cells cs T fz)) {base : Nat} : ∀ (ts : List TypeId) (vs : List Value) (ds : List (DataW H)) (ps : List MemPlace) (ss : List (Bool × List CK)),
    argSpec P ts = some ss → DataW.TrodAll enc P W 0 (fun _ => true) true ts vs ds ps → (∀ (j : Nat) t v, ts[j]? = some t → vs[j]? = some v → Value.okWide P W .any base t v) → ∀ (ρ : Ren) (A : AHeap), Sim ρ A W → RO ρ →
    ∃ ρ' A' as, Sim ρ' A' W ∧ RO ρ' ∧ Sub ρ ρ' ∧ A <+: A' ∧ LR ρ' as vs ∧ ArgsA A' ss as
  | [], [], [], ps, ss, hsp, _, _, ρ, A, hs, hr => by
    simp only [argSpec, Option.some.injEq] at hsp
    subst hsp
    exact ⟨ρ, A, [], hs, hr, Sub.refl _, List.prefix_refl _, LR.nil, trivial⟩
  | t :: ts, v :: vs, d :: ds, ps, ss, hsp, h, hok, ρ, A, hs, hr => by
    obtain ⟨p, q, h1, h2, rfl⟩ := h
    cases ss with
    | nil =>
      simp only [argSpec] at hsp
      split at hsp
      · split at hsp <;> cases hsp
      · cases hsp
    | cons s ss =>
      obtain ⟨hsp', ρ1, A1, a, s1, r1, b1, p1, v1, a1⟩ := open_arg hne hsp h1 (hok 0 t v rfl rfl) ρ A hs hr
      obtain ⟨ρ2, A2, as, s2, r2, b2, p2, v2, a2⟩ := open_args hne ts vs ds q ss hsp' h2 (fun j t v ht hv => hok (j + 1) t v (by simpa using ht) (by simpa using hv)) ρ1 A1 s1 r1
      exact ⟨ρ2, A2, a :: as, s2, r2, b1.trans b2, p1.trans p2, LR.cons (v1.mono b2) v2, a1.mono p2, a2⟩
  | [], _ :: _, _, _, _, _, h, _, _, _, _, _ => h.elim
  | [], [], _ :: _, _, _, _, h, _, _, _, _, _ => h.elim
  | _ :: _, [], _, _, _, _, h, _, _, _, _, _ => h.elim
  | _ :: _, _ :: _, [], _, _, _, h, _, _, _, _, _ => h.elim

theorem trod_stays_all (hl : laidOutB P = true) {W' : World} {sp : Nat → Bool} : ∀ {ts : List TypeId} {vs : List Value} {ds : List (DataW H)} {ps : List MemPlace}, (∀ t ∈ ts, P.readableRec t = true ∧ t < P.types.size) →
    DataW.TrodAll enc P W 0 (fun _ => true) true ts vs ds ps → (∀ p ∈ ps, W.sameAt W' p) → (∀ p ∈ ps, sp p.block = true) → DataW.TrodAll enc P W' 0 sp true ts vs ds ps
  | [], [], [], _, _, h, _, _ => h
  | t :: ts, v :: vs, d :: ds, _, hT, ⟨p, q, h1, h2, e⟩, hsame, hsp => by
    subst e
    exact ⟨p, q, WideElems.Trod_stays hl (hT t (by simp)).1 (hT t (by simp)).2 h1 (fun x hx => hsame x (by simp [hx])) (fun x hx => hsp x (by simp [hx])),
      trod_stays_all hl (fun u hu => hT u (by simp [hu])) h2 (fun x hx => hsame x (by simp [hx])) (fun x hx => hsp x (by simp [hx])), rfl⟩
  | [], _ :: _, _, _, _, h, _, _ => h.elim
  | [], [], _ :: _, _, _, h, _, _ => h.elim
  | _ :: _, [], _, _, _, h, _, _ => h.elim
  | _ :: _, _ :: _, [], _, _, h, _, _ => h.elim

/-- A law: whatever its arguments are, it answers 'true', and they stay as they are. -/
theorem law_calls {f : FuncId} {fn : Func} {s : ChangeSpec} {apart fresh handsOn again : Bool} {tb : TypeId} {ss : List (Bool × List CK)} (hl : laidOutB P = true) (hre : fn.params.toList.all (fun t => P.readableRec t && decide (t < P.types.size)) = true)
    (hsp : argSpec P fn.params.toList = some ss) (hvars : s.vars = []) (hfn : ∀ ds : List (DataW H), ds.length = fn.params.size → s.fn H ds = { results := [.lit (.bool true)], args := ds }) (hrt : fn.resultTypes = #[tb]) (htb : P.underlying tb = some .bool)
    {base : Nat} {args : Array Value} {ds gs : List (DataW H)} {before : List MemPlace} (hne : ∃ (b : Nat) (cs : Array Value) (T : TypeId) (fz : Nat × Nat), W.heap[b]? = some (Obj.cells cs T fz))
    (hval : ∀ (j : Nat) t v, fn.params[j]? = some t → args[j]? = some v → Value.okWide P W .any base t v) (hW : DataW.Whole enc P fn.params.toList s.vars apart W args.toList ds gs before)
    (main : ∀ (A : AHeap) (as : List AV), ArgsA A ss as → ∃ A', ACalls P f as A (B true) A') :
    Calls P f args W fun e W' => ∃ v, e = .returned v ∧ s.post enc P fn apart fresh handsOn again W args v W' := by
  have hW0 := hW
  obtain ⟨p, q, hA, hV, hpq, hfz, hnd⟩ := hW
  rw [hvars] at hV
  obtain ⟨rfl, rfl⟩ := trodVars_none hV
  rw [List.append_nil] at hpq
  subst hpq
  have s0 : Sim (fun _ => none) [] W := ⟨fun _ _ e => (by cases e), fun _ _ _ e => (by cases e), fun _ _ _ _ e => (by cases e)⟩
  obtain ⟨ρ, A, as, s1, r1, _, _, v1, a1⟩ := open_args hne fn.params.toList args.toList ds before ss hsp hA (fun j t v ht hv => hval j t v (by simpa using ht) (by simpa using hv)) _ [] s0 (fun _ _ e => by cases e)
  obtain ⟨A', hc⟩ := main A as a1
  refine (hc.2 ρ W args s1 v1).mono ?_
  rintro e W' ⟨ρ', cv, rfl, hv, _, st⟩
  cases hv
  have hkeep : ∀ b, b < W.heap.size → W'.heap[b]? = W.heap[b]? := fun b hb => st.keep b hb (fun ⟨n, L, e, h, _⟩ => by rw [r1 n L e] at h; cases h)
  have hbelow : Below W.heap.size W W' := ⟨st.os, st.tape, st.out, st.size, hkeep⟩
  have hlt : ∀ x ∈ before, x.block < W.heap.size := fun x hx => hW0.lt x hx
  have hT : ∀ t ∈ fn.params.toList, P.readableRec t = true ∧ t < P.types.size := fun t ht => by
    have := List.all_eq_true.1 hre t ht
    simpa using this
  have hds : ds.length = fn.params.size := by
    have : ∀ {ts : List TypeId} {vs : List Value} {ds : List (DataW H)} {ps : List MemPlace}, DataW.TrodAll enc P W 0 (fun _ => true) true ts vs ds ps → ds.length = ts.length := by
      intro ts
      induction ts with
      | nil => intro vs ds ps h; cases vs <;> cases ds <;> first | rfl | exact h.elim
      | cons t ts ih =>
        intro vs ds ps h
        cases vs <;> cases ds <;> first | exact h.elim | (obtain ⟨p, q, _, h2, _⟩ := h; simp [ih h2])
    simpa using this hA
  have hsf := hfn ds hds
  have hsf' : s.fn H (ds ++ []) = { results := [.lit (.bool true)], args := ds } := by rw [List.append_nil]; exact hsf
  have hargs : ∀ sp : Nat → Bool, (∀ p ∈ before, sp p.block = true) → DataW.TrodAll enc P W' 0 sp true fn.params.toList args.toList ds before :=
    fun sp hsp' => trod_stays_all hl hT hA (fun x hx => hbelow.same (hlt x hx)) hsp'
  have hres : ∀ (b : Nat) (sp : Nat → Bool) (hd : Bool), DataW.TrodAll enc P W' b sp hd fn.resultTypes.toList ((Value.bool true).resultList fn.resultTypes.size) [.lit (.bool true)] [] := by
    intro b sp hd
    rw [hrt]
    exact trodAll_mk1 (shut_bool htb true)
  have hold : ∀ p ∈ before, (fun b => decide (b < W.heap.size)) p.block = true := fun p hp => by simpa using hlt p hp
  refine ⟨.bool true, rfl, ds, [], before, [], before, [], hW0, ?_, ?_, ?_, ?_, fun _ => ⟨?_, [.lit (.bool true)] ++ ds, [], before, ⟨[] ++ before, [], trodAll_append (hargs _ (fun _ _ => rfl)) (hres _ _ _), ?_, by simp, ?_, ?_⟩, fun p hp _ => hp⟩⟩
  · rw [hsf']; exact hres _ _ _
  · rw [hsf']; exact hargs _ hold
  · rw [hsf', hvars]; exact rfl
  · exact ⟨st.os, st.out, fun i hi => by
      rw [hkeep i hi]
      cases W.heap[i]? with
      | none => rfl
      | some o => cases o <;> simp⟩
  · exact ok_one hrt (by rfl) (okWide_bool_mk htb true)
  · rw [hvars]; exact rfl
  · intro b off hp
    have h1 := hlt _ hp
    have h2 := hfz b off hp
    have : W'.frozen? ⟨b, off, none⟩ = W.frozen? ⟨b, off, none⟩ := by
      unfold World.frozen?
      rw [hkeep b h1]
    rw [this]; exact h2
  · intro ha; exact hnd ha

end
end Go.Eng
