/- The abstract machine, part 13: which operations may change places. No conditions. -/
import Derived.Test.YtlmbobbefgcolaaEng2
namespace Go.Eng
open Go

theorem rd_congr {S S' : List AV} {o : Opd} (h : ∀ i ∈ o.slots, rd S (.s i) = rd S' (.s i)) : rd S o = rd S' o := by
  cases o with
  | s i => exact h i (by simp [Opd.slots])
  | c v => rfl

theorem rds_congr {S S' : List AV} {xs : List Opd} (h : ∀ i ∈ opSlots xs, rd S (.s i) = rd S' (.s i)) : xs.map (rd S) = xs.map (rd S') := by
  refine List.map_congr_left fun x hx => rd_congr fun i hi => h i ?_
  exact List.mem_flatMap.2 ⟨x, hx, hi⟩

theorem opt_congr {S S' : List AV} {x : Option Opd} (h : ∀ i ∈ opSlots x.toList, rd S (.s i) = rd S' (.s i)) : x.map (rd S) = x.map (rd S') := by
  cases x with
  | none => rfl
  | some x => simp only [Option.map_some]; rw [rd_congr fun i hi => h i (by simpa [opSlots] using hi)]

theorem parts_congr {S S' : List AV} {ps : List (Nat × Nat × Opd)} (h : ∀ i ∈ opSlots (ps.map (·.2.2)), rd S (.s i) = rd S' (.s i)) :
    (ps.map fun p => (p.1, p.2.1, rd S p.2.2)) = (ps.map fun p => (p.1, p.2.1, rd S' p.2.2)) := by
  refine List.map_congr_left fun p hp => ?_
  rw [rd_congr fun i hi => h i (List.mem_flatMap.2 ⟨p.2.2, List.mem_map.2 ⟨p, hp, rfl⟩, hi⟩)]

theorem mem_op {x : Opd} {xs : List Opd} {i : Nat} (hx : x ∈ xs) (hi : i ∈ x.slots) : i ∈ opSlots xs := List.mem_flatMap.2 ⟨x, hx, hi⟩

theorem chkd_congr {S S' : List AV} {chk : Option Nat} (h : ∀ i ∈ chk.toList, rd S (.s i) = rd S' (.s i)) : chkd chk S = chkd chk S' := by
  cases chk with
  | none => rfl
  | some t => simp only [chkd]; rw [h t (by simp)]

theorem pval_congr {p : PAct} {S S' : List AV} (h : ∀ i ∈ p.reads, rd S (.s i) = rd S' (.s i)) : pval p S = pval p S' := by
  cases p with
  | mov x | isnil _ x | neg x | not x | part _ _ _ x | extr _ x | len x | fad _ x | conv _ x | bnew x =>
    simp only [pval]; rw [rd_congr (o := x) h]
  | pick a b c =>
    simp only [pval]
    rw [rd_congr (o := a) fun i hi => h i (mem_op (by simp) hi), rd_congr (o := b) fun i hi => h i (mem_op (by simp) hi), rd_congr (o := c) fun i hi => h i (mem_op (by simp) hi)]
  | bin _ x y | eqb _ x y | eqs _ _ x y | idx _ x y | aidx _ _ _ x y =>
    simp only [pval]
    rw [rd_congr (o := x) fun i hi => h i (mem_op (by simp) hi), rd_congr (o := y) fun i hi => h i (mem_op (by simp) hi)]
  | build _ ps => simp only [pval]; rw [parts_congr h]
  | mm _ x xs =>
    simp only [pval]
    rw [rd_congr (o := x) fun i hi => h i (mem_op (by simp) hi), rds_congr (xs := xs) fun i hi => h i (by
      obtain ⟨y, hy, hi⟩ := List.mem_flatMap.1 hi
      exact mem_op (by simp [hy]) hi)]
  | mkf _ xs => simp only [pval]; rw [rds_congr h]
  | slc _ x a b c =>
    simp only [pval]
    have key : ∀ o : Option Opd, o.toList ⊆ x :: (a.toList ++ b.toList ++ c.toList) → o.map (rd S) = o.map (rd S') := fun o ho => opt_congr fun i hi => h i (by
      obtain ⟨y, hy, hi⟩ := List.mem_flatMap.1 hi
      exact mem_op (ho hy) hi)
    rw [rd_congr (o := x) fun i hi => h i (mem_op (by simp) hi), key a (by intro y hy; simp [hy]), key b (by intro y hy; simp [hy]), key c (by intro y hy; simp [hy])]
  | bget chk b _ _ _ =>
    simp only [pval]
    rw [h b (by simp [PAct.reads]), chkd_congr (chk := chk) fun i hi => h i (by simp only [PAct.reads, List.mem_cons]; exact .inr hi)]
  | bset chk b _ _ x =>
    simp only [pval]
    rw [h b (by simp [PAct.reads]), chkd_congr (chk := chk) fun i hi => h i (by simp only [PAct.reads, List.mem_append, List.mem_cons]; exact .inl (.inr hi)),
      rd_congr (o := x) fun i hi => h i (by simp only [PAct.reads, List.mem_append]; exact .inr hi)]
  | badr chk b =>
    simp only [pval]
    rw [h b (by simp [PAct.reads]), chkd_congr (chk := chk) fun i hi => h i (by simp only [PAct.reads, List.mem_cons]; exact .inr hi)]
  | fail => rfl

theorem lval_congr {l : LAct} {S S' : List AV} {H : AHeap} (h : ∀ i ∈ l.reads, rd S (.s i) = rd S' (.s i)) : lval l S H = lval l S' H := by
  cases l with
  | ld _ _ p => simp only [lval]; rw [rd_congr (o := p) h]
  | lenm x => simp only [lval]; rw [rd_congr (o := x) h]
  | look _ _ x k =>
    simp only [lval]
    rw [rd_congr (o := x) fun i hi => h i (mem_op (by simp) hi), rd_congr (o := k) fun i hi => h i (mem_op (by simp) hi)]

theorem hval_congr {a : HAct} {S S' : List AV} {H : AHeap} (h : ∀ i ∈ a.reads, rd S (.s i) = rd S' (.s i)) : hval a S H = hval a S' H := by
  cases a with
  | st _ x y | mks _ _ x y | app _ x y | cpy _ x y =>
    simp only [hval]
    rw [rd_congr (o := x) fun i hi => h i (mem_op (by simp) hi), rd_congr (o := y) fun i hi => h i (mem_op (by simp) hi)]
  | newv x | clr _ _ x => simp only [hval]; rw [rd_congr (o := x) h]
  | blds _ _ _ ps => simp only [hval]; rw [parts_congr h]
  | mkm => rfl
  | mset a b c =>
    simp only [hval]
    rw [rd_congr (o := a) fun i hi => h i (mem_op (by simp) hi), rd_congr (o := b) fun i hi => h i (mem_op (by simp) hi), rd_congr (o := c) fun i hi => h i (mem_op (by simp) hi)]

theorem out_congr {P : Program} {a : Act1} {S S' : List AV} {H H' : AHeap} {v : AV} (h : ∀ i ∈ a.reads, rd S (.s i) = rd S' (.s i)) : a.out P S H v H' ↔ a.out P S' H v H' := by
  cases a with
  | pu p => simp only [Act1.out]; rw [pval_congr h]
  | ld l => simp only [Act1.out]; rw [lval_congr h]
  | ha a => simp only [Act1.out]; rw [hval_congr h]
  | call f xs => simp only [Act1.out]; rw [rds_congr h]
  | callv x xs =>
    simp only [Act1.out]
    rw [rd_congr (o := x) fun i hi => h i (mem_op (by simp) hi), rds_congr (xs := xs) fun i hi => h i (by
      obtain ⟨y, hy, hi⟩ := List.mem_flatMap.1 hi
      exact mem_op (by simp [hy]) hi)]

theorem rd_putS {S : List AV} {w : Option Nat} {v : AV} {i : Nat} (h : w ≠ some i) : rd (putS S w v) (.s i) = rd S (.s i) := by
  cases w with
  | none => rfl
  | some d =>
    show ((S.set d v)[i]?).getD .junk = (S[i]?).getD .junk
    rw [List.getElem?_set_ne (by rintro rfl; exact h rfl)]

theorem putS_comm {S : List AV} {a b : Option Nat} {v u : AV} (h : ∀ d, a = some d → b ≠ some d) : putS (putS S a v) b u = putS (putS S b u) a v := by
  cases a with
  | none => rfl
  | some d =>
    cases b with
    | none => rfl
    | some e => exact List.set_comm v u (by rintro rfl; exact h d rfl rfl)

theorem wantedA_congr {S S' : List AV} {g : Option (Nat × Bool)} (h : ∀ i ∈ (g.map (·.1)).toList, rd S (.s i) = rd S' (.s i)) : wantedA S g = wantedA S' g := by
  cases g with
  | none => rfl
  | some p => simp only [wantedA]; rw [h p.1 (by simp)]

def addrOk (m : MOp) (S : List AV) (H : AHeap) : Prop :=
  match m.act with
  | .ld (.ld _ _ p) => ∀ n off, rd S p = .ptr n off → n < H.length
  | .ld (.lenm x) => ∀ n, rd S x = .mp n → n < H.length
  | .ld (.look _ _ x _) => ∀ n, rd S x = .mp n → n < H.length
  | _ => True

theorem prefix_get {H H' : AHeap} (h : H <+: H') {n : Nat} (hn : n < H.length) : H'[n]? = H[n]? := by
  obtain ⟨X, rfl⟩ := h
  rw [List.getElem?_append_left hn]
theorem prefix_some {H H' : AHeap} (h : H <+: H') {n : Nat} {o : AObj} (hn : H[n]? = some o) : H'[n]? = some o := by
  rw [prefix_get h (List.getElem?_eq_some_iff.1 hn).1, hn]

theorem lval_down {l : LAct} {S : List AV} {H H' : AHeap} {m : MOp} (hm : m.act = .ld l) (ha : addrOk m S H) (hp : H <+: H') {v : AV} (h : lval l S H' = some v) : lval l S H = some v := by
  unfold addrOk at ha
  cases l with
  | ld sz ag p =>
    simp only [hm] at ha
    simp only [lval, ldA] at h ⊢
    split at h
    case h_2 => cases h
    rename_i n off hpn
    rw [prefix_get hp (ha n off hpn)] at h
    exact h
  | lenm x =>
    simp only [hm] at ha
    simp only [lval] at h ⊢
    split at h
    · exact h
    · rename_i n hpn
      rw [prefix_get hp (ha n hpn)] at h
      exact h
    · cases h
  | look z ok x k =>
    simp only [hm] at ha
    simp only [lval] at h ⊢
    split at h
    · rename_i n k hpn hk
      rw [prefix_get hp (ha n hpn)] at h
      exact h
    · exact h
    · cases h

theorem lval_up {l : LAct} {S : List AV} {H H' : AHeap} (hp : H <+: H') {v : AV} (h : lval l S H = some v) : lval l S H' = some v := by
  have get : ∀ {n : Nat} {o : AObj}, H[n]? = some o → H'[n]? = some o := prefix_some hp
  cases l with
  | ld sz ag p =>
    simp only [lval, ldA] at h ⊢
    split at h
    case h_2 => cases h
    split at h
    case h_2 => cases h
    rename_i hl
    rw [get hl]; exact h
  | lenm x =>
    simp only [lval] at h ⊢
    split at h
    · exact h
    · split at h
      case h_2 => cases h
      rename_i hl
      rw [get hl]; exact h
    · cases h
  | look z ok x k =>
    simp only [lval] at h ⊢
    split at h
    · split at h
      case h_2 => cases h
      rename_i hl
      rw [get hl]; exact h
    · exact h
    · cases h

theorem indep_slots {a b : MOp} (h : indep a b = true) : (∀ i ∈ b.looks, a.w ≠ some i) ∧ (∀ i ∈ a.looks, b.w ≠ some i) ∧ (∀ d, a.w = some d → b.w ≠ some d) := by
  simp only [indep, Bool.and_eq_true] at h
  obtain ⟨⟨h1, h2⟩, _⟩ := h
  refine ⟨fun i hi he => ?_, fun i hi he => ?_, fun d he => ?_⟩
  · rw [he] at h1
    simp only [Bool.and_eq_true, Bool.not_eq_true'] at h1
    have := h1.1
    rw [List.contains_iff_mem.2 hi] at this
    cases this
  · rw [he] at h2
    simp only [Bool.not_eq_true'] at h2
    rw [List.contains_iff_mem.2 hi] at h2
    cases h2
  · rw [he] at h1
    simp only [Bool.and_eq_true, bne_iff_ne, ne_eq] at h1
    exact h1.2

theorem out_pure {P : Program} {a : Act1} (h : a.cls ≠ 2) {S : List AV} {H H' : AHeap} {v : AV} (ho : a.out P S H v H') : H' = H := by
  cases a with
  | pu p => exact ho.2
  | ld l => exact ho.2
  | _ => exact absurd rfl h

theorem cls_le (a : Act1) : a.cls = 0 ∨ a.cls = 1 ∨ a.cls = 2 := by cases a <;> simp [Act1.cls]

/-- Two neighbours change places. -/
theorem AOps_swap {P : Program} {x m : MOp} {r : List MOp} {Q : List AV → AHeap → Prop} {S : List AV} {H : AHeap} (hi : indep x m = true) (ha : addrOk m S H) (h : AOps P (x :: m :: r) Q S H) : AOps P (m :: x :: r) Q S H := by
  obtain ⟨i1, i2, i3⟩ := indep_slots hi
  have mreads : ∀ (v : AV) i, i ∈ m.act.reads → rd (putS S x.w v) (.s i) = rd S (.s i) := fun v i hi => rd_putS (i1 i (by simp [MOp.looks, hi]))
  have mguard : ∀ (v : AV), wantedA (putS S x.w v) m.guard = wantedA S m.guard := fun v => wantedA_congr fun i hi => rd_putS (i1 i (by simp only [MOp.looks, List.mem_append]; exact .inr hi))
  have xreads : ∀ (v : AV) i, i ∈ x.act.reads → rd (putS S m.w v) (.s i) = rd S (.s i) := fun v i hi => rd_putS (i2 i (by simp [MOp.looks, hi]))
  have xguard : ∀ (v : AV), wantedA (putS S m.w v) x.guard = wantedA S x.guard := fun v => wantedA_congr fun i hi => rd_putS (i2 i (by simp only [MOp.looks, List.mem_append]; exact .inr hi))
  have skip_put : ∀ (T : List AV) (o : MOp), (skipS T o = T ∧ o.sk = none) ∨ ∃ v, skipS T o = putS T o.w v ∧ o.sk = some v := by
    intro T o
    cases hs : o.sk with
    | none => exact .inl ⟨by simp [skipS, hs], rfl⟩
    | some v => exact .inr ⟨v, by simp [skipS, hs], rfl⟩
  simp only [AOps] at h ⊢
  cases hx : wantedA S x.guard with
  | none => rw [hx] at h; exact h.elim
  | some tx =>
    rw [hx] at h
    simp only at h
    cases tx with
    | true =>
      simp only [if_true] at h
      obtain ⟨v, H1, hxo, hxe, h⟩ := h
      rw [mguard v] at h
      cases hm : wantedA S m.guard with
      | none => rw [hm] at h; exact h.elim
      | some tm =>
        rw [hm] at h
        simp only at h ⊢
        cases tm with
        | true =>
          simp only [if_true] at h ⊢
          obtain ⟨u, H2, hmo, hme, h⟩ := h
          have hmo' := (out_congr (mreads v)).1 hmo
          have hcls := hi
          simp only [indep, Bool.and_eq_true] at hcls
          have hcls := hcls.2
          have xo : ∀ {H1 : AHeap} {H2 : AHeap}, x.act.out P S H1 v H2 → x.act.out P (putS S m.w u) H1 v H2 := fun h => (out_congr (xreads u)).2 h
          rw [putS_comm i3] at h
          by_cases cx : x.act.cls = 2
          · have cm : m.act.cls ≠ 2 := by intro cm; rw [cx, cm] at hcls; cases hcls
            obtain rfl := out_pure cm hmo
            cases hma : m.act with
            | pu p =>
              rw [hma] at hmo'
              refine ⟨u, H, ⟨hmo'.1, rfl⟩, fun _ => List.prefix_refl _, ?_⟩
              rw [xguard u, hx]
              simp only [if_true]
              exact ⟨v, H2, xo hxo, hxe, h⟩
            | ld l =>
              rw [hma] at hmo' hcls
              rw [cx] at hcls
              simp only [Act1.cls] at hcls
              refine ⟨u, H, ⟨lval_down hma ha (hxe hcls) hmo'.1, rfl⟩, fun _ => List.prefix_refl _, ?_⟩
              rw [xguard u, hx]
              simp only [if_true]
              exact ⟨v, H2, xo hxo, hxe, h⟩
            | _ => rw [hma] at cm; exact absurd rfl cm
          · obtain rfl := out_pure cx hxo
            refine ⟨u, H2, hmo', hme, ?_⟩
            rw [xguard u, hx]
            simp only [if_true]
            refine ⟨v, H2, ?_, fun _ => List.prefix_refl _, h⟩
            by_cases cm : m.act.cls = 2
            · cases hxa : x.act with
              | pu p =>
                rw [hxa] at hxo xo
                exact ⟨(xo hxo).1, rfl⟩
              | ld l =>
                rw [hxa] at hxo xo hcls
                rw [cm] at hcls
                simp only [Act1.cls] at hcls
                exact ⟨lval_up (hme hcls) (xo hxo).1, rfl⟩
              | _ => rw [hxa] at cx; exact absurd rfl cx
            · obtain rfl := out_pure cm hmo
              exact xo hxo
        | false =>
          simp only [Bool.false_eq_true, if_false] at h ⊢
          rcases skip_put S m with ⟨e, hs⟩ | ⟨u, e, hs⟩
          · rw [e, hx]
            simp only [if_true]
            refine ⟨v, H1, hxo, hxe, ?_⟩
            rwa [show skipS (putS S x.w v) m = putS S x.w v by simp [skipS, hs]] at h
          · rw [e, xguard u, hx]
            simp only [if_true]
            refine ⟨v, H1, (out_congr (xreads u)).2 hxo, hxe, ?_⟩
            rw [← putS_comm i3]
            rwa [show skipS (putS S x.w v) m = putS (putS S x.w v) m.w u by simp [skipS, hs]] at h
    | false =>
      simp only [Bool.false_eq_true, if_false] at h
      rcases skip_put S x with ⟨e, hs⟩ | ⟨v, e, hs⟩
      · rw [e] at h
        cases hm : wantedA S m.guard with
        | none => rw [hm] at h; exact h.elim
        | some tm =>
          rw [hm] at h
          simp only at h ⊢
          have xs : ∀ T : List AV, skipS T x = T := fun T => by simp [skipS, hs]
          cases tm with
          | true =>
            simp only [if_true] at h ⊢
            obtain ⟨u, H2, hmo, hme, h⟩ := h
            refine ⟨u, H2, hmo, hme, ?_⟩
            rw [xguard u, hx]
            simp only [Bool.false_eq_true, if_false]
            rw [xs]; exact h
          | false =>
            simp only [Bool.false_eq_true, if_false] at h ⊢
            have : wantedA (skipS S m) x.guard = some false := by
              rcases skip_put S m with ⟨e2, _⟩ | ⟨u, e2, _⟩
              · rw [e2, hx]
              · rw [e2, xguard u, hx]
            rw [this]
            simp only [Bool.false_eq_true, if_false]
            rw [xs]; exact h
      · rw [e, mguard v] at h
        cases hm : wantedA S m.guard with
        | none => rw [hm] at h; exact h.elim
        | some tm =>
          rw [hm] at h
          simp only at h ⊢
          have xs : ∀ T : List AV, skipS T x = putS T x.w v := fun T => by simp [skipS, hs]
          cases tm with
          | true =>
            simp only [if_true] at h ⊢
            obtain ⟨u, H2, hmo, hme, h⟩ := h
            refine ⟨u, H2, (out_congr (mreads v)).1 hmo, hme, ?_⟩
            rw [xguard u, hx]
            simp only [Bool.false_eq_true, if_false]
            rw [xs, ← putS_comm i3]; exact h
          | false =>
            simp only [Bool.false_eq_true, if_false] at h ⊢
            rcases skip_put S m with ⟨e2, hs2⟩ | ⟨u, e2, hs2⟩
            · rw [e2, hx]
              simp only [Bool.false_eq_true, if_false]
              rw [xs]
              rwa [show skipS (putS S x.w v) m = putS S x.w v by simp [skipS, hs2]] at h
            · rw [e2, xguard u, hx]
              simp only [Bool.false_eq_true, if_false]
              rw [xs, ← putS_comm i3]
              rwa [show skipS (putS S x.w v) m = putS (putS S x.w v) m.w u by simp [skipS, hs2]] at h

theorem addrOk_step {x m : MOp} {S : List AV} {H : AHeap} (hi : indep x m = true) (ha : addrOk m S H) {w : Option Nat} {v : AV} {H1 : AHeap} (hw : w = x.w ∨ w = none) (hl : H.length ≤ H1.length ∨ m.act.cls ≠ 1) : addrOk m (putS S w v) H1 := by
  obtain ⟨i1, _, _⟩ := indep_slots hi
  have reads : ∀ o : Opd, (∀ i ∈ o.slots, i ∈ m.act.reads) → rd (putS S w v) o = rd S o := fun o ho => rd_congr fun i hi' => by
    rcases hw with rfl | rfl
    · exact rd_putS (i1 i (by simp [MOp.looks, ho i hi']))
    · rfl
  unfold addrOk at ha ⊢
  split <;> rename_i e <;> simp only [e] at ha
  · intro n off h
    rw [reads _ (by intro i hi'; rw [e]; exact hi')] at h
    rcases hl with hl | hl
    · exact Nat.lt_of_lt_of_le (ha n off h) hl
    · rw [e] at hl; exact absurd rfl hl
  · intro n h
    rw [reads _ (by intro i hi'; rw [e]; exact hi')] at h
    rcases hl with hl | hl
    · exact Nat.lt_of_lt_of_le (ha n h) hl
    · rw [e] at hl; exact absurd rfl hl
  · intro n h
    rw [reads _ (by intro i hi'; rw [e]; exact mem_op (by simp) hi')] at h
    rcases hl with hl | hl
    · exact Nat.lt_of_lt_of_le (ha n h) hl
    · rw [e] at hl; exact absurd rfl hl
  · trivial

/-- An operation comes first, before all that do not matter to it. -/
theorem AOps_first {P : Program} {m : MOp} {r : List MOp} {Q : List AV → AHeap → Prop} : ∀ (L : List MOp) {S : List AV} {H : AHeap}, (∀ x ∈ L, indep x m = true) → addrOk m S H → AOps P (L ++ m :: r) Q S H → AOps P (m :: (L ++ r)) Q S H
  | [], _, _, _, _, h => h
  | x :: L, S, H, hi, ha, h => by
    refine AOps_swap (hi x (by simp)) ha ?_
    have hx := hi x (by simp)
    simp only [List.cons_append, AOps] at h ⊢
    have hlen : ∀ {v : AV} {H1 : AHeap}, x.act.out P S H v H1 → (x.ext = true → H <+: H1) → H.length ≤ H1.length ∨ m.act.cls ≠ 1 := by
      intro v H1 ho he
      by_cases cm : m.act.cls = 1
      · left
        by_cases cx : x.act.cls = 2
        · have hc := hx
          simp only [indep, Bool.and_eq_true] at hc
          have hc := hc.2
          rw [cx, cm] at hc
          exact (he hc).length_le
        · rw [out_pure cx ho]
          exact Nat.le_refl _
      · exact .inr cm
    split at h
    · exact h
    · rename_i t _
      cases t with
      | true =>
        simp only [if_true] at h ⊢
        obtain ⟨v, H1, ho, he, h⟩ := h
        refine ⟨v, H1, ho, he, ?_⟩
        exact AOps_first L (fun y hy => hi y (by simp [hy])) (addrOk_step hx ha (.inl rfl) (hlen ho he)) h
      | false =>
        simp only [Bool.false_eq_true, if_false] at h ⊢
        refine AOps_first L (fun y hy => hi y (by simp [hy])) ?_ h
        unfold skipS
        split
        · exact addrOk_step hx ha (.inl rfl) (.inl (Nat.le_refl _))
        · exact ha

end Go.Eng
