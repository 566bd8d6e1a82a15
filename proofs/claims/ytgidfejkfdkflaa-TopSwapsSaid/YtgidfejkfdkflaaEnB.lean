/- What the law's proof rests on, part 2: for all that is said in each line. No conditions. -/
import Derived.ProofKit
import Derived.RangeFuncSeq
import Derived.RangeFuncIn
import Derived.OrdersIn
import Derived.DefersIn
import Derived.RangeFuncLeaves
import Derived.Below
import Derived.Test.YtgidfejkfdkflaaEnA
namespace Go.Eng
open Go
theorem rd_congr {S S' : List AV} {o : Opd} (h : ∀ i ∈ o.slots, rd S (.s i) = rd S' (.s i)) : rd S o = rd S' o := by
  cases o with
  | s i => exact h i (by simp [Opd.slots])
  | c v => rfl
theorem rds_congr {S S' : List AV} {xs : List Opd} (h : ∀ i ∈ opSlots xs, rd S (.s i) = rd S' (.s i)) : xs.map (rd S) = xs.map (rd S') := by
  refine List.map_congr_left fun x hx => rd_congr fun i hi => h i ?_
  exact List.mem_flatMap.2 ⟨x, hx, hi⟩
theorem opt_congr {S S' : List AV} {x : Option Opd} (h : ∀ i ∈ opSlots x.toList, rd S (.s i) = rd S' (.s i)) : x.map (rd S) = x.map (rd S') := by
  cases x with
  | none => rfl
  | some x => simp only [Option.map_some]; rw [rd_congr fun i hi => h i (by simpa [opSlots] using hi)]
theorem parts_congr {S S' : List AV} {ps : List (Nat × Nat × Opd)} (h : ∀ i ∈ opSlots (ps.map (·.2.2)), rd S (.s i) = rd S' (.s i)) :
    (ps.map fun p => (p.1, p.2.1, rd S p.2.2)) = (ps.map fun p => (p.1, p.2.1, rd S' p.2.2)) := by
  refine List.map_congr_left fun p hp => ?_
  rw [rd_congr fun i hi => h i (List.mem_flatMap.2 ⟨p.2.2, List.mem_map.2 ⟨p, hp, rfl⟩, hi⟩)]
theorem mem_op {x : Opd} {xs : List Opd} {i : Nat} (hx : x ∈ xs) (hi : i ∈ x.slots) : i ∈ opSlots xs := List.mem_flatMap.2 ⟨x, hx, hi⟩
theorem chkd_congr {S S' : List AV} {chk : Option Nat} (h : ∀ i ∈ chk.toList, rd S (.s i) = rd S' (.s i)) : chkd chk S = chkd chk S' := by
  cases chk with
  | none => rfl
  | some t => simp only [chkd]; rw [h t (by simp)]
theorem pval_congr {p : PAct} {S S' : List AV} (h : ∀ i ∈ p.reads, rd S (.s i) = rd S' (.s i)) : pval p S = pval p S' := by
  cases p with
  | mov x | isnil _ x | neg x | not x | part _ _ _ x | extr _ x | len x | cap x | fad _ x | conv _ x | bnew x =>
    simp only [pval]; rw [rd_congr (o := x) h]
  | pick a b c =>
    simp only [pval]
    rw [rd_congr (o := a) fun i hi => h i (mem_op (by simp) hi), rd_congr (o := b) fun i hi => h i (mem_op (by simp) hi), rd_congr (o := c) fun i hi => h i (mem_op (by simp) hi)]
  | bin _ x y | eqb _ x y | eqs _ _ x y | idx _ x y | aidx _ _ _ x y =>
    simp only [pval]
    rw [rd_congr (o := x) fun i hi => h i (mem_op (by simp) hi), rd_congr (o := y) fun i hi => h i (mem_op (by simp) hi)]
  | build _ ps => simp only [pval]; rw [parts_congr h]
  | mm _ x xs =>
    simp only [pval]
    rw [rd_congr (o := x) fun i hi => h i (mem_op (by simp) hi), rds_congr (xs := xs) fun i hi => h i (by
      obtain ⟨y, hy, hi⟩ := List.mem_flatMap.1 hi
      exact mem_op (by simp [hy]) hi)]
  | mkf _ xs | mkb _ xs => simp only [pval]; rw [rds_congr h]
  | slc _ x a b c =>
    simp only [pval]
    have key : ∀ o : Option Opd, o.toList ⊆ x :: (a.toList ++ b.toList ++ c.toList) → o.map (rd S) = o.map (rd S') := fun o ho => opt_congr fun i hi => h i (by
      obtain ⟨y, hy, hi⟩ := List.mem_flatMap.1 hi
      exact mem_op (ho hy) hi)
    rw [rd_congr (o := x) fun i hi => h i (mem_op (by simp) hi), key a (by intro y hy; simp [hy]), key b (by intro y hy; simp [hy]), key c (by intro y hy; simp [hy])]
  | bget chk b _ _ _ =>
    simp only [pval]
    rw [h b (by simp [PAct.reads]), chkd_congr (chk := chk) fun i hi => h i (by simp only [PAct.reads, List.mem_cons]; exact .inr hi)]
  | bset chk b _ _ x =>
    simp only [pval]
    rw [h b (by simp [PAct.reads]), chkd_congr (chk := chk) fun i hi => h i (by simp only [PAct.reads, List.mem_append, List.mem_cons]; exact .inl (.inr hi)),
      rd_congr (o := x) fun i hi => h i (by simp only [PAct.reads, List.mem_append]; exact .inr hi)]
  | badr chk b =>
    simp only [pval]
    rw [h b (by simp [PAct.reads]), chkd_congr (chk := chk) fun i hi => h i (by simp only [PAct.reads, List.mem_cons]; exact .inr hi)]
  | fail => rfl
theorem lval_congr {l : LAct} {S S' : List AV} {H : AHeap} (h : ∀ i ∈ l.reads, rd S (.s i) = rd S' (.s i)) : lval l S H = lval l S' H := by
  cases l with
  | ld _ _ p => simp only [lval]; rw [rd_congr (o := p) h]
  | lenm x => simp only [lval]; rw [rd_congr (o := x) h]
  | look _ _ x k =>
    simp only [lval]
    rw [rd_congr (o := x) fun i hi => h i (mem_op (by simp) hi), rd_congr (o := k) fun i hi => h i (mem_op (by simp) hi)]
theorem hval_congr {a : HAct} {S S' : List AV} {H : AHeap} (h : ∀ i ∈ a.reads, rd S (.s i) = rd S' (.s i)) : hval a S H = hval a S' H := by
  cases a with
  | st _ x y | mks _ _ x y | app _ x y | appz _ _ x y | cpy _ x y =>
    simp only [hval]
    rw [rd_congr (o := x) fun i hi => h i (mem_op (by simp) hi), rd_congr (o := y) fun i hi => h i (mem_op (by simp) hi)]
  | newv x | clr _ _ x => simp only [hval]; rw [rd_congr (o := x) h]
  | blds _ _ _ ps => simp only [hval]; rw [parts_congr h]
  | mkm => rfl
  | mset a b c =>
    simp only [hval]
    rw [rd_congr (o := a) fun i hi => h i (mem_op (by simp) hi), rd_congr (o := b) fun i hi => h i (mem_op (by simp) hi), rd_congr (o := c) fun i hi => h i (mem_op (by simp) hi)]
theorem out_congr {P : Program} {a : Act1} {S S' : List AV} {H H' : AHeap} {v : AV} (h : ∀ i ∈ a.reads, rd S (.s i) = rd S' (.s i)) : a.out P S H v H' ↔ a.out P S' H v H' := by
  cases a with
  | pu p => simp only [Act1.out]; rw [pval_congr h]
  | ld l => simp only [Act1.out]; rw [lval_congr h]
  | ha a => simp only [Act1.out]; rw [hval_congr h]
  | call f xs => simp only [Act1.out]; rw [rds_congr h]
  | callv x xs =>
    simp only [Act1.out]
    rw [rd_congr (o := x) fun i hi => h i (mem_op (by simp) hi), rds_congr (xs := xs) fun i hi => h i (by
      obtain ⟨y, hy, hi⟩ := List.mem_flatMap.1 hi
      exact mem_op (by simp [hy]) hi)]
theorem rd_putS {S : List AV} {w : Option Nat} {v : AV} {i : Nat} (h : w ≠ some i) : rd (putS S w v) (.s i) = rd S (.s i) := by
  cases w with
  | none => rfl
  | some d =>
    show ((S.set d v)[i]?).getD .junk = (S[i]?).getD .junk
    rw [List.getElem?_set_ne (by rintro rfl; exact h rfl)]
theorem putS_comm {S : List AV} {a b : Option Nat} {v u : AV} (h : ∀ d, a = some d → b ≠ some d) : putS (putS S a v) b u = putS (putS S b u) a v := by
  cases a with
  | none => rfl
  | some d =>
    cases b with
    | none => rfl
    | some e => exact List.set_comm v u (by rintro rfl; exact h d rfl rfl)
theorem wantedA_congr {S S' : List AV} {g : Option (Nat × Bool)} (h : ∀ i ∈ (g.map (·.1)).toList, rd S (.s i) = rd S' (.s i)) : wantedA S g = wantedA S' g := by
  cases g with
  | none => rfl
  | some p => simp only [wantedA]; rw [h p.1 (by simp)]
def addrOk (m : MOp) (S : List AV) (H : AHeap) : Prop :=
  match m.act with
  | .ld (.ld _ _ p) => ∀ n off, rd S p = .ptr n off → n < H.length
  | .ld (.lenm x) => ∀ n, rd S x = .mp n → n < H.length
  | .ld (.look _ _ x _) => ∀ n, rd S x = .mp n → n < H.length
  | _ => True
theorem prefix_get {H H' : AHeap} (h : H <+: H') {n : Nat} (hn : n < H.length) : H'[n]? = H[n]? := by
  obtain ⟨X, rfl⟩ := h
  rw [List.getElem?_append_left hn]
theorem prefix_some {H H' : AHeap} (h : H <+: H') {n : Nat} {o : AObj} (hn : H[n]? = some o) : H'[n]? = some o := by
  rw [prefix_get h (List.getElem?_eq_some_iff.1 hn).1, hn]
theorem lval_down {l : LAct} {S : List AV} {H H' : AHeap} {m : MOp} (hm : m.act = .ld l) (ha : addrOk m S H) (hp : H <+: H') {v : AV} (h : lval l S H' = some v) : lval l S H = some v := by
  unfold addrOk at ha
  cases l with
  | ld sz ag p =>
    simp only [hm] at ha
    simp only [lval, ldA] at h ⊢
    split at h
    case h_2 => cases h
    rename_i n off hpn
    rw [prefix_get hp (ha n off hpn)] at h
    exact h
  | lenm x =>
    simp only [hm] at ha
    simp only [lval] at h ⊢
    split at h
    · exact h
    · rename_i n hpn
      rw [prefix_get hp (ha n hpn)] at h
      exact h
    · cases h
  | look z ok x k =>
    simp only [hm] at ha
    simp only [lval] at h ⊢
    split at h
    · rename_i n k hpn hk
      rw [prefix_get hp (ha n hpn)] at h
      exact h
    · exact h
    · cases h
theorem lval_up {l : LAct} {S : List AV} {H H' : AHeap} (hp : H <+: H') {v : AV} (h : lval l S H = some v) : lval l S H' = some v := by
  have get : ∀ {n : Nat} {o : AObj}, H[n]? = some o → H'[n]? = some o := prefix_some hp
  cases l with
  | ld sz ag p =>
    simp only [lval, ldA] at h ⊢
    split at h
    case h_2 => cases h
    split at h
    case h_2 => cases h
    rename_i hl
    rw [get hl]; exact h
  | lenm x =>
    simp only [lval] at h ⊢
    split at h
    · exact h
    · split at h
      case h_2 => cases h
      rename_i hl
      rw [get hl]; exact h
    · cases h
  | look z ok x k =>
    simp only [lval] at h ⊢
    split at h
    · split at h
      case h_2 => cases h
      rename_i hl
      rw [get hl]; exact h
    · exact h
    · cases h
theorem indep_slots {a b : MOp} (h : indep a b = true) : (∀ i ∈ b.looks, a.w ≠ some i) ∧ (∀ i ∈ a.looks, b.w ≠ some i) ∧ (∀ d, a.w = some d → b.w ≠ some d) := by
  simp only [indep, Bool.and_eq_true] at h
  obtain ⟨⟨h1, h2⟩, _⟩ := h
  refine ⟨fun i hi he => ?_, fun i hi he => ?_, fun d he => ?_⟩
  · rw [he] at h1
    simp only [Bool.and_eq_true, Bool.not_eq_true'] at h1
    have := h1.1
    rw [List.contains_iff_mem.2 hi] at this
    cases this
  · rw [he] at h2
    simp only [Bool.not_eq_true'] at h2
    rw [List.contains_iff_mem.2 hi] at h2
    cases h2
  · rw [he] at h1
    simp only [Bool.and_eq_true, bne_iff_ne, ne_eq] at h1
    exact h1.2
theorem out_pure {P : Program} {a : Act1} (h : a.cls ≠ 2) {S : List AV} {H H' : AHeap} {v : AV} (ho : a.out P S H v H') : H' = H := by
  cases a with
  | pu p => exact ho.2
  | ld l => exact ho.2
  | _ => exact absurd rfl h
theorem cls_le (a : Act1) : a.cls = 0 ∨ a.cls = 1 ∨ a.cls = 2 := by cases a <;> simp [Act1.cls]
/-- Two neighbours change places. -/
theorem AOps_swap {P : Program} {x m : MOp} {r : List MOp} {Q : List AV → AHeap → Prop} {S : List AV} {H : AHeap} (hi : indep x m = true) (ha : addrOk m S H) (h : AOps P (x :: m :: r) Q S H) : AOps P (m :: x :: r) Q S H := by
  obtain ⟨i1, i2, i3⟩ := indep_slots hi
  have mreads : ∀ (v : AV) i, i ∈ m.act.reads → rd (putS S x.w v) (.s i) = rd S (.s i) := fun v i hi => rd_putS (i1 i (by simp [MOp.looks, hi]))
  have mguard : ∀ (v : AV), wantedA (putS S x.w v) m.guard = wantedA S m.guard := fun v => wantedA_congr fun i hi => rd_putS (i1 i (by simp only [MOp.looks, List.mem_append]; exact .inr hi))
  have xreads : ∀ (v : AV) i, i ∈ x.act.reads → rd (putS S m.w v) (.s i) = rd S (.s i) := fun v i hi => rd_putS (i2 i (by simp [MOp.looks, hi]))
  have xguard : ∀ (v : AV), wantedA (putS S m.w v) x.guard = wantedA S x.guard := fun v => wantedA_congr fun i hi => rd_putS (i2 i (by simp only [MOp.looks, List.mem_append]; exact .inr hi))
  have skip_put : ∀ (T : List AV) (o : MOp), (skipS T o = T ∧ o.sk = none) ∨ ∃ v, skipS T o = putS T o.w v ∧ o.sk = some v := by
    intro T o
    cases hs : o.sk with
    | none => exact .inl ⟨by simp [skipS, hs], rfl⟩
    | some v => exact .inr ⟨v, by simp [skipS, hs], rfl⟩
  simp only [AOps] at h ⊢
  cases hx : wantedA S x.guard with
  | none => rw [hx] at h; exact h.elim
  | some tx =>
    rw [hx] at h
    simp only at h
    cases tx with
    | true =>
      simp only [if_true] at h
      obtain ⟨v, H1, hxo, hxe, h⟩ := h
      rw [mguard v] at h
      cases hm : wantedA S m.guard with
      | none => rw [hm] at h; exact h.elim
      | some tm =>
        rw [hm] at h
        simp only at h ⊢
        cases tm with
        | true =>
          simp only [if_true] at h ⊢
          obtain ⟨u, H2, hmo, hme, h⟩ := h
          have hmo' := (out_congr (mreads v)).1 hmo
          have hcls := hi
          simp only [indep, Bool.and_eq_true] at hcls
          have hcls := hcls.2
          have xo : ∀ {H1 : AHeap} {H2 : AHeap}, x.act.out P S H1 v H2 → x.act.out P (putS S m.w u) H1 v H2 := fun h => (out_congr (xreads u)).2 h
          rw [putS_comm i3] at h
          by_cases cx : x.act.cls = 2
          · have cm : m.act.cls ≠ 2 := by intro cm; rw [cx, cm] at hcls; cases hcls
            obtain rfl := out_pure cm hmo
            cases hma : m.act with
            | pu p =>
              rw [hma] at hmo'
              refine ⟨u, H, ⟨hmo'.1, rfl⟩, fun _ => List.prefix_refl _, ?_⟩
              rw [xguard u, hx]
              simp only [if_true]
              exact ⟨v, H2, xo hxo, hxe, h⟩
            | ld l =>
              rw [hma] at hmo' hcls
              rw [cx] at hcls
              simp only [Act1.cls] at hcls
              refine ⟨u, H, ⟨lval_down hma ha (hxe hcls) hmo'.1, rfl⟩, fun _ => List.prefix_refl _, ?_⟩
              rw [xguard u, hx]
              simp only [if_true]
              exact ⟨v, H2, xo hxo, hxe, h⟩
            | _ => rw [hma] at cm; exact absurd rfl cm
          · obtain rfl := out_pure cx hxo
            refine ⟨u, H2, hmo', hme, ?_⟩
            rw [xguard u, hx]
            simp only [if_true]
            refine ⟨v, H2, ?_, fun _ => List.prefix_refl _, h⟩
            by_cases cm : m.act.cls = 2
            · cases hxa : x.act with
              | pu p =>
                rw [hxa] at hxo xo
                exact ⟨(xo hxo).1, rfl⟩
              | ld l =>
                rw [hxa] at hxo xo hcls
                rw [cm] at hcls
                simp only [Act1.cls] at hcls
                exact ⟨lval_up (hme hcls) (xo hxo).1, rfl⟩
              | _ => rw [hxa] at cx; exact absurd rfl cx
            · obtain rfl := out_pure cm hmo
              exact xo hxo
        | false =>
          simp only [Bool.false_eq_true, if_false] at h ⊢
          rcases skip_put S m with ⟨e, hs⟩ | ⟨u, e, hs⟩
          · rw [e, hx]
            simp only [if_true]
            refine ⟨v, H1, hxo, hxe, ?_⟩
            rwa [show skipS (putS S x.w v) m = putS S x.w v by simp [skipS, hs]] at h
          · rw [e, xguard u, hx]
            simp only [if_true]
            refine ⟨v, H1, (out_congr (xreads u)).2 hxo, hxe, ?_⟩
            rw [← putS_comm i3]
            rwa [show skipS (putS S x.w v) m = putS (putS S x.w v) m.w u by simp [skipS, hs]] at h
    | false =>
      simp only [Bool.false_eq_true, if_false] at h
      rcases skip_put S x with ⟨e, hs⟩ | ⟨v, e, hs⟩
      · rw [e] at h
        cases hm : wantedA S m.guard with
        | none => rw [hm] at h; exact h.elim
        | some tm =>
          rw [hm] at h
          simp only at h ⊢
          have xs : ∀ T : List AV, skipS T x = T := fun T => by simp [skipS, hs]
          cases tm with
          | true =>
            simp only [if_true] at h ⊢
            obtain ⟨u, H2, hmo, hme, h⟩ := h
            refine ⟨u, H2, hmo, hme, ?_⟩
            rw [xguard u, hx]
            simp only [Bool.false_eq_true, if_false]
            rw [xs]; exact h
          | false =>
            simp only [Bool.false_eq_true, if_false] at h ⊢
            have : wantedA (skipS S m) x.guard = some false := by
              rcases skip_put S m with ⟨e2, _⟩ | ⟨u, e2, _⟩
              · rw [e2, hx]
              · rw [e2, xguard u, hx]
            rw [this]
            simp only [Bool.false_eq_true, if_false]
            rw [xs]; exact h
      · rw [e, mguard v] at h
        cases hm : wantedA S m.guard with
        | none => rw [hm] at h; exact h.elim
        | some tm =>
          rw [hm] at h
          simp only at h ⊢
          have xs : ∀ T : List AV, skipS T x = putS T x.w v := fun T => by simp [skipS, hs]
          cases tm with
          | true =>
            simp only [if_true] at h ⊢
            obtain ⟨u, H2, hmo, hme, h⟩ := h
            refine ⟨u, H2, (out_congr (mreads v)).1 hmo, hme, ?_⟩
            rw [xguard u, hx]
            simp only [Bool.false_eq_true, if_false]
            rw [xs, ← putS_comm i3]; exact h
          | false =>
            simp only [Bool.false_eq_true, if_false] at h ⊢
            rcases skip_put S m with ⟨e2, hs2⟩ | ⟨u, e2, hs2⟩
            · rw [e2, hx]
              simp only [Bool.false_eq_true, if_false]
              rw [xs]
              rwa [show skipS (putS S x.w v) m = putS S x.w v by simp [skipS, hs2]] at h
            · rw [e2, xguard u, hx]
              simp only [Bool.false_eq_true, if_false]
              rw [xs, ← putS_comm i3]
              rwa [show skipS (putS S x.w v) m = putS (putS S x.w v) m.w u by simp [skipS, hs2]] at h
theorem addrOk_step {x m : MOp} {S : List AV} {H : AHeap} (hi : indep x m = true) (ha : addrOk m S H) {w : Option Nat} {v : AV} {H1 : AHeap} (hw : w = x.w ∨ w = none) (hl : H.length ≤ H1.length ∨ m.act.cls ≠ 1) : addrOk m (putS S w v) H1 := by
  obtain ⟨i1, _, _⟩ := indep_slots hi
  have reads : ∀ o : Opd, (∀ i ∈ o.slots, i ∈ m.act.reads) → rd (putS S w v) o = rd S o := fun o ho => rd_congr fun i hi' => by
    rcases hw with rfl | rfl
    · exact rd_putS (i1 i (by simp [MOp.looks, ho i hi']))
    · rfl
  unfold addrOk at ha ⊢
  split <;> rename_i e <;> simp only [e] at ha
  · intro n off h
    rw [reads _ (by intro i hi'; rw [e]; exact hi')] at h
    rcases hl with hl | hl
    · exact Nat.lt_of_lt_of_le (ha n off h) hl
    · rw [e] at hl; exact absurd rfl hl
  · intro n h
    rw [reads _ (by intro i hi'; rw [e]; exact hi')] at h
    rcases hl with hl | hl
    · exact Nat.lt_of_lt_of_le (ha n h) hl
    · rw [e] at hl; exact absurd rfl hl
  · intro n h
    rw [reads _ (by intro i hi'; rw [e]; exact mem_op (by simp) hi')] at h
    rcases hl with hl | hl
    · exact Nat.lt_of_lt_of_le (ha n h) hl
    · rw [e] at hl; exact absurd rfl hl
  · trivial
/-- An operation comes first, before all that do not matter to it. -/
theorem AOps_first {P : Program} {m : MOp} {r : List MOp} {Q : List AV → AHeap → Prop} : ∀ (L : List MOp) {S : List AV} {H : AHeap}, (∀ x ∈ L, indep x m = true) → addrOk m S H → AOps P (L ++ m :: r) Q S H → AOps P (m :: (L ++ r)) Q S H
  | [], _, _, _, _, h => h
  | x :: L, S, H, hi, ha, h => by
    refine AOps_swap (hi x (by simp)) ha ?_
    have hx := hi x (by simp)
    simp only [List.cons_append, AOps] at h ⊢
    have hlen : ∀ {v : AV} {H1 : AHeap}, x.act.out P S H v H1 → (x.ext = true → H <+: H1) → H.length ≤ H1.length ∨ m.act.cls ≠ 1 := by
      intro v H1 ho he
      by_cases cm : m.act.cls = 1
      · left
        by_cases cx : x.act.cls = 2
        · have hc := hx
          simp only [indep, Bool.and_eq_true] at hc
          have hc := hc.2
          rw [cx, cm] at hc
          exact (he hc).length_le
        · rw [out_pure cx ho]
          exact Nat.le_refl _
      · exact .inr cm
    split at h
    · exact h
    · rename_i t _
      cases t with
      | true =>
        simp only [if_true] at h ⊢
        obtain ⟨v, H1, ho, he, h⟩ := h
        refine ⟨v, H1, ho, he, ?_⟩
        exact AOps_first L (fun y hy => hi y (by simp [hy])) (addrOk_step hx ha (.inl rfl) (hlen ho he)) h
      | false =>
        simp only [Bool.false_eq_true, if_false] at h ⊢
        refine AOps_first L (fun y hy => hi y (by simp [hy])) ?_ h
        unfold skipS
        split
        · exact addrOk_step hx ha (.inl rfl) (.inl (Nat.le_refl _))
        · exact ha
end Go.Eng

namespace Go.Eng
open Go
section
variable {P : Program} {ρ0 : Ren} {H0 : AHeap} {w0 : World} {bx : List Nat} {β : Nat → Option Nat} {ρ : Ren} {S : List AV} {H : AHeap} {a : Act} {w : World}
/-- A slot is left without a value. -/
theorem Fr.skip (F : Fr ρ0 H0 w0 bx β ρ S H a w) (d : Option Nat) : Fr ρ0 H0 w0 bx β ρ (putS S d (if isDst bx d then .junk else undefA)) H (a.put d undef) w := by
  cases d with
  | none => exact F
  | some d =>
    by_cases hd : bx.contains d = true
    · simp only [isDst, hd, if_true, putS]
      refine ⟨F.sim, F.step, F.dfr, by simp [Act.put, F.len], ?_, ?_, F.priv⟩
      · intro i hi
        have hne : d ≠ i := by rintro rfl; rw [hd] at hi; cases hi
        rw [rd_set, getD_put, if_neg (by simp [hne]), if_neg (by simp [hne])]
        exact F.slots i hi
      · intro d' hd'
        by_cases he : d = d'
        · subst he
          left
          rw [rd_set]
          split
          · rfl
          · rename_i h
            exact rd_out (by simpa using h)
        · have e1 : rd (S.set d .junk) (.s d') = rd S (.s d') := by rw [rd_set, if_neg (by simp [he])]
          have e2 : (a.put (some d) undef).tmps.getD d' undef = a.tmps.getD d' undef := by rw [getD_put, if_neg (by simp [he])]
          rw [e1, e2]
          exact F.boxes d' hd'
    · simp only [isDst, hd]
      exact F.put (dst := some d) (by simpa [isDst] using hd) undef_ok
theorem getD_some {a : Act} {d : Nat} {b : Bool} (h : a.tmps.getD d undef = .bool b) : a.tmps[d]? = some (.bool b) := by
  rw [Array.getD_eq_getD_getElem?] at h
  cases he : a.tmps[d]? with
  | none => rw [he] at h; simp [undef] at h
  | some v => rw [he] at h; simp at h; rw [h]
/-- The guard says the same. -/
theorem guard_ok (F : Fr ρ0 H0 w0 bx β ρ S H a w) {ops : List Oper} {o : Oper} {g : Option (Nat × Bool)} (hg : trGuard ops bx o = some g) {t : Bool} (ht : wantedA S g = some t) : Region.wanted o (yielded ops.toArray a.tmps) = t := by
  unfold trGuard at hg
  unfold Region.wanted
  split at hg
  · rename_i hog
    cases hg
    simp [wantedA] at ht
    subst ht
    rw [hog]
  · rename_i j want hog
    split at hg
    case h_2 => cases hg
    rename_i d hd
    split at hg
    · cases hg
    rename_i hbx
    cases hg
    rw [hog]
    simp only
    have hs := F.slots d (by simpa using hbx)
    have hy : yielded ops.toArray a.tmps j = (match a.tmps[d]? with | some (.bool b) => some b | _ => none) := by
      simp only [yielded, List.getElem?_toArray, hd, Option.bind_some]
      cases a.tmps[d]? with
      | none => rfl
      | some v => cases v <;> rfl
    rw [hy]
    simp only [wantedA] at ht
    split at ht
    · rename_i b hb
      rw [hb] at hs
      cases ht
      generalize hv : a.tmps.getD d undef = cv at hs
      cases hs
      rw [getD_some hv]
      cases b <;> cases want <;> rfl
    · rename_i hb
      cases ht
      rw [hb] at hs
      have hs' := hs
      generalize hv : a.tmps.getD d undef = cv at hs hs'
      cases hs with
      | tuple _ vs _ _ =>
        rw [Array.getD_eq_getD_getElem?] at hv
        cases he : a.tmps[d]? with
        | none => rfl
        | some u => rw [he] at hv; simp at hv; subst hv; rfl
    · cases ht
theorem trOp_some {E : BoxEnv} {ops : List Oper} {ext : Bool} {o : Oper} {m : MOp} (h : trOp P bx E ops ext o = some m) :
    ∃ g, trGuard ops bx o = some g ∧ dstOk bx o = true ∧ lactOk bx m.act = true ∧ m = { w := trW bx E o, sk := trSk bx E o, guard := g, ext := ext, act := (trAct P bx E o).getD (.pu .fail) } := by
  unfold trOp at h
  split at h
  · cases h
  rename_i g hg
  split at h
  case isFalse => cases h
  rename_i hd
  cases h
  simp only [Bool.and_eq_true] at hd
  exact ⟨g, hg, hd.1, hd.2, rfl⟩
theorem addrOk_of (F : Fr ρ0 H0 w0 bx β ρ S H a w) {m : MOp} (h : lactOk bx m.act = true) : addrOk m S H := by
  have dom : ∀ {p : Opd}, okAddr bx p = true → (∀ n off, rd S p = .ptr n off → n < H.length) ∧ (∀ n, rd S p = .mp n → n < H.length) := by
    intro p hp
    cases p with
    | s i =>
      have hx := F.slots i (by simpa [okAddr] using hp)
      refine ⟨fun n off h => ?_, fun n h => ?_⟩
      · rw [h] at hx
        generalize a.tmps.getD i undef = cv at hx
        cases hx with
        | ptr _ _ L hn => exact (F.sim.dom n L hn).1
      · rw [h] at hx
        generalize a.tmps.getD i undef = cv at hx
        cases hx with
        | mp _ L hn _ => exact (F.sim.dom n L hn).1
    | c v => exact ⟨fun n off h => by simp only [rd] at h; subst h; simp [okAddr] at hp, fun n h => by simp only [rd] at h; subst h; simp [okAddr] at hp⟩
  unfold addrOk
  unfold lactOk at h
  split <;> rename_i e <;> simp only [e] at h
  · exact (dom h).1
  · exact (dom h).2
  · exact (dom h).2
  · trivial
/-- What a region's translation has looked at. -/
structure RegionOk (P : Program) (bx : List Nat) (ops : List Oper) (draw : Bool) (E : BoxEnv) (l : List MOp) (pr : Nat → Nat → Bool) : Prop where
  len : l.length = ops.length
  op : ∀ (i : Nat) o, ops[i]? = some o → ∃ m ext, l[i]? = some m ∧ trOp P bx E ops ext o = some m
  once : ∀ (i j : Nat) o o' d, ops[i]? = some o → ops[j]? = some o' → o.dst = some d → o'.dst = some d → i = j
  used : ∀ (i : Nat) o j, ops[i]? = some o → j ∈ usesEnv bx E o → pr i j = true
  made : ∀ e ∈ E, ∀ (k : Nat) o, ops[k]? = some o → isBnew bx o = some e.2.2.1 → pr e.1 k = true
  entry : ∀ e ∈ E, ∃ o s x f q fd, ops[e.1]? = some o ∧ o.op = .fieldAddr s x f ∧ o.dst = some e.2.1 ∧ addrOf bx E x = some q ∧ fieldOf P s f = some fd ∧ e.2.2.1 = q.2.1 ∧ e.2.2.2 = q.2.2 + fd.offset
theorem skipS_eq (P : Program) (bx : List Nat) (E : BoxEnv) (S : List AV) {o : Oper} {m : MOp} {ops : List Oper} {ext : Bool} (h : trOp P bx E ops ext o = some m) :
    skipS S m = putS S o.dst (if isDst bx o.dst then .junk else undefA) ∨ (o.dst = none ∧ skipS S m = S) := by
  obtain ⟨g, _, hd, _, rfl⟩ := trOp_some h
  simp only [skipS]
  unfold trSk trW
  cases hop : o.op <;> try (left; rfl)
  case store t x y =>
    simp only
    have hn : o.dst = none := by simpa [dstOk, hop] using hd
    cases ha : addrOf bx E x with
    | some q => right; exact ⟨hn, rfl⟩
    | none => right; rw [hn]; exact ⟨rfl, rfl⟩
/-- One operation of a region comes up. -/
theorem region_step {ops : List Oper} {draw : Bool} {E : BoxEnv} {l : List MOp} {pr : Nat → Nat → Bool} (R : RegionOk P bx ops draw E l pr) (F : Fr ρ0 H0 w0 bx β ρ S H a w) {D : List Nat} (hEnv : EnvOk bx E β S a D) (hcl : ∀ j ∈ D, ∀ k, pr j k = true → k ∈ D) {i : Nat} {o : Oper} {m : MOp} (ho : ops[i]? = some o) (hm : l[i]? = some m)
    (hi : i ∉ D) (hpr : ∀ j, pr i j = true → j ∈ D) {r : List MOp} {Q : List AV → AHeap → Prop} (hA : AOps P (m :: r) Q S H) {K : Act → World → Prop} {Q' : Exit → Act → World → Prop}
    (hK : ∀ ρ' β' S' H' a' w', Fr ρ0 H0 w0 bx β' ρ' S' H' a' w' → EnvOk bx E β' S' a' (i :: D) → AOps P r Q S' H' → K a' w') : wpOp P ops.toArray Q' i K a w := by
  obtain ⟨m', ext, hm', htr⟩ := R.op i o ho
  rw [hm] at hm'; cases hm'
  obtain ⟨g, hg, hd, hla, hmeq⟩ := trOp_some htr
  have hlt : i < ops.length := (List.getElem?_eq_some_iff.1 ho).1
  unfold wpOp
  simp only [List.getElem?_toArray, ho]
  simp only [AOps] at hA
  -- the slots of the addresses that are known are not written
  have keepE : ∀ e ∈ E, e.1 ∈ D → o.dst ≠ some e.2.1 ∧ trW bx E o ≠ some e.2.1 := by
    intro e he hje
    obtain ⟨o', s, x, f, q, fd, h1, h2, h3, h4, h5, _⟩ := R.entry e he
    have hne : o.dst ≠ some e.2.1 := fun h => hi ((R.once i e.1 o o' e.2.1 ho h1 h h3) ▸ hje)
    refine ⟨hne, ?_⟩
    unfold trW
    cases hop : o.op <;> try exact hne
    rename_i t y z
    simp only
    cases hy : addrOf bx E y with
    | none => exact hne
    | some q' =>
      simp only
      intro hb
      have hb : q'.2.1 = e.2.1 := by simpa using hb
      rw [← hb] at h3
      -- the store's box is the slot: but that slot is no box
      obtain ⟨m2, ext2, _, htr2⟩ := R.op e.1 o' h1
      obtain ⟨_, _, hd2, _⟩ := trOp_some htr2
      have hnb : bx.contains q'.2.1 = false := by
        have : dstOk bx o' = true := hd2
        simp only [dstOk, h2, h3, isDst] at this
        simpa using this
      have hbox : bx.contains q'.2.1 = true := by
        cases y with
        | tmp t' =>
          simp only [addrOf] at hy
          split at hy
          · cases hy; assumption
          · simp only [Option.map_eq_some_iff] at hy
            obtain ⟨e', he', rfl⟩ := hy
            have := List.find?_some he'
            simp only [Bool.and_eq_true] at this
            exact this.2
        | _ => simp [addrOf] at hy
      rw [hnb] at hbox
      cases hbox
  split at hA
  · exact hA.elim
  rename_i t ht
  rw [hmeq] at ht
  have hwant := guard_ok F hg ht
  cases t with
  | true =>
    simp only [if_true] at hA
    obtain ⟨v, H', hout, _, hA⟩ := hA
    rw [if_pos hwant]
    left
    cases htr' : trAct P bx E o with
    | none =>
      rw [hmeq, htr'] at hout
      exact absurd hout.1 (by simp [pval])
    | some act =>
      rw [hmeq, htr'] at hout hA
      simp only [Option.getD_some] at hout hA
      refine op_sound F htr' hd ?_ hout ?_
      · intro e he hju hadr hbox
        exact hEnv e he (hpr _ (R.used i o e.1 ho hju)) hadr hbox
      · intro ρ' β' a' w' F' htm hβ hfa
        refine hK ρ' β' _ H' a' w' F' ?_ hA
        intro e he hj hadr hbox
        simp only [List.mem_cons] at hj
        by_cases hei : e.1 = i
        · obtain ⟨o', s, x, f, q, fd, h1, h2, h3, h4, h5, h6, h7⟩ := R.entry e he
          rw [hei, ho] at h1; cases h1
          obtain ⟨blk, k1, k2⟩ := hfa s x f q fd h2 h4 h5
          rw [h6, h7]
          refine ⟨blk, k1, k2 e.2.1 h3 ?_⟩
          refine Decidable.by_contra fun hge => ?_
          have hout : ¬ e.2.1 < (putS S (trW bx E o) v).length := by
            have : (putS S (trW bx E o) v).length = S.length := by
              cases trW bx E o <;> simp [putS]
            rw [this]; exact hge
          rw [rd_out hout] at hadr
          cases hadr
        · have hjD : e.1 ∈ D := by rcases hj with h | h; exact absurd h hei; exact h
          obtain ⟨k1, k2⟩ := keepE e he hjD
          rw [rd_putS k2] at hadr
          obtain ⟨blk, g1, g2⟩ := hEnv e he hjD hadr hbox
          refine ⟨blk, ?_, ?_⟩
          · rw [hβ e.2.2.1 (fun hb => hi (hcl e.1 hjD i (R.made e he i o ho hb)))]; exact g1
          · rw [htm e.2.1 k1]; exact g2
  | false =>
    simp only [Bool.false_eq_true, if_false] at hA
    rw [if_neg (by rw [hwant]; simp)]
    have F' := F.skip o.dst
    have hsk : skipS S m = putS S o.dst (if isDst bx o.dst then .junk else undefA) := by
      rcases skipS_eq P bx E S htr with h | ⟨h1, h2⟩
      · exact h
      · rw [h2, h1]; rfl
    rw [hsk] at hA
    refine hK ρ β _ H _ w F' ?_ hA
    intro e he hj hadr hbox
    simp only [List.mem_cons] at hj
    by_cases hei : e.1 = i
    · exfalso
      obtain ⟨o', s, x, f, q, fd, h1, h2, h3, h4, h5, h6, h7⟩ := R.entry e he
      rw [hei, ho] at h1; cases h1
      have hnd : isDst bx o.dst = false := by simpa [dstOk, h2] using hd
      rw [hnd, h3] at hadr
      simp only [putS, rd_set] at hadr
      split at hadr
      · simp [isAdr] at hadr
      · rename_i hx
        rw [rd_out (by simpa using hx)] at hadr
        cases hadr
    · have hjD : e.1 ∈ D := by rcases hj with h | h; exact absurd h hei; exact h
      obtain ⟨k1, k2⟩ := keepE e he hjD
      rw [rd_putS k1] at hadr
      obtain ⟨blk, g1, g2⟩ := hEnv e he hjD hadr hbox
      exact ⟨blk, g1, by rw [put_other e.2.1 k1]; exact g2⟩
end
end Go.Eng
namespace Go.Eng
open Go
section
variable {P : Program} {ρ0 : Ren} {H0 : AHeap} {w0 : World} {bx : List Nat}
/-- The text's order. -/
theorem region_text {ops : List Oper} {draw : Bool} {E : BoxEnv} {l : List MOp} (R : RegionOk P bx ops draw E l (fun i j => decide (j < i))) {Q : List AV → AHeap → Prop} {Q' : Exit → Act → World → Prop}
    (hQ : ∀ ρ' β' S' H' a' w', Fr ρ0 H0 w0 bx β' ρ' S' H' a' w' → Q S' H' → Q' .normal a' w') : ∀ (n k : Nat) {β : Nat → Option Nat} {ρ : Ren} {S : List AV} {H : AHeap} {a : Act} {w : World}, k + n = ops.length → Fr ρ0 H0 w0 bx β ρ S H a w →
      EnvOk bx E β S a (List.range k) → AOps P (l.drop k) Q S H → wpOps P ops.toArray Q' (List.range' k n) a w
  | 0, k, β, ρ, S, H, a, w, hk, F, hE, h => by
    have : l.drop k = [] := List.drop_eq_nil_of_le (by rw [R.len]; omega)
    rw [this] at h
    exact hQ ρ β S H a w F h
  | n + 1, k, β, ρ, S, H, a, w, hk, F, hE, h => by
    have hlt : k < ops.length := by omega
    have hlt' : k < l.length := by rw [R.len]; exact hlt
    rw [List.range'_succ, wpOps_cons]
    rw [List.drop_eq_getElem_cons hlt'] at h
    refine region_step R F (D := List.range k) hE (fun j hj i hi => ?_) (i := k) (o := ops[k]) (m := l[k]) (by simp [hlt]) (by simp [hlt']) (by simp) (fun j hj => ?_) h ?_
    · have h1 : j < k := by simpa using hj
      have h2 : i < j := by simpa using hi
      simp; omega
    · have : j < k := by simpa using hj
      simpa using this
    · intro ρ' β' S' H' a' w' F' hE' hA'
      refine region_text R hQ n (k + 1) (by omega) F' (fun e he hj => hE' e he ?_) hA'
      have : e.1 < k + 1 := by simpa using hj
      simp; omega
theorem fm_congr {α β : Type} {f g : α → Option β} : ∀ {l : List α}, (∀ x ∈ l, f x = g x) → l.filterMap f = l.filterMap g
  | [], _ => rfl
  | x :: l, h => by simp only [List.filterMap_cons]; rw [h x (by simp), fm_congr fun y hy => h y (by simp [hy])]
/-- Those that have not come up, of a list in any order. -/
def restL (L : List (MOp × Nat)) (listed : Array Bool) : List MOp := L.filterMap fun p => if listed.getD p.2 true then none else some p.1
theorem restL_append (L1 L2 : List (MOp × Nat)) (listed : Array Bool) : restL (L1 ++ L2) listed = restL L1 listed ++ restL L2 listed := List.filterMap_append
theorem pairsOk_split {α : Type} {ok : α → α → Bool} : ∀ {L1 : List α} {x : α} {L2 : List α}, pairsOk ok (L1 ++ x :: L2) = true → (∀ a ∈ L1, ok a x = true) ∧ ∀ b ∈ L2, ok x b = true
  | [], x, L2, h => by
    simp only [List.nil_append, pairsOk, Bool.and_eq_true] at h
    exact ⟨by simp, List.all_eq_true.1 h.1⟩
  | y :: L1, x, L2, h => by
    simp only [List.cons_append, pairsOk, Bool.and_eq_true] at h
    obtain ⟨h1, h2⟩ := pairsOk_split h.2
    refine ⟨fun a ha => ?_, h2⟩
    rcases List.mem_cons.1 ha with rfl | ha
    · exact List.all_eq_true.1 h.1 x (by simp)
    · exact h1 a ha
theorem mem_restL {L : List (MOp × Nat)} {listed : Array Bool} {x : MOp} (h : x ∈ restL L listed) : ∃ j, (x, j) ∈ L ∧ listed.getD j true = false := by
  unfold restL at h
  rw [List.mem_filterMap] at h
  obtain ⟨p, hp, hx⟩ := h
  split at hx
  · cases hx
  · rename_i hl
    cases hx
    exact ⟨p.2, hp, by simpa using hl⟩
theorem restL_split {L : List (MOp × Nat)} (nd : pairsOk (fun a b => a.2 != b.2) L = true) {listed : Array Bool} {m : MOp} {i : Nat} (hm : (m, i) ∈ L) (hl : listed.getD i true = false) :
    ∃ L1 L2, L = L1 ++ (m, i) :: L2 ∧ restL L listed = restL L1 listed ++ m :: restL L2 listed ∧ restL L (listed.setIfInBounds i true) = restL L1 listed ++ restL L2 listed := by
  obtain ⟨L1, L2, rfl⟩ := List.append_of_mem hm
  obtain ⟨n1, n2⟩ := pairsOk_split nd
  have gd : ∀ j, j ≠ i → (listed.setIfInBounds i true).getD j true = listed.getD j true := by
    intro j hj
    simp only [Array.getD_eq_getD_getElem?, Array.getElem?_setIfInBounds]
    rw [if_neg (Ne.symm hj)]
  have gs : (listed.setIfInBounds i true).getD i true = true := by
    simp only [Array.getD_eq_getD_getElem?, Array.getElem?_setIfInBounds]
    by_cases hh : i < listed.size <;> simp [hh]
  refine ⟨L1, L2, rfl, ?_, ?_⟩
  · rw [restL_append]
    congr 1
    simp only [restL, List.filterMap_cons, hl, Bool.false_eq_true, if_false]
  · rw [restL_append]
    have e1 : restL L1 (listed.setIfInBounds i true) = restL L1 listed := by
      refine fm_congr fun p hp => ?_
      have : p.2 ≠ i := by have := n1 p hp; simpa using this
      rw [gd p.2 this]
    have e2 : restL L2 (listed.setIfInBounds i true) = restL L2 listed := by
      refine fm_congr fun p hp => ?_
      have : i ≠ p.2 := by have := n2 p hp; simpa using this
      rw [gd p.2 (Ne.symm this)]
    rw [e1]
    congr 1
    have : restL ((m, i) :: L2) (listed.setIfInBounds i true) = restL L2 (listed.setIfInBounds i true) := by simp only [restL, List.filterMap_cons, gs, if_true]
    rw [this, e2]
def listedIds (listed : Array Bool) : List Nat := (List.range listed.size).filter fun i => listed.getD i true
theorem mem_listed {listed : Array Bool} {i : Nat} : i ∈ listedIds listed ↔ i < listed.size ∧ listed.getD i true = true := by
  simp [listedIds]
theorem getD_tf {listed : Array Bool} {i : Nat} (h : i < listed.size) : listed.getD i true = listed.getD i false := by
  simp [Array.getD_eq_getD_getElem?, h]
/-- Where nothing is ready, nothing is left. -/
theorem all_listed {ops : List Oper} (hedge : ∀ (i : Nat) o, ops[i]? = some o → ∀ e ∈ o.after, Region.binds .any e = true → e.on < i) {listed : Array Bool} (hsz : listed.size = ops.length) (hr : Region.ready .any ops.toArray listed = []) : ∀ i, i < ops.length → listed.getD i true = true := by
  intro i
  induction i using Nat.strongRecOn with
  | ind i ih =>
    intro hi
    refine Decidable.by_contra fun hn => ?_
    have hn : listed.getD i true = false := by simpa using hn
    have hmem : i ∈ Region.ready .any ops.toArray listed := by
      rw [mem_ready]
      refine ⟨hn, ops[i], by simp [hi], fun e he hb => ?_⟩
      have hlt := hedge i ops[i] (by simp [hi]) e he hb
      rw [← getD_tf (by omega)]
      exact ih e.on hlt (by omega)
    rw [hr] at hmem
    cases hmem
theorem listed_set {listed : Array Bool} {i : Nat} (hi : i < listed.size) : (∀ j, (listed.setIfInBounds i true).getD j true = if j = i then true else listed.getD j true) ∧ ∀ j, listed.getD j false = true → (listed.setIfInBounds i true).getD j false = true := by
  constructor
  · intro j
    simp only [Array.getD_eq_getD_getElem?, Array.getElem?_setIfInBounds]
    by_cases hji : i = j
    · subst hji; simp [hi]
    · rw [if_neg hji, if_neg (Ne.symm hji)]
  · intro j hj
    simp only [Array.getD_eq_getD_getElem?, Array.getElem?_setIfInBounds] at hj ⊢
    by_cases hji : i = j
    · subst hji; simp [hi]
    · rw [if_neg hji]; exact hj
/-- What has come up is closed under the edges. -/
def Closed (ops : List Oper) (listed : Array Bool) : Prop := ∀ (i : Nat) o, ops[i]? = some o → listed.getD i true = true → ∀ e ∈ o.after, Region.binds .any e = true → listed.getD e.on false = true
theorem Closed.set {ops : List Oper} {listed : Array Bool} (h : Closed ops listed) {i : Nat} {o : Oper} (ho : ops[i]? = some o) (hi : i < listed.size) (hready : ∀ e ∈ o.after, Region.binds .any e = true → listed.getD e.on false = true) : Closed ops (listed.setIfInBounds i true) := by
  obtain ⟨g1, g2⟩ := listed_set hi
  intro j o' hj hlj e he hb
  rw [g1 j] at hlj
  split at hlj
  · rename_i hji
    subst hji
    rw [ho] at hj; cases hj
    exact g2 _ (hready e he hb)
  · exact g2 _ (h j o' hj hlj e he hb)
/-- Any order that the edges allow. 'X': those of which it is known that they have come up. -/
theorem region_gen {ops : List Oper} {draw : Bool} {E : BoxEnv} {l : List MOp} {pr : Nat → Nat → Bool} (R : RegionOk P bx ops draw E l pr) {Q : List AV → AHeap → Prop} {Q' : Exit → Act → World → Prop}
    (hQ : ∀ ρ' β' S' H' a' w', Fr ρ0 H0 w0 bx β' ρ' S' H' a' w' → Q S' H' → Q' .normal a' w')
    (hedge : ∀ (i : Nat) o, ops[i]? = some o → ∀ e ∈ o.after, Region.binds .any e = true → e.on < i)
    (hpr : ∀ (listed : Array Bool), listed.size = ops.length → Closed ops listed →
      ∀ (i : Nat) o, ops[i]? = some o → (∀ e ∈ o.after, Region.binds .any e = true → listed.getD e.on false = true) → ∀ j, pr i j = true → j < ops.length ∧ listed.getD j true = true)
    {L : List (MOp × Nat)} (memL : ∀ m i, (m, i) ∈ L ↔ l[i]? = some m) (nd : pairsOk (fun a b => a.2 != b.2) L = true) (X : Nat → Prop)
    (hind : ∀ L1 L2 i j a b, L = L1 ++ (b, i) :: L2 → (a, j) ∈ L1 → pr i j = true ∨ indep a b = true ∨ X j) :
    ∀ (fuel : Nat) (listed : Array Bool) {β : Nat → Option Nat} {ρ : Ren} {S : List AV} {H : AHeap} {a : Act} {w : World}, listed.size = ops.length →
      Closed ops listed → (∀ j, X j → listed.getD j true = true) → (restL L listed).length ≤ fuel →
      Fr ρ0 H0 w0 bx β ρ S H a w → EnvOk bx E β S a (listedIds listed) → AOps P (restL L listed) Q S H → wpAny P .any ops.toArray Q' fuel listed a w := by
  have nil : ∀ (listed : Array Bool), (∀ i, i < ops.length → listed.getD i true = true) → restL L listed = [] := by
    intro listed h
    rw [restL, List.filterMap_eq_nil_iff]
    intro p hp
    have h1 := (memL p.1 p.2).1 hp
    have h2 := (List.getElem?_eq_some_iff.1 h1).1
    rw [R.len] at h2
    rw [if_pos (h p.2 h2)]
  intro fuel
  induction fuel with
  | zero =>
    intro listed β ρ S H a w hsz hcl hX hlen F hE hA
    have hr0 : restL L listed = [] := List.eq_nil_of_length_eq_zero (by omega)
    rw [hr0] at hA
    refine ⟨?_, hQ ρ β S H a w F hA⟩
    refine List.eq_nil_iff_forall_not_mem.2 fun i hi => ?_
    rw [mem_ready] at hi
    obtain ⟨h1, o, ho, _⟩ := hi
    have ho' : ops[i]? = some o := by simpa using ho
    obtain ⟨m, _, hm, _⟩ := R.op i o ho'
    obtain ⟨L1, L2, _, h2, _⟩ := restL_split nd ((memL m i).2 hm) (by simpa using h1)
    rw [hr0] at h2
    simp at h2
  | succ fuel ih =>
    intro listed β ρ S H a w hsz hcl hX hlen F hE hA
    refine ⟨fun hr => ?_, fun i hi => ?_⟩
    · rw [nil listed (all_listed hedge hsz hr)] at hA
      exact hQ ρ β S H a w F hA
    · rw [mem_ready] at hi
      obtain ⟨h1, o, ho, hready⟩ := hi
      have ho' : ops[i]? = some o := by simpa using ho
      have hlt : i < ops.length := (List.getElem?_eq_some_iff.1 ho').1
      obtain ⟨m, ext, hm, htr⟩ := R.op i o ho'
      obtain ⟨L1, L2, hL, e1, e2⟩ := restL_split nd ((memL m i).2 hm) (by simpa using h1)
      rw [e1] at hA
      obtain ⟨_, _, _, hla, _⟩ := trOp_some htr
      have hA' := AOps_first (restL L1 listed) (fun x hx => ?_) (addrOk_of F hla) hA
      · have hin : ∀ (j : Nat) o', ops[j]? = some o' → (∀ e ∈ o'.after, Region.binds .any e = true → listed.getD e.on false = true) → ∀ k, pr j k = true → k ∈ listedIds listed := by
          intro j o' hj he k hk
          obtain ⟨g1, g2⟩ := hpr listed hsz hcl j o' hj he k hk
          exact mem_listed.2 ⟨by omega, g2⟩
        refine region_step R F hE (fun j hj k hk => ?_) ho' hm (fun hi' => ?_) (hin i o ho' hready) hA' ?_
        · obtain ⟨g1, g2⟩ := mem_listed.1 hj
          have hj' : ops[j]? = some ops[j] := by simp [show j < ops.length by omega]
          exact hin j _ hj' (hcl j _ hj' g2) k hk
        · have := (mem_listed.1 hi').2
          rw [h1] at this; cases this
        · intro ρ' β' S' H' a' w' F' hE' hA''
          obtain ⟨gset, gsetf⟩ := listed_set (listed := listed) (i := i) (by omega)
          refine ih (listed.setIfInBounds i true) (by simpa using hsz) (hcl.set ho' (by omega) hready) ?_ ?_ F' ?_ ?_
          · intro j hj
            rw [gset]
            split
            · rfl
            · exact hX j hj
          · rw [e2]
            rw [e1] at hlen
            simp at hlen ⊢
            omega
          · intro e he hj hadr hbox
            refine hE' e he ?_ hadr hbox
            obtain ⟨g1, g2⟩ := mem_listed.1 hj
            rw [gset] at g2
            simp only [List.mem_cons]
            split at g2
            · left; assumption
            · right; exact mem_listed.2 ⟨by simpa using g1, g2⟩
          · rw [e2]; exact hA''
      · obtain ⟨j, hj1, hj2⟩ := mem_restL hx
        rcases hind L1 L2 i j x m hL hj1 with h | h | h
        · exfalso
          obtain ⟨_, g2⟩ := hpr listed hsz hcl i o ho' hready j h
          rw [hj2] at g2; cases g2
        · exact h
        · have := hX j h
          rw [hj2] at this; cases this
theorem AOps_both {m : MOp} {rA rB : List MOp} {Q : List AV → AHeap → Prop} {S : List AV} {H : AHeap} (hc : m.act.cls ≠ 2) (hA : AOps P (m :: rA) Q S H) (hB : AOps P (m :: rB) Q S H) : AOps P [m] (fun S' H' => AOps P rA Q S' H' ∧ AOps P rB Q S' H') S H := by
  simp only [AOps] at hA hB ⊢
  cases hw : wantedA S m.guard with
  | none => rw [hw] at hA; exact hA.elim
  | some t =>
    rw [hw] at hA hB
    simp only at hA hB ⊢
    cases t with
    | false =>
      simp only [Bool.false_eq_true, if_false] at hA hB ⊢
      exact ⟨hA, hB⟩
    | true =>
      simp only [if_true] at hA hB ⊢
      obtain ⟨v, H1, o1, x1, r1⟩ := hA
      obtain ⟨u, H2, o2, x2, r2⟩ := hB
      have h1 := out_pure hc o1
      have h2 := out_pure hc o2
      subst h1
      subst h2
      have : v = u := by
        cases ha : m.act with
        | pu p =>
          rw [ha] at o1 o2
          exact Option.some.inj (o1.1.symm.trans o2.1)
        | ld q =>
          rw [ha] at o1 o2
          exact Option.some.inj (o1.1.symm.trans o2.1)
        | _ => rw [ha] at hc; exact absurd rfl hc
      subst this
      exact ⟨v, _, o1, x1, r1, r2⟩
/-- Two of them may come in either order. -/
theorem region_two {ops : List Oper} {draw : Bool} {E : BoxEnv} {l : List MOp} {pr : Nat → Nat → Bool} (R : RegionOk P bx ops draw E l pr) {Q : List AV → AHeap → Prop} {Q' : Exit → Act → World → Prop}
    (hQ : ∀ ρ' β' S' H' a' w', Fr ρ0 H0 w0 bx β' ρ' S' H' a' w' → Q S' H' → Q' .normal a' w')
    (hedge : ∀ (i : Nat) o, ops[i]? = some o → ∀ e ∈ o.after, Region.binds .any e = true → e.on < i)
    (hpr : ∀ (listed : Array Bool), listed.size = ops.length → Closed ops listed →
      ∀ (i : Nat) o, ops[i]? = some o → (∀ e ∈ o.after, Region.binds .any e = true → listed.getD e.on false = true) → ∀ j, pr i j = true → j < ops.length ∧ listed.getD j true = true)
    {LA LB : List (MOp × Nat)} (memA : ∀ m i, (m, i) ∈ LA ↔ l[i]? = some m) (memB : ∀ m i, (m, i) ∈ LB ↔ l[i]? = some m) (ndA : pairsOk (fun a b => a.2 != b.2) LA = true) (ndB : pairsOk (fun a b => a.2 != b.2) LB = true) (I J : Nat)
    (hI : I < ops.length) (hIJ : I ≠ J)
    (hindA : ∀ L1 L2 i j a b, LA = L1 ++ (b, i) :: L2 → (a, j) ∈ L1 → pr i j = true ∨ indep a b = true ∨ (j = J ∧ i = I))
    (hindB : ∀ L1 L2 i j a b, LB = L1 ++ (b, i) :: L2 → (a, j) ∈ L1 → pr i j = true ∨ indep a b = true ∨ (j = I ∧ i = J))
    (hcls : ∀ (i : Nat) b, l[i]? = some b → i = I ∨ i = J ∨ b.act.cls ≠ 2 ∨ pr i I = true ∨ pr i J = true) :
    ∀ (fuel : Nat) (listed : Array Bool) {β : Nat → Option Nat} {ρ : Ren} {S : List AV} {H : AHeap} {a : Act} {w : World}, listed.size = ops.length →
      Closed ops listed → listed.getD I true = false → listed.getD J true = false → (restL LA listed).length ≤ fuel → (restL LB listed).length ≤ fuel →
      Fr ρ0 H0 w0 bx β ρ S H a w → EnvOk bx E β S a (listedIds listed) → AOps P (restL LA listed) Q S H → AOps P (restL LB listed) Q S H → wpAny P .any ops.toArray Q' fuel listed a w := by
  intro fuel
  induction fuel with
  | zero =>
    intro listed β ρ S H a w hsz hcl hI0 hJ0 hlA hlB F hE hA hB
    exfalso
    obtain ⟨m, ext, hm, _⟩ := R.op I ops[I] (by simp [hI])
    obtain ⟨L1, L2, _, h2, _⟩ := restL_split ndA ((memA m I).2 hm) hI0
    rw [h2] at hlA
    simp at hlA
  | succ fuel ih =>
    intro listed β ρ S H a w hsz hcl hI0 hJ0 hlA hlB F hE hA hB
    refine ⟨fun hr => ?_, fun i hi => ?_⟩
    · have := all_listed hedge hsz hr I hI
      rw [hI0] at this; cases this
    · rw [mem_ready] at hi
      obtain ⟨h1, o, ho, hready⟩ := hi
      have ho' : ops[i]? = some o := by simpa using ho
      have hlt : i < ops.length := (List.getElem?_eq_some_iff.1 ho').1
      obtain ⟨m, ext, hm, htr⟩ := R.op i o ho'
      obtain ⟨_, _, _, hla, _⟩ := trOp_some htr
      obtain ⟨A1, A2, hLA, a1, a2⟩ := restL_split ndA ((memA m i).2 hm) (by simpa using h1)
      obtain ⟨B1, B2, hLB, b1, b2⟩ := restL_split ndB ((memB m i).2 hm) (by simpa using h1)
      rw [a1] at hA
      rw [b1] at hB
      have hin : ∀ (j : Nat) o', ops[j]? = some o' → (∀ e ∈ o'.after, Region.binds .any e = true → listed.getD e.on false = true) → ∀ k, pr j k = true → k ∈ listedIds listed := by
        intro j o' hj he k hk
        obtain ⟨g1, g2⟩ := hpr listed hsz hcl j o' hj he k hk
        exact mem_listed.2 ⟨by omega, g2⟩
      have hclo : ∀ j ∈ listedIds listed, ∀ k, pr j k = true → k ∈ listedIds listed := by
        intro j hj k hk
        obtain ⟨g1, g2⟩ := mem_listed.1 hj
        have hj' : ops[j]? = some ops[j] := by simp [show j < ops.length by omega]
        exact hin j _ hj' (hcl j _ hj' g2) k hk
      have hni : i ∉ listedIds listed := fun hi' => by
        have := (mem_listed.1 hi').2
        rw [h1] at this; cases this
      obtain ⟨gset, gsetf⟩ := listed_set (listed := listed) (i := i) (by omega)
      have hE2 : ∀ {β' : Nat → Option Nat} {S' : List AV} {a' : Act}, EnvOk bx E β' S' a' (i :: listedIds listed) → EnvOk bx E β' S' a' (listedIds (listed.setIfInBounds i true)) := by
        intro β' S' a' hE' e he hj hadr hbox
        refine hE' e he ?_ hadr hbox
        obtain ⟨g1, g2⟩ := mem_listed.1 hj
        rw [gset] at g2
        simp only [List.mem_cons]
        split at g2
        · left; assumption
        · right; exact mem_listed.2 ⟨by simpa using g1, g2⟩
      have firstA : i ≠ I → AOps P (m :: (restL A1 listed ++ restL A2 listed)) Q S H := fun hiI => by
        refine AOps_first (restL A1 listed) (fun x hx => ?_) (addrOk_of F hla) hA
        obtain ⟨j, hj1, hj2⟩ := mem_restL hx
        rcases hindA A1 A2 i j x m hLA hj1 with h | h | h
        · exfalso
          obtain ⟨_, g2⟩ := hpr listed hsz hcl i o ho' hready j h
          rw [hj2] at g2; cases g2
        · exact h
        · exact absurd h.2 hiI
      have firstB : i ≠ J → AOps P (m :: (restL B1 listed ++ restL B2 listed)) Q S H := fun hiJ => by
        refine AOps_first (restL B1 listed) (fun x hx => ?_) (addrOk_of F hla) hB
        obtain ⟨j, hj1, hj2⟩ := mem_restL hx
        rcases hindB B1 B2 i j x m hLB hj1 with h | h | h
        · exfalso
          obtain ⟨_, g2⟩ := hpr listed hsz hcl i o ho' hready j h
          rw [hj2] at g2; cases g2
        · exact h
        · exact absurd h.2 hiJ
      by_cases hiI : i = I
      · have hiJ : i ≠ J := fun h => hIJ (hiI.symm.trans h)
        refine region_step R F hE hclo ho' hm hni (hin i o ho' hready) (firstB hiJ) ?_
        intro ρ' β' S' H' a' w' F' hE' hA''
        refine region_gen R hQ hedge hpr memB ndB (fun j => j = I) (fun L1 L2 i j a b h1 h2 => ?_) fuel (listed.setIfInBounds i true) (by simpa using hsz) (hcl.set ho' (by omega) hready) ?_ ?_ F' (hE2 hE') ?_
        · rcases hindB L1 L2 i j a b h1 h2 with h | h | h
          · exact .inl h
          · exact .inr (.inl h)
          · exact .inr (.inr h.1)
        · rintro j rfl
          rw [gset, if_pos hiI.symm]
        · rw [b2]; rw [b1] at hlB; simp at hlB ⊢; omega
        · rw [b2]; exact hA''
      · by_cases hiJ : i = J
        · refine region_step R F hE hclo ho' hm hni (hin i o ho' hready) (firstA hiI) ?_
          intro ρ' β' S' H' a' w' F' hE' hA''
          refine region_gen R hQ hedge hpr memA ndA (fun j => j = J) (fun L1 L2 i j a b h1 h2 => ?_) fuel (listed.setIfInBounds i true) (by simpa using hsz) (hcl.set ho' (by omega) hready) ?_ ?_ F' (hE2 hE') ?_
          · rcases hindA L1 L2 i j a b h1 h2 with h | h | h
            · exact .inl h
            · exact .inr (.inl h)
            · exact .inr (.inr h.1)
          · rintro j rfl
            rw [gset, if_pos hiJ.symm]
          · rw [a2]; rw [a1] at hlA; simp at hlA ⊢; omega
          · rw [a2]; exact hA''
        · have hc : m.act.cls ≠ 2 := by
            rcases hcls i m hm with h | h | h | h | h
            · exact absurd h hiI
            · exact absurd h hiJ
            · exact h
            · have := (hpr listed hsz hcl i o ho' hready I h).2
              rw [hI0] at this; cases this
            · have := (hpr listed hsz hcl i o ho' hready J h).2
              rw [hJ0] at this; cases this
          have hAB := AOps_both hc (firstA hiI) (firstB hiJ)
          refine region_step R F hE hclo ho' hm hni (hin i o ho' hready) hAB ?_
          intro ρ' β' S' H' a' w' F' hE' hQ2
          obtain ⟨k1, k2⟩ := hQ2
          refine ih (listed.setIfInBounds i true) (by simpa using hsz) (hcl.set ho' (by omega) hready) ?_ ?_ ?_ ?_ F' (hE2 hE') ?_ ?_
          · rw [gset, if_neg (Ne.symm hiI)]; exact hI0
          · rw [gset, if_neg (Ne.symm hiJ)]; exact hJ0
          · rw [a2]; rw [a1] at hlA; simp at hlA ⊢; omega
          · rw [b2]; rw [b1] at hlB; simp at hlB ⊢; omega
          · rw [a2]; exact k1
          · rw [b2]; exact k2
end
end Go.Eng

namespace Go.Eng
open Go
theorem zipAll {α : Type} {l : List α} {p : α × Nat → Bool} (h : l.zipIdx.all p = true) {i : Nat} {x : α} (hx : l[i]? = some x) : p (x, i) = true := by
  refine List.all_eq_true.1 h (x, i) ?_
  rw [List.mem_zipIdx_iff_getElem?]
  exact hx
theorem envOf_spec (P : Program) (bx : List Nat) : ∀ (ops : List Oper) (k : Nat) (E : BoxEnv), ∃ X, envOf P bx ops k E = E ++ X ∧
    ∀ e ∈ X, ∃ o s x f q fd E1, k ≤ e.1 ∧ ops[e.1 - k]? = some o ∧ o.op = .fieldAddr s x f ∧ o.dst = some e.2.1 ∧ addrOf bx E1 x = some q ∧ E1 <+: E ++ X ∧ fieldOf P s f = some fd ∧ e.2.2.1 = q.2.1 ∧ e.2.2.2 = q.2.2 + fd.offset
  | [], k, E => ⟨[], by simp [envOf], by simp⟩
  | o :: r, k, E => by
    have shift : ∀ (E' : BoxEnv) (X : BoxEnv), (∀ e ∈ X, ∃ o s x f q fd E1, k + 1 ≤ e.1 ∧ r[e.1 - (k + 1)]? = some o ∧ o.op = .fieldAddr s x f ∧ o.dst = some e.2.1 ∧ addrOf bx E1 x = some q ∧ E1 <+: E' ++ X ∧ fieldOf P s f = some fd ∧ e.2.2.1 = q.2.1 ∧ e.2.2.2 = q.2.2 + fd.offset) →
        ∀ e ∈ X, ∃ o' s x f q fd E1, k ≤ e.1 ∧ (o :: r)[e.1 - k]? = some o' ∧ o'.op = .fieldAddr s x f ∧ o'.dst = some e.2.1 ∧ addrOf bx E1 x = some q ∧ E1 <+: E' ++ X ∧ fieldOf P s f = some fd ∧ e.2.2.1 = q.2.1 ∧ e.2.2.2 = q.2.2 + fd.offset := by
      intro E' X h e he
      obtain ⟨o', s, x, f, q, fd, E1, h1, h2, h3⟩ := h e he
      refine ⟨o', s, x, f, q, fd, E1, by omega, ?_, h3⟩
      rw [show e.1 - k = (e.1 - (k + 1)) + 1 by omega]
      simpa using h2
    unfold envOf
    split
    · rename_i s a f d hop hd
      split
      · rename_i chk b off fd ha hf
        obtain ⟨X, hX, hs⟩ := envOf_spec P bx r (k + 1) (E ++ [(k, d, b, off + fd.offset)])
        refine ⟨(k, d, b, off + fd.offset) :: X, by rw [hX]; simp, fun e he => ?_⟩
        simp only [List.mem_cons] at he
        rcases he with rfl | he
        · exact ⟨o, s, a, f, (chk, b, off), fd, E, Nat.le_refl _, by simp, hop, hd, ha, List.prefix_append _ _, hf, rfl, rfl⟩
        · have := shift _ X hs e he
          simpa using this
      · obtain ⟨X, hX, hs⟩ := envOf_spec P bx r (k + 1) E
        exact ⟨X, hX, shift E X hs⟩
    · obtain ⟨X, hX, hs⟩ := envOf_spec P bx r (k + 1) E
      exact ⟨X, hX, shift E X hs⟩
theorem addrOf_prefix {bx : List Nat} {E1 E : BoxEnv} (h : E1 <+: E) {x : Operand} {q : Option Nat × Nat × Nat} (hq : addrOf bx E1 x = some q) : addrOf bx E x = some q := by
  obtain ⟨X, rfl⟩ := h
  cases x with
  | tmp t =>
    simp only [addrOf] at hq ⊢
    split at hq
    · rename_i ht; rw [if_pos ht]; exact hq
    · rename_i ht
      rw [if_neg ht]
      simp only [Option.map_eq_some_iff] at hq ⊢
      obtain ⟨e, he, heq⟩ := hq
      exact ⟨e, by simp only [envFind] at he ⊢; rw [List.find?_append, he]; rfl, heq⟩
  | _ => simp [addrOf] at hq
theorem masks_spec : ∀ (ops : List Oper) (acc : List Nat), ∃ X, masks ops acc = acc ++ X ∧ X.length = ops.length ∧
    ∀ (i : Nat) o, ops[i]? = some o → ∀ j, (((masks ops acc)[acc.length + i]?).getD 0).testBit j = true → ∃ e ∈ o.after, Region.binds .any e = true ∧ (j = e.on ∨ (e.on < acc.length + i ∧ (((masks ops acc)[e.on]?).getD 0).testBit j = true))
  | [], acc => ⟨[], by simp [masks], rfl, by simp⟩
  | o :: r, acc => by
    obtain ⟨X, hX, hl, hs⟩ := masks_spec r (acc ++ [o.after.toList.foldl (fun s e => if Region.binds .any e then s ||| (1 <<< e.on) ||| (acc[e.on]?).getD 0 else s) 0])
    have hm : masks (o :: r) acc = masks r (acc ++ [o.after.toList.foldl (fun s e => if Region.binds .any e then s ||| (1 <<< e.on) ||| (acc[e.on]?).getD 0 else s) 0]) := rfl
    refine ⟨o.after.toList.foldl (fun s e => if Region.binds .any e then s ||| (1 <<< e.on) ||| (acc[e.on]?).getD 0 else s) 0 :: X, by rw [hm, hX]; simp, by simp [hl], fun i o' hi j hj => ?_⟩
    cases i with
    | zero =>
      simp at hi
      subst hi
      rw [hm, hX] at hj ⊢
      have hat : ((acc ++ [o.after.toList.foldl (fun s e => if Region.binds .any e then s ||| (1 <<< e.on) ||| (acc[e.on]?).getD 0 else s) 0] ++ X)[acc.length + 0]?).getD 0 = o.after.toList.foldl (fun s e => if Region.binds .any e then s ||| (1 <<< e.on) ||| (acc[e.on]?).getD 0 else s) 0 := by simp
      rw [hat] at hj
      have fold : ∀ (l : List Edge) (s : Nat), (l.foldl (fun s e => if Region.binds .any e then s ||| (1 <<< e.on) ||| (acc[e.on]?).getD 0 else s) s).testBit j = true → s.testBit j = true ∨ ∃ e ∈ l, Region.binds .any e = true ∧ (j = e.on ∨ ((acc[e.on]?).getD 0).testBit j = true) := by
        intro l
        induction l with
        | nil => intro s h; exact .inl h
        | cons e l ih =>
          intro s h
          simp only [List.foldl_cons] at h
          rcases ih _ h with h | ⟨e', he', h'⟩
          · split at h
            · rename_i hb
              simp only [Nat.testBit_or, Bool.or_eq_true] at h
              rcases h with (h | h) | h
              · exact .inl h
              · refine .inr ⟨e, by simp, hb, .inl ?_⟩
                rw [Nat.shiftLeft_eq, Nat.one_mul, Nat.testBit_two_pow] at h
                exact (of_decide_eq_true h).symm
              · exact .inr ⟨e, by simp, hb, .inr h⟩
            · exact .inl h
          · exact .inr ⟨e', by simp [he'], h'⟩
      rcases fold _ _ hj with h | ⟨e, he, hb, h⟩
      · simp at h
      · refine ⟨e, by simpa using he, hb, ?_⟩
        rcases h with h | h
        · exact .inl h
        · right
          have hlt : e.on < acc.length := by
            refine Decidable.by_contra fun hn => ?_
            rw [List.getElem?_eq_none (by omega)] at h
            simp at h
          refine ⟨by omega, ?_⟩
          rw [List.append_assoc, List.getElem?_append_left hlt]
          exact h
    | succ i =>
      have := hs i o' (by simpa using hi) j (by rw [hm] at hj; simpa [Nat.add_assoc, Nat.add_comm 1 i] using hj)
      rw [hm]
      simpa [Nat.add_assoc, Nat.add_comm 1 i] using this
section
variable {P : Program} {ρ0 : Ren} {H0 : AHeap} {w0 : World} {bx : List Nat}
theorem mapM_zip {α β : Type} {f : α × Nat → Option β} {l : List α} {r : List β} (h : l.zipIdx.mapM f = some r) : r.length = l.length ∧ ∀ (i : Nat) x, l[i]? = some x → ∃ y, r[i]? = some y ∧ f (x, i) = some y := by
  obtain ⟨h1, h2⟩ := mapM_some h
  refine ⟨by simpa using h1.symm, fun i x hx => h2 i (x, i) ?_⟩
  simp [List.getElem?_zipIdx, hx]
/-- What a check of a region shows, whichever table of what comes first it was made with. -/
theorem region_base {ops : List Oper} {draw : Bool} {l : List MOp} {ms : List Nat} {ext : Nat → Bool} (hl : ops.zipIdx.mapM (fun (o, i) => trOp P bx (envOf P bx ops 0 []) ops (ext i) o) = some l)
    (c1 : (ops.zipIdx.all fun (o, i) => match o.dst with | some d => ops.zipIdx.all (fun (o', j) => i == j || o'.dst != some d) | none => true) = true)
    (c2 : (ops.zipIdx.all fun (o, i) => o.after.toList.all fun e => !Region.binds .any e || decide (e.on < i)) = true)
    (c3 : (ops.zipIdx.all fun (o, i) => (usesEnv bx (envOf P bx ops 0 []) o).all (fun j => prec draw ms i j)) = true)
    (c4 : ((envOf P bx ops 0 []).all fun e => ops.zipIdx.all fun (o, k) => match isBnew bx o with | some d => d != e.2.2.1 || prec draw ms e.1 k | none => true) = true) :
    RegionOk P bx ops draw (envOf P bx ops 0 []) l (prec draw ms) ∧ (∀ (i : Nat) o, ops[i]? = some o → ∀ e ∈ o.after, Region.binds .any e = true → e.on < i) := by
  obtain ⟨hlen, hop⟩ := mapM_zip hl
  obtain ⟨X, hX, hspec⟩ := envOf_spec P bx ops 0 []
  refine ⟨⟨hlen, ?_, ?_, ?_, ?_, ?_⟩, ?_⟩
  · intro i o ho
    obtain ⟨m, hm, htr⟩ := hop i o ho
    exact ⟨m, _, hm, htr⟩
  · intro i j o o' d ho ho' hd hd'
    have k := zipAll c1 ho
    simp only [hd] at k
    have k2 := zipAll k ho'
    simp only [hd', Bool.or_eq_true, beq_iff_eq, bne_self_eq_false, Bool.false_eq_true, or_false] at k2
    exact k2
  · intro i o j ho hj
    have k := zipAll c3 ho
    exact List.all_eq_true.1 k j hj
  · intro e he k o ho hb
    have k1 := List.all_eq_true.1 c4 e he
    have k2 := zipAll k1 ho
    simp only [hb, bne_self_eq_false, Bool.false_or] at k2
    exact k2
  · intro e he
    rw [hX] at he ⊢
    simp only [List.nil_append] at he ⊢
    obtain ⟨o, s, x, f, q, fd, E1, h1, h2, h3, h4, h5, h6, h7, h8, h9⟩ := hspec e he
    simp only [List.nil_append] at h6
    exact ⟨o, s, x, f, q, fd, by simpa using h2, h3, h4, addrOf_prefix h6 h5, h7, h8, h9⟩
  · intro i o ho e he hb
    have k := zipAll c2 ho
    have k2 := List.all_eq_true.1 k e (by simpa using he)
    simpa [hb] using k2
theorem region_facts {ops : List Oper} {draw : Bool} {l : List MOp} (h : trRegion P bx ops draw = some l) :
    RegionOk P bx ops draw (envOf P bx ops 0 []) l (prec draw (masks ops [])) ∧ (∀ (i : Nat) o, ops[i]? = some o → ∀ e ∈ o.after, Region.binds .any e = true → e.on < i) ∧
      (draw = true → ∀ (i j : Nat) a b, l[i]? = some b → l[j]? = some a → j < i → prec draw (masks ops []) i j = true ∨ indep a b = true) := by
  unfold trRegion at h
  simp only at h
  split at h
  · cases h
  rename_i l' hl
  split at h
  case isFalse => cases h
  rename_i hok
  cases h
  simp only [regionOk, Bool.and_eq_true] at hok
  obtain ⟨⟨⟨⟨c1, c2⟩, c3⟩, c4⟩, c5⟩ := hok
  obtain ⟨R, hedge⟩ := region_base hl c1 c2 c3 c4
  refine ⟨R, hedge, ?_⟩
  intro hd i j a b hb ha hj
  subst hd
  simp only [Bool.not_true, Bool.false_or] at c5
  have k := zipAll c5 hb
  have k2 := zipAll k ha
  simp only [hj, decide_true, Bool.not_true, Bool.false_or, Bool.or_eq_true] at k2
  exact k2
/-- Those that must come before have come up. -/
theorem masks_ready {ops : List Oper} (listed : Array Bool) (hsz : listed.size = ops.length) (hcl : Closed ops listed)
    (i : Nat) (o : Oper) (ho : ops[i]? = some o) (hready : ∀ e ∈ o.after, Region.binds .any e = true → listed.getD e.on false = true) (j : Nat) (hj : prec true (masks ops []) i j = true) : j < ops.length ∧ listed.getD j true = true := by
  have key : ∀ (i : Nat) o, ops[i]? = some o → (∀ e ∈ o.after, Region.binds .any e = true → listed.getD e.on false = true) → ∀ j, (((masks ops [])[i]?).getD 0).testBit j = true → listed.getD j false = true := by
    intro i
    induction i using Nat.strongRecOn with
    | _ i ih =>
      intro o ho hready j hj
      obtain ⟨X, hX, hl, hs⟩ := masks_spec ops []
      obtain ⟨e, he, hb, hje⟩ := hs i o ho j (by simpa using hj)
      rcases hje with rfl | ⟨hlt, hbit⟩
      · exact hready e he hb
      · have hlt' : e.on < i := by simpa using hlt
        have hon : e.on < ops.length := by have := (List.getElem?_eq_some_iff.1 ho).1; omega
        have hl2 := hready e he hb
        have hl3 : listed.getD e.on true = true := by
          rw [getD_tf (by omega)]
          exact hl2
        exact ih e.on hlt' ops[e.on] (by simp [hon]) (fun e' he' hb' => hcl e.on ops[e.on] (by simp [hon]) hl3 e' he' hb') j hbit
  have hlj := key i o ho hready j (by simpa [prec] using hj)
  have hjlt : j < listed.size := by
    refine Decidable.by_contra fun hn => ?_
    rw [Array.getD_eq_getD_getElem?, Array.getElem?_eq_none (by omega)] at hlj
    simp at hlj
  refine ⟨by omega, ?_⟩
  rw [getD_tf hjlt]
  exact hlj
theorem zip_mem {l : List MOp} {m : MOp} {i : Nat} : (m, i) ∈ l.zipIdx ↔ l[i]? = some m := List.mem_zipIdx_iff_getElem?
theorem nd_zip : ∀ (l : List MOp) (k : Nat), pairsOk (fun a b => a.2 != b.2) (l.zipIdx k) = true
  | [], _ => rfl
  | x :: l, k => by
    rw [List.zipIdx_cons]
    simp only [pairsOk, Bool.and_eq_true]
    refine ⟨List.all_eq_true.2 (fun p hp => ?_), nd_zip l (k + 1)⟩
    have := (List.mem_zipIdx hp).1
    have hne : k ≠ p.2 := by omega
    simpa using hne
/-- In a list with places, who stands before has a smaller place. -/
theorem zip_before {l : List MOp} {L1 L2 : List (MOp × Nat)} {b a : MOp} {i j : Nat} (h : l.zipIdx = L1 ++ (b, i) :: L2) (ha : (a, j) ∈ L1) : j < i := by
  have key : ∀ (l : List MOp) (k : Nat) (L1 : List (MOp × Nat)), l.zipIdx k = L1 ++ (b, i) :: L2 → (a, j) ∈ L1 → j < i := by
    intro l
    induction l with
    | nil => intro k L1 h _; simp at h
    | cons x l ih =>
      intro k L1 h ha
      rw [List.zipIdx_cons] at h
      cases L1 with
      | nil => simp at ha
      | cons y L1 =>
        rw [List.cons_append] at h
        injection h with h1 h2
        rcases List.mem_cons.1 ha with e | ha
        · rw [← e] at h1
          have hb : (b, i) ∈ l.zipIdx (k + 1) := by rw [h2]; simp
          have h3 := (List.mem_zipIdx hb).1
          have h4 : k = j := congrArg Prod.snd h1
          omega
        · exact ih (k + 1) L1 h2 ha
  exact key l 0 L1 h ha
theorem nothing_listed (n i : Nat) : (Array.replicate n false).getD i false = false := by
  rw [Array.getD_eq_getD_getElem?, Array.getElem?_replicate]
  split <;> rfl
theorem nothing_listed' {n i : Nat} (h : i < n) : (Array.replicate n false).getD i true = false := by
  rw [Array.getD_eq_getD_getElem?, Array.getElem?_replicate, if_pos h]; rfl
theorem restL_all {L : List (MOp × Nat)} {n : Nat} (h : ∀ p ∈ L, p.2 < n) : restL L (Array.replicate n false) = L.map (·.1) := by
  induction L with
  | nil => rfl
  | cons x L ih =>
    have hx := nothing_listed' (h x (by simp))
    have := ih (fun p hp => h p (by simp [hp]))
    simp only [restL, List.filterMap_cons, hx, Bool.false_eq_true, if_false, List.map_cons] at this ⊢
    rw [this]
theorem closed_none (ops : List Oper) : Closed ops (Array.replicate ops.length false) := by
  intro i o ho hl
  exfalso
  have hlt : i < ops.length := (List.getElem?_eq_some_iff.1 ho).1
  rw [nothing_listed' hlt] at hl
  cases hl
theorem env_none {E : BoxEnv} {β : Nat → Option Nat} {S : List AV} {a : Act} (n : Nat) : EnvOk bx E β S a (listedIds (Array.replicate n false)) := by
  intro e _ hj
  exfalso
  obtain ⟨h1, h2⟩ := mem_listed.1 hj
  rw [nothing_listed' (by simpa using h1)] at h2
  cases h2
theorem drawn_fr {β : Nat → Option Nat} {ρ : Ren} {S : List AV} {H : AHeap} {a : Act} {w : World} (F : Fr ρ0 H0 w0 bx β ρ S H a w) : Fr ρ0 H0 w0 bx β ρ S H a { w with drawn := w.drawn + 1 } :=
  F.go F.sim.drew ⟨fun _ _ => rfl, Nat.le_refl _, rfl, rfl, rfl, Nat.le_refl _, fun _ _ _ => rfl, fun _ h => .inr h, fun n L e => .inl (F.sim.dom n L e).1⟩
theorem region_sound {ops : List Oper} {draw : Bool} {l : List MOp} {id : Nat} (hm : P.follows .mixedOrders = true) (h : trRegion P bx ops draw = some l) {Q : List AV → AHeap → Prop} {Q' : Exit → Act → World → Prop}
    (hQ : ∀ ρ' β' S' H' a' w', Fr ρ0 H0 w0 bx β' ρ' S' H' a' w' → Q S' H' → Q' .normal a' w') {β : Nat → Option Nat} {ρ : Ren} {S : List AV} {H : AHeap} {a : Act} {w : World} (F : Fr ρ0 H0 w0 bx β ρ S H a w) (hA : AOps P l Q S H) :
    (Code.region id ops.toArray draw).wp P Q' a w := by
  obtain ⟨R, hedge, hind⟩ := region_facts h
  cases draw with
  | false =>
    refine wp_region ?_
    rw [List.size_toArray, List.range_eq_range']
    have R' : RegionOk P bx ops false (envOf P bx ops 0 []) l (fun i j => decide (j < i)) := by
      have e : prec false (masks ops []) = fun i j => decide (j < i) := by funext i j; simp [prec]
      rw [← e]; exact R
    exact region_text R' hQ ops.length 0 (by simp) F (fun e _ hj => by simp at hj) hA
  | true =>
    refine wp_region_any hm ?_
    have hrest : restL l.zipIdx (Array.replicate ops.length false) = l := by
      rw [restL_all (fun p hp => by have := (List.mem_zipIdx hp).2.1; rw [R.len] at this; omega)]
      exact List.zipIdx_map_fst _ _
    rw [List.size_toArray]
    refine region_gen R hQ hedge (fun listed hsz hcl i o ho hr j hj => masks_ready listed hsz hcl i o ho hr j hj) (fun m i => zip_mem) (nd_zip l 0) (fun _ => False) ?_ ops.length _ (by simp) (closed_none ops) (fun j hj => hj.elim) (by rw [hrest, R.len]; exact Nat.le_refl _) (drawn_fr F) (env_none _) (by rw [hrest]; exact hA)
    intro L1 L2 i j a b hL ha
    have hlt := zip_before hL ha
    have hb : (b, i) ∈ l.zipIdx := by rw [hL]; simp
    have ha2 : (a, j) ∈ l.zipIdx := by rw [hL]; simp [ha]
    rcases hind rfl i j a b (zip_mem.1 hb) (zip_mem.1 ha2) hlt with h | h
    · exact .inl h
    · exact .inr (.inl h)
theorem bad_one {ms : List Nat} {l : List MOp} {J I : Nat} (h : badPairs ms l = [(J, I)]) {i j : Nat} {a b : MOp} (hb : l[i]? = some b) (ha : l[j]? = some a) (hj : j < i) : prec true ms i j = true ∨ indep a b = true ∨ (j = J ∧ i = I) := by
  by_cases h1 : prec true ms i j = true
  · exact .inl h1
  by_cases h2 : indep a b = true
  · exact .inr (.inl h2)
  right; right
  have hmem : (j, i) ∈ badPairs ms l := by
    unfold badPairs
    rw [List.mem_flatMap]
    refine ⟨(b, i), zip_mem.2 hb, ?_⟩
    rw [List.mem_filterMap]
    refine ⟨(a, j), zip_mem.2 ha, ?_⟩
    simp only [hj, decide_true, h1, h2, Bool.not_false, Bool.and_self, if_true]
  rw [h] at hmem
  have := List.mem_singleton.1 hmem
  exact ⟨congrArg Prod.fst this, congrArg Prod.snd this⟩
theorem region_sound2 {ops : List Oper} {draw : Bool} {p : List MOp × List MOp} {id : Nat} (hm : P.follows .mixedOrders = true) (h : trRegion2 P bx ops draw = some p) {Q : List AV → AHeap → Prop} {Q' : Exit → Act → World → Prop}
    (hQ : ∀ ρ' β' S' H' a' w', Fr ρ0 H0 w0 bx β' ρ' S' H' a' w' → Q S' H' → Q' .normal a' w') {β : Nat → Option Nat} {ρ : Ren} {S : List AV} {H : AHeap} {a : Act} {w : World} (F : Fr ρ0 H0 w0 bx β ρ S H a w) (hA : AOps P p.1 Q S H) (hB : AOps P p.2 Q S H) :
    (Code.region id ops.toArray draw).wp P Q' a w := by
  unfold trRegion2 at h
  cases draw with
  | false => simp at h
  | true =>
    simp only [if_true] at h
    split at h
    · cases h
    rename_i l hl
    split at h
    case h_2 => cases h
    rename_i J I hbad
    split at h
    case isFalse => cases h
    rename_i hok
    cases h
    simp only [Bool.and_eq_true, regionOk] at hok
    obtain ⟨⟨⟨⟨⟨⟨⟨⟨⟨⟨⟨c1, c2⟩, _⟩, _⟩, _⟩, c3⟩, c4⟩, cJI⟩, cI⟩, c6⟩, c7⟩, cnd⟩ := hok
    have hJI : J < I := of_decide_eq_true cJI
    obtain ⟨R, hedge⟩ := region_base hl c1 c2 c3 c4
    have hIl : I < ops.length := by rw [← R.len]; exact of_decide_eq_true cI
    have memB : ∀ m i, (m, i) ∈ moveB l.zipIdx J I ↔ l[i]? = some m := by
      intro m i
      rw [← zip_mem]
      unfold moveB
      rw [List.mem_append, List.mem_append, List.mem_filter, List.mem_filter, List.mem_filter]
      simp only [Bool.and_eq_true, Bool.not_eq_true', decide_eq_true_eq, decide_eq_false_iff_not]
      constructor
      · rintro ((h | h) | h) <;> exact h.1
      · intro h
        by_cases k2 : i = J
        · exact .inl (.inr ⟨h, k2⟩)
        · by_cases k1 : i ≤ I
          · exact .inl (.inl ⟨h, k1, k2⟩)
          · exact .inr ⟨h, k1, k2⟩
    have hrestA : restL l.zipIdx (Array.replicate ops.length false) = l := by
      rw [restL_all (fun p hp => by have := (List.mem_zipIdx hp).2.1; rw [R.len] at this; omega)]
      exact List.zipIdx_map_fst _ _
    have hrestB : restL (moveB l.zipIdx J I) (Array.replicate ops.length false) = (moveB l.zipIdx J I).map (·.1) := by
      refine restL_all (fun p hp => ?_)
      have := (List.getElem?_eq_some_iff.1 ((memB p.1 p.2).1 hp)).1
      rw [R.len] at this
      exact this
    refine wp_region_any hm ?_
    rw [List.size_toArray]
    have hlenB : ((moveB l.zipIdx J I).map (·.1)).length ≤ ops.length := by
      rw [List.length_map]
      exact of_decide_eq_true cnd.2
    refine region_two R hQ hedge (fun listed hsz hcl i o ho hr j hj => masks_ready listed hsz hcl i o ho hr j hj) (fun m i => zip_mem) memB (nd_zip l 0) cnd.1 I J hIl (by omega) ?_ ?_ ?_ ops.length _ (by simp) (closed_none ops) (nothing_listed' hIl) (nothing_listed' (by omega)) (by rw [hrestA, R.len]; exact Nat.le_refl _) (by rw [hrestB]; exact hlenB) (drawn_fr F) (env_none _) (by rw [hrestA]; exact hA) (by rw [hrestB]; exact hB)
    · intro L1 L2 i j a b hL ha
      have hlt := zip_before hL ha
      have hb : (b, i) ∈ l.zipIdx := by rw [hL]; simp
      have ha2 : (a, j) ∈ l.zipIdx := by rw [hL]; simp [ha]
      exact bad_one hbad (zip_mem.1 hb) (zip_mem.1 ha2) hlt
    · intro L1 L2 i j a b hL ha
      rw [hL] at c6
      have := (pairsOk_split c6).1 (a, j) ha
      simp only [Bool.or_eq_true, Bool.and_eq_true, beq_iff_eq] at this
      rcases this with (h | h) | h
      · exact .inl h
      · exact .inr (.inl h)
      · exact .inr (.inr h)
    · intro i b hb
      have k := zipAll c7 hb
      simp only [Bool.or_eq_true, beq_iff_eq, bne_iff_ne, ne_eq] at k
      rcases k with (((h | h) | h) | h) | h
      · exact .inl h
      · exact .inr (.inl h)
      · exact .inr (.inr (.inl h))
      · exact .inr (.inr (.inr (.inl h)))
      · exact .inr (.inr (.inr (.inr h)))
section
variable {P : Program}
theorem Forget.rfl' {S : List AV} : Forget S S := ⟨rfl, fun _ => .inr rfl⟩
theorem AOps_mono : ∀ (l : List MOp) {Q1 Q2 : List AV → AHeap → Prop}, (∀ S H, Q1 S H → Q2 S H) → ∀ {S : List AV} {H : AHeap}, AOps P l Q1 S H → AOps P l Q2 S H := by
  intro l
  induction l with
  | nil => intro Q1 Q2 hq S H h; exact hq S H h
  | cons o r ih =>
    intro Q1 Q2 hq S H h
    simp only [AOps] at h ⊢
    split at h
    · exact h
    · rename_i t _
      cases t with
      | true =>
        simp only [if_true] at h ⊢
        obtain ⟨v, H1, h1, h2, h3⟩ := h
        exact ⟨v, H1, h1, h2, ih hq h3⟩
      | false =>
        simp only [Bool.false_eq_true, if_false] at h ⊢
        exact ih hq h
theorem AW_mono : ∀ {m : MCode} {Q1 Q2 : Post}, (∀ e S H, Q1 e S H → Q2 e S H) → ∀ {S : List AV} {H : AHeap}, AW P m Q1 S H → AW P m Q2 S H := by
  intro m
  induction m with
  | skip => intro Q1 Q2 hq S H h; exact hq _ S H h
  | ops l => intro Q1 Q2 hq S H h; exact AOps_mono l (fun S H h => hq _ S H h) h
  | ops2 l l' => intro Q1 Q2 hq S H h; exact ⟨AOps_mono l (fun S H h => hq _ S H h) h.1, AOps_mono l' (fun S H h => hq _ S H h) h.2⟩
  | seq a b iha ihb =>
    intro Q1 Q2 hq S H h
    refine iha (fun e S H h => ?_) h
    cases e with
    | normal => exact ihb hq h
    | exit id => exact hq _ S H h
    | ret => exact hq _ S H h
  | cond c a b iha ihb =>
    intro Q1 Q2 hq S H h
    simp only [AW] at h ⊢
    split at h
    · split at h
      · rename_i ht; rw [if_pos ht]; exact iha hq h
      · rename_i ht; rw [if_neg ht]; exact ihb hq h
    · exact h
  | block id a iha =>
    intro Q1 Q2 hq S H h
    refine iha (fun e S H h => ?_) h
    cases e with
    | normal => exact hq _ S H h
    | exit id' =>
      simp only [MX.inBlock] at h ⊢
      split at h
      · rename_i hi; rw [if_pos hi]; exact hq _ S H h
      · rename_i hi; rw [if_neg hi]; exact hq _ S H h
    | ret => exact hq _ S H h
  | loop a iha =>
    intro Q1 Q2 hq S H h
    obtain ⟨J, h0, h1⟩ := h
    refine ⟨J, h0, fun k S H hj => iha (fun e S' H' h => ?_) (h1 k S H hj)⟩
    cases e with
    | normal => exact h
    | exit id => exact hq _ S' H' h
    | ret => exact hq _ S' H' h
  | exit id => intro Q1 Q2 hq S H h; exact hq _ S H h
  | cut a iha =>
    intro Q1 Q2 hq S H h
    obtain ⟨S0, h0, h1⟩ := h
    exact ⟨S0, h0, iha hq h1⟩
  | label l => intro Q1 Q2 hq S H h; exact hq _ S H h
  | scope g a r iha ihr =>
    intro Q1 Q2 hq S H h
    obtain ⟨J, h0, h1⟩ := h
    have key : ∀ {K : List AV → AHeap → Prop} e S H, MX.inScope g K Q1 e S H → MX.inScope g K Q2 e S H := by
      intro K e S H h
      cases e with
      | normal => exact hq _ S H h
      | exit id =>
        simp only [MX.inScope] at h ⊢
        split at h
        · rename_i hi; rw [if_pos hi]; exact h
        · rename_i hi
          rw [if_neg hi]
          split at h
          · exact h.elim
          · rename_i hg; rw [if_neg hg]; exact hq _ S H h
      | ret => exact hq _ S H h
    exact ⟨J, iha key h0, fun k S H hj => ihr key (h1 k S H hj)⟩
  | ret => intro Q1 Q2 hq S H h; exact hq _ S H h
  | fail => intro Q1 Q2 hq S H h; exact h
end
def MX.conc : MX → Exit
  | .normal => .normal
  | .exit id => if id < GB then .exit id else .goto (id - GB)
  | .ret => .ret
theorem conc_exit (id : Nat) : (id < GB ∧ MX.conc (.exit id) = .exit id) ∨ (GB ≤ id ∧ MX.conc (.exit id) = .goto (id - GB)) := by
  by_cases h : id < GB
  · exact .inl ⟨h, by simp [MX.conc, h]⟩
  · exact .inr ⟨by omega, by simp [MX.conc, h]⟩
/-- What stands behind a piece of code, in the model's words. -/
def Conc (ρ0 : Ren) (H0 : AHeap) (w0 : World) (bx : List Nat) (Q : Post) : Exit → Act → World → Prop :=
  fun e a w => ∃ me ρ β S H, e = MX.conc me ∧ Fr ρ0 H0 w0 bx β ρ S H a w ∧ Q me S H
/-- The abstract run tells the model's. -/
def Sound (P : Program) (bx cs : List Nat) (ρ0 : Ren) (H0 : AHeap) (w0 : World) (c : Code) : Prop :=
  ∀ {m : MCode}, trC P bx cs c = some m → ∀ {Q : Post} {β : Nat → Option Nat} {ρ : Ren} {S : List AV} {H : AHeap} {a : Act} {w : World}, Fr ρ0 H0 w0 bx β ρ S H a w → AW P m Q S H →
    c.wp P (Conc ρ0 H0 w0 bx Q) a w
theorem sound_skip {cs : List Nat} : Sound P bx cs ρ0 H0 w0 .skip := by
  intro m h Q β ρ S H a w F hA
  simp only [trC, Option.some.injEq] at h
  subst h
  exact wp_skip ⟨.normal, ρ, β, S, H, rfl, F, hA⟩
theorem sound_seq {cs : List Nat} {x y : Code} (ihx : Sound P bx cs ρ0 H0 w0 x) (ihy : Sound P bx cs ρ0 H0 w0 y) : Sound P bx cs ρ0 H0 w0 (.seq x y) := by
  intro m h Q β ρ S H a w F hA
  simp only [trC] at h
  split at h
  case h_2 => cases h
  rename_i mx my hx hy
  have fin : AW P mx (MX.then (fun S H => ∃ S0, Forget S S0 ∧ AW P my Q S0 H) Q) S H → (Code.seq x y).wp P (Conc ρ0 H0 w0 bx Q) a w := by
    intro hA
    refine wp_seq (wp_mono (ihx hx F hA) ?_)
    rintro e a' w' ⟨me, ρ', β', S', H', rfl, F', hq⟩
    cases me with
    | normal =>
      obtain ⟨S0, hf, hq⟩ := hq
      exact ihy hy (F'.forget hf) hq
    | exit id =>
      rcases conc_exit id with ⟨_, h2⟩ | ⟨_, h2⟩
      · rw [h2]; exact ⟨.exit id, ρ', β', S', H', h2.symm, F', hq⟩
      · rw [h2]; exact ⟨.exit id, ρ', β', S', H', h2.symm, F', hq⟩
    | ret => exact ⟨.ret, ρ', β', S', H', rfl, F', hq⟩
  split at h
  · cases h
    refine fin (AW_mono (fun e S' H' h => ?_) hA)
    cases e with
    | normal => exact h
    | exit id => exact h
    | ret => exact h
  · cases h
    refine fin (AW_mono (fun e S' H' h => ?_) hA)
    cases e with
    | normal => exact ⟨S', Forget.rfl', h⟩
    | exit id => exact h
    | ret => exact h
/-- What stands behind a label, abstractly. -/
theorem find_tr {cs : List Nat} {l : Nat} : ∀ (c : Code) {m : MCode} {r : MCode}, trC P bx cs c = some m → findM m l = some r → ∃ rest, findLabel c l = some rest ∧ trC P bx cs rest = some r := by
  intro c
  induction c with
  | seq x y ihx ihy =>
    intro m r h hr
    simp only [trC] at h
    split at h
    case h_2 => cases h
    rename_i mx my hx hy
    have h' : m = .seq mx (if cutsAt cs y then .cut my else my) := by
      split at h <;> rename_i hc <;> cases h <;> simp [hc]
    subst h'
    simp only [findM] at hr
    simp only [findLabel]
    cases hf : findM mx l with
    | some r1 =>
      rw [hf] at hr
      obtain ⟨rest, h1, h2⟩ := ihx hx hf
      refine ⟨.seq rest y, by rw [h1], ?_⟩
      simp only at hr
      simp only [trC, h2, hy]
      rw [← Option.some.inj hr]
      split <;> rfl
    | none =>
      rw [hf] at hr
      have hn : findLabel x l = none := by
        cases hl : findLabel x l with
        | none => rfl
        | some rest =>
          exfalso
          have key : ∀ (c : Code) {m : MCode} {rest : Code}, trC P bx cs c = some m → findLabel c l = some rest → ∃ r, findM m l = some r := by
            intro c
            induction c with
            | seq x y ihx ihy =>
              intro m rest h hl
              simp only [trC] at h
              split at h
              case h_2 => cases h
              rename_i mx my hx hy
              have h' : m = .seq mx (if cutsAt cs y then .cut my else my) := by
                split at h <;> rename_i hc <;> cases h <;> simp [hc]
              subst h'
              simp only [findLabel] at hl
              simp only [findM]
              cases hlx : findLabel x l with
              | some r1 =>
                obtain ⟨r2, h2⟩ := ihx hx hlx
                rw [h2]
                exact ⟨_, rfl⟩
              | none =>
                rw [hlx] at hl
                obtain ⟨r2, h2⟩ := ihy hy hl
                cases findM mx l with
                | some r3 => exact ⟨_, rfl⟩
                | none =>
                  simp only
                  split
                  · exact ⟨r2, h2⟩
                  · exact ⟨r2, h2⟩
            | label l' =>
              intro m rest h hl
              simp only [trC, Option.some.injEq] at h
              subst h
              simp only [findLabel] at hl
              split at hl
              · rename_i he
                exact ⟨.skip, by simp only [findM]; rw [if_pos (by simpa using he)]⟩
              · cases hl
            | _ => intro m rest h hl; simp [findLabel] at hl
          obtain ⟨r2, h2⟩ := key x hx hl
          rw [hf] at h2
          cases h2
      rw [hn]
      simp only at hr ⊢
      have hr2 : findM my l = some r := by
        split at hr
        · exact hr
        · exact hr
      exact ihy hy hr2
  | label l' =>
    intro m r h hr
    simp only [trC, Option.some.injEq] at h
    subst h
    simp only [findM] at hr
    split at hr
    · rename_i he
      refine ⟨.skip, by simp [findLabel, he], ?_⟩
      simp only [trC]
      exact hr
    · cases hr
  | skip => intro m r h hr; simp only [trC, Option.some.injEq] at h; subst h; simp [findM] at hr
  | region id ops draw =>
    intro m r h hr
    simp only [trC] at h
    split at h
    · cases h; simp [findM] at hr
    · simp only [Option.map_eq_some_iff] at h
      obtain ⟨p, _, rfl⟩ := h
      simp [findM] at hr
  | cond c x y _ _ =>
    intro m r h hr
    simp only [trC] at h
    split at h
    · cases h; simp [findM] at hr
    · cases h
  | block id x _ =>
    intro m r h hr
    simp only [trC] at h
    split at h
    · simp only [Option.map_eq_some_iff] at h; obtain ⟨l, _, rfl⟩ := h; simp [findM] at hr
    · cases h
  | loop x _ => intro m r h hr; simp only [trC, Option.map_eq_some_iff] at h; obtain ⟨l, _, rfl⟩ := h; simp [findM] at hr
  | exit id =>
    intro m r h hr
    simp only [trC] at h
    split at h
    · cases h; simp [findM] at hr
    · cases h
  | goto id => intro m r h hr; simp only [trC, Option.some.injEq] at h; subst h; simp [findM] at hr
  | scope x _ =>
    intro m r h hr
    simp only [trC] at h
    split at h
    · split at h
      · cases h; simp [findM] at hr
      · cases h
    · cases h
  | ret => intro m r h hr; simp only [trC, Option.some.injEq] at h; subst h; simp [findM] at hr
  | _ => intro m r h hr; simp only [trC, Option.some.injEq] at h; subst h; simp [findM] at hr
theorem code_sound' {cs : List Nat} (hm : P.follows .mixedOrders = true) : ∀ (c : Code), Sound P bx cs ρ0 H0 w0 c ∧ ∀ l rest, findLabel c l = some rest → Sound P bx cs ρ0 H0 w0 rest := by
  intro c
  induction c with
  | skip => exact ⟨sound_skip, fun l rest h => by simp [findLabel] at h⟩
  | region id ops draw =>
    refine ⟨?_, fun l rest h => by simp [findLabel] at h⟩
    intro m h Q β ρ S H a w F hA
    simp only [trC] at h
    split at h
    · rename_i l hl
      cases h
      have := region_sound (id := id) hm hl (Q := fun S H => Q .normal S H) (Q' := Conc ρ0 H0 w0 bx Q) (fun ρ' β' S' H' a' w' F' hq => ⟨.normal, ρ', β', S', H', rfl, F', hq⟩) F hA
      simpa using this
    · simp only [Option.map_eq_some_iff] at h
      obtain ⟨p, hp, rfl⟩ := h
      have := region_sound2 (id := id) hm hp (Q := fun S H => Q .normal S H) (Q' := Conc ρ0 H0 w0 bx Q) (fun ρ' β' S' H' a' w' F' hq => ⟨.normal, ρ', β', S', H', rfl, F', hq⟩) F hA.1 hA.2
      simpa using this
  | seq x y ihx ihy =>
    refine ⟨sound_seq ihx.1 ihy.1, fun l rest h => ?_⟩
    simp only [findLabel] at h
    cases hx : findLabel x l with
    | some r1 =>
      rw [hx] at h
      cases h
      exact sound_seq (ihx.2 l r1 hx) ihy.1
    | none =>
      rw [hx] at h
      exact ihy.2 l rest h
  | cond c x y ihx ihy =>
    refine ⟨?_, fun l rest h => by simp [findLabel] at h⟩
    intro m h Q β ρ S H a w F hA
    simp only [trC] at h
    split at h
    case h_2 => cases h
    rename_i o mx my ho hx hy
    cases h
    simp only [AW] at hA
    have hv := F.opd ho
    split at hA
    case h_2 => exact hA.elim
    rename_i t ht
    rw [ht] at hv
    generalize hc : a.eval c = cv at hv
    cases hv
    refine wp_cond hc ?_
    cases t with
    | true => simp only [if_true] at hA ⊢; exact ihx.1 hx F hA
    | false => simp only [Bool.false_eq_true, if_false] at hA ⊢; exact ihy.1 hy F hA
  | block id x ih =>
    refine ⟨?_, fun l rest h => by simp [findLabel] at h⟩
    intro m h Q β ρ S H a w F hA
    simp only [trC] at h
    split at h
    case isFalse => cases h
    rename_i hid
    simp only [Option.map_eq_some_iff] at h
    obtain ⟨mx, hx, rfl⟩ := h
    refine wp_block (wp_mono (ih.1 hx F hA) ?_)
    rintro e a' w' ⟨me, ρ', β', S', H', rfl, F', hq⟩
    cases me with
    | normal => exact ⟨.normal, ρ', β', S', H', rfl, F', hq⟩
    | exit id' =>
      simp only [MX.inBlock] at hq
      rcases conc_exit id' with ⟨h1, h2⟩ | ⟨h1, h2⟩
      · rw [h2]
        simp only [Exit.inBlock]
        split at hq
        · rename_i hi; rw [if_pos hi]; exact ⟨.normal, ρ', β', S', H', rfl, F', hq⟩
        · rename_i hi; rw [if_neg hi]; exact ⟨.exit id', ρ', β', S', H', h2.symm, F', hq⟩
      · rw [h2]
        rw [if_neg (by omega)] at hq
        exact ⟨.exit id', ρ', β', S', H', h2.symm, F', hq⟩
    | ret => exact ⟨.ret, ρ', β', S', H', rfl, F', hq⟩
  | loop x ih =>
    refine ⟨?_, fun l rest h => by simp [findLabel] at h⟩
    intro m h Q β ρ S H a w F hA
    simp only [trC, Option.map_eq_some_iff] at h
    obtain ⟨mx, hx, rfl⟩ := h
    obtain ⟨J, ⟨k0, S0, hf, h0⟩, h1⟩ := hA
    have hF0 := F.forget hf
    intro b k cs
    have key : ∀ n {β : Nat → Option Nat} {ρ : Ren} {S : List AV} {H : AHeap} {a : Act} {w : World}, Fr ρ0 H0 w0 bx β ρ S H a w → J n S H →
        ∃ e a' w', Conc ρ0 H0 w0 bx Q e a' w' ∧ Arrives P (lone (b.at a (.code x :: .inLoop x :: k)) cs w) b k cs e a' w' := by
      intro n
      induction n using Nat.strongRecOn with
      | _ n ihn =>
        intro β ρ S H a w F hJ
        obtain ⟨e, a₁, w₁, ⟨me, ρ', β', S', H', rfl, F', hq⟩, harr⟩ := ih.1 hx F (h1 n S H hJ) b (.inLoop x :: k) cs
        cases me with
        | normal =>
          obtain ⟨k', S'', hlt, hf', hJ'⟩ := hq
          obtain ⟨e₂, a₂, w₂, hq₂, harr₂⟩ := ihn k' hlt (F'.forget hf') hJ'
          exact ⟨e₂, a₂, w₂, hq₂, .of_steps (Steps.trans harr (.one step_inLoop)) harr₂⟩
        | exit id =>
          have hne : MX.conc (.exit id) ≠ .normal := by
            rcases conc_exit id with ⟨_, h2⟩ | ⟨_, h2⟩ <;> rw [h2] <;> simp
          exact ⟨_, a₁, w₁, ⟨.exit id, ρ', β', S', H', rfl, F', hq⟩, .pass (x := .inLoop x) rfl (fun _ _ => .inl hne) harr⟩
        | ret => exact ⟨_, a₁, w₁, ⟨.ret, ρ', β', S', H', rfl, F', hq⟩, .pass (x := .inLoop x) rfl (fun _ _ => .inl (by simp [MX.conc])) harr⟩
    obtain ⟨e, a', w', hq, harr⟩ := key _ hF0 h0
    exact ⟨e, a', w', hq, .of_steps (.one step_loop) harr⟩
  | exit id =>
    refine ⟨?_, fun l rest h => by simp [findLabel] at h⟩
    intro m h Q β ρ S H a w F hA
    simp only [trC] at h
    split at h
    case isFalse => cases h
    rename_i hid
    cases h
    have h2 : MX.conc (.exit id) = .exit id := by simp [MX.conc, hid]
    exact wp_exit ⟨.exit id, ρ, β, S, H, h2.symm, F, hA⟩
  | goto l =>
    refine ⟨?_, fun l rest h => by simp [findLabel] at h⟩
    intro m h Q β ρ S H a w F hA
    simp only [trC, Option.some.injEq] at h
    subst h
    have h2 : MX.conc (.exit (GB + l)) = .goto l := by
      simp [MX.conc]
    exact wp_goto ⟨.exit (GB + l), ρ, β, S, H, h2.symm, F, hA⟩
  | label l' =>
    refine ⟨?_, fun l rest h => ?_⟩
    · intro m h Q β ρ S H a w F hA
      simp only [trC, Option.some.injEq] at h
      subst h
      exact wp_label ⟨.normal, ρ, β, S, H, rfl, F, hA⟩
    · simp only [findLabel] at h
      split at h
      · cases h; exact sound_skip
      · cases h
  | scope x ih =>
    refine ⟨?_, fun l rest h => by simp [findLabel] at h⟩
    intro m h Q β ρ S H a w F hA
    simp only [trC] at h
    split at h
    case h_2 => cases h
    rename_i l mx _ hx
    split at h
    case h_2 => cases h
    rename_i r hr
    cases h
    obtain ⟨rest, hf, hrt⟩ := find_tr x hx hr
    have hsr : Sound P bx cs ρ0 H0 w0 rest := ih.2 l rest hf
    obtain ⟨J, h0, h1⟩ := hA
    intro b k css
    have hg : gotoIn l (.inScope x :: k) = some (.code rest :: .inScope x :: k) := by simp [gotoIn, hf]
    -- what a piece of the scope's code does, when it ends
    have step : ∀ {K : List AV → AHeap → Prop} {c : Code} {mc : MCode} (hs : Sound P bx cs ρ0 H0 w0 c) (ht : trC P bx cs c = some mc) {β : Nat → Option Nat} {ρ : Ren} {S : List AV} {H : AHeap} {a : Act} {w : World}, Fr ρ0 H0 w0 bx β ρ S H a w → AW P mc (MX.inScope (GB + l) K Q) S H →
        (∀ {β : Nat → Option Nat} {ρ : Ren} {S : List AV} {H : AHeap} {a : Act} {w : World}, Fr ρ0 H0 w0 bx β ρ S H a w → K S H → ∃ e a' w', Conc ρ0 H0 w0 bx Q e a' w' ∧ Arrives P (lone (b.at a (.code rest :: .inScope x :: k)) css w) b k css e a' w') →
        ∃ e a' w', Conc ρ0 H0 w0 bx Q e a' w' ∧ Arrives P (lone (b.at a (.code c :: .inScope x :: k)) css w) b k css e a' w' := by
      intro K c mc hs ht β ρ S H a w F hA hK
      obtain ⟨e, a₁, w₁, ⟨me, ρ', β', S', H', rfl, F', hq⟩, harr⟩ := hs ht F hA b (.inScope x :: k) css
      cases me with
      | normal => exact ⟨.normal, a₁, w₁, ⟨.normal, ρ', β', S', H', rfl, F', hq⟩, Steps.trans harr (.one step_inScope)⟩
      | exit id =>
        simp only [MX.inScope] at hq
        by_cases hi : id = GB + l
        · rw [if_pos hi] at hq
          subst hi
          have h2 : MX.conc (.exit (GB + l)) = .goto l := by simp [MX.conc]
          rw [h2] at harr
          obtain ⟨e₂, a₂, w₂, hq₂, harr₂⟩ := hK F' hq
          exact ⟨e₂, a₂, w₂, hq₂, .of_steps (harr _ hg) harr₂⟩
        · rw [if_neg hi] at hq
          by_cases hgb : GB ≤ id
          · rw [if_pos hgb] at hq; exact hq.elim
          · rw [if_neg hgb] at hq
            have h2 : MX.conc (.exit id) = .exit id := by simp [MX.conc]; omega
            rw [h2] at harr
            exact ⟨.exit id, a₁, w₁, ⟨.exit id, ρ', β', S', H', h2.symm, F', hq⟩, fun k' hk => harr k' (by simp [exitTo, hk])⟩
      | ret => exact ⟨.ret, a₁, w₁, ⟨.ret, ρ', β', S', H', rfl, F', hq⟩, harr⟩
    have key : ∀ n {β : Nat → Option Nat} {ρ : Ren} {S : List AV} {H : AHeap} {a : Act} {w : World}, Fr ρ0 H0 w0 bx β ρ S H a w → J n S H →
        ∃ e a' w', Conc ρ0 H0 w0 bx Q e a' w' ∧ Arrives P (lone (b.at a (.code rest :: .inScope x :: k)) css w) b k css e a' w' := by
      intro n
      induction n using Nat.strongRecOn with
      | _ n ihn =>
        intro β ρ S H a w F hJ
        refine step hsr hrt F (h1 n S H hJ) ?_
        rintro β ρ S H a w F ⟨k', S'', hlt, hf', hJ'⟩
        exact ihn k' hlt (F.forget hf') hJ'
    obtain ⟨e, a', w', hq, harr⟩ := step ih.1 hx F h0 (by
      rintro β ρ S H a w F ⟨k', S'', hf', hJ'⟩
      exact key k' (F.forget hf') hJ')
    exact ⟨e, a', w', hq, .of_steps (.one step_scope) harr⟩
  | ret =>
    refine ⟨?_, fun l rest h => by simp [findLabel] at h⟩
    intro m h Q β ρ S H a w F hA
    simp only [trC, Option.some.injEq] at h
    subst h
    exact wp_ret ⟨.ret, ρ, β, S, H, rfl, F, hA⟩
  | _ =>
    refine ⟨?_, fun l rest h => by simp [findLabel] at h⟩
    intro m h Q β ρ S H a w F hA
    simp only [trC, Option.some.injEq] at h
    subst h
    exact hA.elim
theorem code_sound {cs : List Nat} (hm : P.follows .mixedOrders = true) (c : Code) {m : MCode} (h : trC P bx cs c = some m) {Q : Post} {β : Nat → Option Nat} {ρ : Ren} {S : List AV} {H : AHeap} {a : Act} {w : World} (F : Fr ρ0 H0 w0 bx β ρ S H a w) (hA : AW P m Q S H) :
    c.wp P (Conc ρ0 H0 w0 bx Q) a w := (code_sound' hm c).1 h F hA
end
end Go.Eng

namespace Go.Eng
open Go
/-- Names are changed; what has no new name is forgotten. -/
def ren (f : Nat → Option Nat) : Nat → AV → AV
  | 0, _ => .junk
  | k + 1, .agg cs => .agg (cs.map (ren f k))
  | k + 1, .tuple cs => .tuple (cs.map (ren f k))
  | k + 1, .fn g cs => .fn g (cs.map (ren f k))
  | k + 1, .bm g cs => .bm g (cs.map (ren f k))
  | _ + 1, .sl es n off len full => match f n with | some m => .sl es m off len full | none => .junk
  | _ + 1, .ptr n off => match f n with | some m => .ptr m off | none => .junk
  | _ + 1, .mp n => match f n with | some m => .mp m | none => .junk
  | _ + 1, x => x
theorem VR.ren {ρ1 ρ' : Ren} {f : Nat → Option Nat} (hf : ∀ n m L, f n = some m → ρ1 n = some L → ρ' m = some L) : ∀ (k : Nat) {x : AV} {v : Value}, VR ρ1 x v → VR ρ' (Eng.ren f k x) v
  | 0, _, _, _ => .junk _
  | k + 1, x, v, h => by
    cases h with
    | junk v => exact .junk _
    | adr v => exact .adr _
    | yld l => exact .yld _
    | bool b => exact .bool b
    | int k n => exact .int _ _
    | agg cs vs h1 h2 h3 =>
      refine .agg _ _ (by simpa using h1) (fun i y u hy hu => ?_) h3
      simp only [List.getElem?_map, Option.map_eq_some_iff] at hy
      obtain ⟨z, hz, rfl⟩ := hy
      exact VR.ren hf k (h2 i z u hz hu)
    | nilS => exact .nilS
    | sl es n off len full L a cap h1 h2 h3 h4 h5 =>
      simp only [Eng.ren]
      split
      · rename_i m hm; exact .sl _ _ _ _ _ L a cap (hf n m L hm h1) h2 h3 h4 h5
      · exact .junk _
    | nilP => exact .nilP
    | ptr n off L h1 =>
      simp only [Eng.ren]
      split
      · rename_i m hm; exact .ptr _ _ L (hf n m L hm h1)
      · exact .junk _
    | fn g cs vs h1 h2 =>
      refine .fn _ _ _ (by simpa using h1) (fun i y u hy hu => ?_)
      simp only [List.getElem?_map, Option.map_eq_some_iff] at hy
      obtain ⟨z, hz, rfl⟩ := hy
      exact VR.ren hf k (h2 i z u hz hu)
    | bm g cs vs h1 h2 =>
      refine .bm _ _ _ (by simpa using h1) (fun i y u hy hu => ?_)
      simp only [List.getElem?_map, Option.map_eq_some_iff] at hy
      obtain ⟨z, hz, rfl⟩ := hy
      exact VR.ren hf k (h2 i z u hz hu)
    | nilF => exact .nilF
    | nilM => exact .nilM
    | mp n L h1 h2 =>
      simp only [Eng.ren]
      split
      · rename_i m hm; exact .mp _ L (hf n m L hm h1) h2
      · exact .junk _
    | tuple cs vs h1 h2 =>
      refine .tuple _ _ (by simpa using h1) (fun i y u hy hu => ?_)
      simp only [List.getElem?_map, Option.map_eq_some_iff] at hy
      obtain ⟨z, hz, rfl⟩ := hy
      exact VR.ren hf k (h2 i z u hz hu)
theorem LR.ren {ρ1 ρ' : Ren} {f : Nat → Option Nat} (hf : ∀ n m L, f n = some m → ρ1 n = some L → ρ' m = some L) (k : Nat) {xs : List AV} {vs : List Value} (h : LR ρ1 xs vs) : LR ρ' (xs.map (Eng.ren f k)) vs := by
  refine ⟨by simp [h.1], fun i y u hy hu => ?_⟩
  simp only [List.getElem?_map, Option.map_eq_some_iff] at hy
  obtain ⟨z, hz, rfl⟩ := hy
  exact VR.ren hf k (h.2 i z u hz hu)
theorem LR.back {ρ ρ' : Ren} (h : Sub ρ ρ') {xs : List AV} {v0s vs : List Value} (r0 : LR ρ xs v0s) (r : LR ρ' xs vs) : LR ρ xs vs := by
  refine ⟨r.1, fun i x v hx hv => ?_⟩
  obtain ⟨v0, _, h0⟩ := r0.get hx
  exact h0.back h (r.2 i x v hx hv)
def renO (f : Nat → Option Nat) : AObj → AObj
  | .cells rw l => .cells rw (l.map (ren f 4))
  | .mp l => .mp (l.map fun p => (ren f 4 p.1, ren f 4 p.2))
  | .dead => .dead
/-- What of a heap is kept, and under which names. -/
def Keep (H H1 : AHeap) (f : Nat → Option Nat) (H' : AHeap) : Prop :=
  ∀ ρ0 w0 ρ1 w1, Sim ρ0 H w0 → Sim ρ1 H1 w1 → Step ρ0 H w0 ρ1 H1 w1 →
    ∃ ρ', Sim ρ' H' w1 ∧ Step ρ0 H w0 ρ' H' w1 ∧ (∀ n m L, f n = some m → ρ1 n = some L → ρ' m = some L) ∧
      (∀ m L, ρ' m = some L → ∃ n, f n = some m ∧ ρ1 n = some L ∧ (live H' m → live H1 n))
/-- Nothing is kept but what was there. -/
theorem keep_old {H H1 : AHeap} (hp : H <+: H1) : Keep H H1 (fun n => if n < H.length then some n else none) H := by
  intro ρ0 w0 ρ1 w1 s0 s1 st
  have hsub := st.sub s0
  have get : ∀ n, n < H.length → H1[n]? = H[n]? := fun n hn => prefix_get hp hn
  have lv : ∀ n, n < H.length → (live H1 n ↔ live H n) := fun n hn => by unfold live; rw [get n hn]
  refine ⟨ρ0, ⟨fun n L e => ⟨(s0.dom n L e).1, Nat.lt_of_lt_of_le (s0.dom n L e).2 st.size⟩, fun n L o e ho => ?_, s0.sep⟩, ⟨fun _ _ => rfl, Nat.le_refl _, st.os, st.tape, st.out, st.size, st.keep, fun _ h => .inr h, fun n L e => .inl (s0.dom n L e).1⟩, ?_, ?_⟩
  · have h0 := s0.obj n L o e ho
    have hn := (s0.dom n L e).1
    have h1 := s1.obj n L o (hsub n L e) (by rw [get n hn]; exact ho)
    cases o with
    | dead => trivial
    | cells rw l =>
      cases hb0 : w0.heap[L.b]? with
      | none => rw [hb0] at h0; exact h0.elim
      | some b0 =>
        rw [hb0] at h0
        cases b0 <;> try exact h0.elim
        cases hb : w1.heap[L.b]? with
        | none => rw [hb] at h1; exact h1.elim
        | some b =>
          rw [hb] at h1
          cases b <;> first | exact h1.elim | exact ⟨h1.1, h1.2.1, LR.back hsub h0.2.2.1 h1.2.2.1, h1.2.2.2⟩
    | mp l =>
      cases hb0 : w0.heap[L.b]? with
      | none => rw [hb0] at h0; exact h0.elim
      | some b0 =>
        rw [hb0] at h0
        cases b0 <;> try exact h0.elim
        cases hb : w1.heap[L.b]? with
        | none => rw [hb] at h1; exact h1.elim
        | some b =>
          rw [hb] at h1
          cases b <;> first | exact h1.elim | exact ⟨h1.1, LR.back hsub h0.2.1 h1.2.1, LR.back hsub h0.2.2 h1.2.2⟩
  · intro n m L hf hn
    simp only at hf
    split at hf
    · rename_i hlt
      cases hf
      rw [← st.old n hlt]; exact hn
    · cases hf
  · intro m L e
    have hm := (s0.dom m L e).1
    exact ⟨m, by simp [hm], hsub m L e, (lv m hm).2⟩
/-- One object more is kept. -/
theorem Keep.add {H H1 : AHeap} {f : Nat → Option Nat} {H' : AHeap} (h : Keep H H1 f H') {n : Nat} {o : AObj} (hn : H.length ≤ n) (hf : f n = none) (ho : H1[n]? = some o) :
    Keep H H1 (fun k => if k = n then some H'.length else f k) (H' ++ [renO f o]) := by
  intro ρ0 w0 ρ1 w1 s0 s1 st
  obtain ⟨ρ', s', st', k1, k2⟩ := h ρ0 w0 ρ1 w1 s0 s1 st
  cases hρ : ρ1 n with
  | none =>
    -- it does not exist in memory
    refine ⟨ρ', ⟨fun m L e => ⟨by simp; have := (s'.dom m L e).1; omega, (s'.dom m L e).2⟩, fun m L o' e ho' => ?_, fun m m' L L' e e' hne l1 l2 hb => ?_⟩, ⟨st'.old, ?_, st'.os, st'.tape, st'.out, st'.size, st'.keep, ?_, st'.fresh⟩, ?_, ?_⟩
    · have hm := (s'.dom m L e).1
      rw [List.getElem?_append_left hm] at ho'
      exact s'.obj m L o' e ho'
    · exact s'.sep m m' L L' e e' hne ((live_append (s'.dom m L e).1).1 l1) ((live_append (s'.dom m' L' e').1).1 l2) hb
    · have := st'.len; simp; omega
    · rintro b ⟨m, L, e, h1, h2, h3⟩
      exact st'.own b ⟨m, L, e, h1, h2, (live_append (s'.dom m L e).1).1 h3⟩
    · intro k m L hk hL
      simp only at hk
      split at hk
      · rename_i hkn; subst hkn; rw [hρ] at hL; cases hL
      · exact k1 k m L hk hL
    · intro m L e
      obtain ⟨n', h1, h2, h3⟩ := k2 m L e
      refine ⟨n', ?_, h2, fun hl => h3 ((live_append (s'.dom m L e).1).1 hl)⟩
      have : n' ≠ n := by rintro rfl; rw [hf] at h1; cases h1
      simp [this, h1]
  | some L =>
    have hnone : ρ' H'.length = none := s'.none_of_len
    have hsub : Sub ρ' (ρ'.put H'.length L) := Sub.put hnone
    have cs : ∀ {m M}, (ρ'.put H'.length L) m = some M → (m = H'.length ∧ M = L) ∨ (ρ' m = some M ∧ m < H'.length) := by
      intro m M e
      unfold Ren.put at e
      split at e
      · rename_i hm; cases e; exact .inl ⟨hm, rfl⟩
      · exact .inr ⟨e, (s'.dom m M e).1⟩
    have kf : ∀ k m M, f k = some m → ρ1 k = some M → (ρ'.put H'.length L) m = some M := fun k m M hk hM => hsub m M (k1 k m M hk hM)
    have hlast : (H' ++ [renO f o])[H'.length]? = some (renO f o) := by simp
    have hlive : live (H' ++ [renO f o]) H'.length → live H1 n := by
      rintro ⟨o', h1, h2⟩
      rw [hlast] at h1; cases h1
      refine ⟨o, ho, ?_⟩
      rintro rfl
      exact h2 rfl
    have hdom := s1.dom n L hρ
    refine ⟨ρ'.put H'.length L, ⟨?_, ?_, ?_⟩, ⟨?_, ?_, st'.os, st'.tape, st'.out, st'.size, st'.keep, ?_, ?_⟩, ?_, ?_⟩
    · intro m M e
      rcases cs e with ⟨rfl, rfl⟩ | ⟨e', hm⟩
      · exact ⟨by simp, hdom.2⟩
      · exact ⟨by simp; omega, (s'.dom m M e').2⟩
    · intro m M o' e ho'
      rcases cs e with ⟨rfl, rfl⟩ | ⟨e', hm⟩
      · rw [hlast] at ho'; cases ho'
        have h1 := s1.obj n M o hρ ho
        cases o with
        | dead => trivial
        | cells rw l =>
          cases hb : w1.heap[M.b]? with
          | none => rw [hb] at h1; exact h1.elim
          | some b =>
            rw [hb] at h1
            cases b <;> try exact h1.elim
            refine ⟨h1.1, h1.2.1, ?_, ?_⟩
            · have := LR.ren kf 4 h1.2.2.1
              simpa using this
            · simpa using h1.2.2.2
        | mp l =>
          cases hb : w1.heap[M.b]? with
          | none => rw [hb] at h1; exact h1.elim
          | some b =>
            rw [hb] at h1
            cases b <;> try exact h1.elim
            refine ⟨h1.1, ?_, ?_⟩
            · have := LR.ren kf 4 h1.2.1
              simpa [List.map_map, Function.comp_def] using this
            · have := LR.ren kf 4 h1.2.2
              simpa [List.map_map, Function.comp_def] using this
      · rw [List.getElem?_append_left hm] at ho'
        exact (s'.obj m M o' e' ho').mono hsub
    · intro m m' M M' e e' hne l1 l2 hb
      rcases cs e with ⟨rfl, rfl⟩ | ⟨e1, hm⟩ <;> rcases cs e' with ⟨rfl, rfl⟩ | ⟨e2, hm'⟩
      · exact absurd rfl hne
      · obtain ⟨n', g1, g2, g3⟩ := k2 m' M' e2
        have hnn : n ≠ n' := by rintro rfl; rw [hf] at g1; cases g1
        exact s1.sep n n' M M' hρ g2 hnn (hlive l1) (g3 ((live_append hm').1 l2)) hb
      · obtain ⟨n', g1, g2, g3⟩ := k2 m M e1
        have hnn : n' ≠ n := by rintro rfl; rw [hf] at g1; cases g1
        exact s1.sep n' n M M' g2 hρ hnn (g3 ((live_append hm).1 l1)) (hlive l2) hb
      · exact s'.sep m m' M M' e1 e2 hne ((live_append hm).1 l1) ((live_append hm').1 l2) hb
    · intro k hk
      have := st'.len
      unfold Ren.put
      rw [if_neg (by omega)]
      exact st'.old k hk
    · have := st'.len; simp; omega
    · rintro b ⟨m, M, e, h1, h2, h3⟩
      rcases cs e with ⟨rfl, rfl⟩ | ⟨e1, hm⟩
      · exact st.own b ⟨n, M, hρ, h1, h2, hlive h3⟩
      · exact st'.own b ⟨m, M, e1, h1, h2, (live_append hm).1 h3⟩
    · intro m M e
      rcases cs e with ⟨rfl, rfl⟩ | ⟨e1, hm⟩
      · rcases st.fresh n M hρ with h | h | h
        · omega
        · exact .inr (.inl h)
        · exact .inr (.inr h)
      · exact st'.fresh m M e1
    · intro k m M hk hM
      simp only at hk
      split at hk
      · rename_i hkn
        subst hkn
        cases hk
        rw [hρ] at hM; cases hM
        exact put_self
      · exact kf k m M hk hM
    · intro m M e
      rcases cs e with ⟨rfl, rfl⟩ | ⟨e1, hm⟩
      · exact ⟨n, by simp, hρ, hlive⟩
      · obtain ⟨n', g1, g2, g3⟩ := k2 m M e1
        refine ⟨n', ?_, g2, fun hl => g3 ((live_append hm).1 hl)⟩
        have : n' ≠ n := by rintro rfl; rw [hf] at g1; cases g1
        simp [this, g1]
/-- What a call hands back, and the heap that it leaves. -/
def GC (H : AHeap) (v1 : AV) (H1 : AHeap) (v : AV) (H' : AHeap) : Prop :=
  ∀ ρ0 w0 ρ1 w1 cv, Sim ρ0 H w0 → Sim ρ1 H1 w1 → Step ρ0 H w0 ρ1 H1 w1 → VR ρ1 v1 cv → ∃ ρ', VR ρ' v cv ∧ Sim ρ' H' w1 ∧ Step ρ0 H w0 ρ' H' w1
theorem gc_all {H : AHeap} {v1 : AV} {H1 : AHeap} : GC H v1 H1 v1 H1 := fun _ _ ρ1 _ _ _ s1 st hv => ⟨ρ1, hv, s1, st⟩
theorem gc_keep {H : AHeap} {v1 v : AV} {H1 H' : AHeap} {f : Nat → Option Nat} (h : Keep H H1 f H') (hv : ren f 4 v1 = v) : GC H v1 H1 v H' := by
  intro ρ0 w0 ρ1 w1 cv s0 s1 st hr
  obtain ⟨ρ', s', st', k1, _⟩ := h ρ0 w0 ρ1 w1 s0 s1 st
  subst hv
  exact ⟨ρ', VR.ren k1 4 hr, s', st'⟩
section
variable {P : Program}
def readRes (tmps : Array Value) : ResultVar → Sem Value
  | .tmp t => pure (tmps.getD t undef)
  | .cell a t => do loadVar t (← asAddr (tmps.getD a undef))
theorem resL_ok {ρ0 : Ren} {H0 : AHeap} {w0 : World} {bx : List Nat} {β : Nat → Option Nat} {ρ : Ren} {S : List AV} {H : AHeap} {a : Act} {w : World} (F : Fr ρ0 H0 w0 bx β ρ S H a w) :
    ∀ (rs : List ResultVar) (ps : List PAct) (vs : List AV), rs.mapM (trRes P bx) = some ps → resL ps S = some vs →
      ∃ cvs : List Value, (rs.mapM (readRes a.tmps)).run P w = .ok cvs w ∧ LR ρ vs cvs
  | [], ps, vs, h, hr => by
    simp at h
    subst h
    simp [resL] at hr
    subst hr
    exact ⟨[], by simp, LR.nil⟩
  | r :: rs, ps, vs, h, hr => by
    rw [List.mapM_cons] at h
    simp only [Option.bind_eq_bind, Option.bind_eq_some_iff, Option.pure_def, Option.some.injEq] at h
    obtain ⟨p, hp, ps', hps, rfl⟩ := h
    unfold resL at hr
    split at hr
    case h_2 => cases hr
    rename_i v vs' hv hvs
    cases hr
    obtain ⟨cvs, h1, h2⟩ := resL_ok F rs ps' vs' hps hvs
    have one : ∃ cv, (readRes a.tmps r).run P w = .ok cv w ∧ VR ρ v cv := by
      cases r with
      | tmp t =>
        simp only [trRes] at hp
        split at hp
        · cases hp
        rename_i ht
        cases hp
        simp only [pval, Option.some.injEq] at hv
        subst hv
        exact ⟨_, rfl, F.slots t (by simpa using ht)⟩
      | cell ad t =>
        simp only [trRes] at hp
        split at hp
        case isFalse => cases hp
        rename_i hb
        split at hp
        case h_2 => cases hp
        rename_i s ag hs hag
        cases hp
        have hv : bgot (rd S (.s ad)) 0 s ag = some v := hv
        rcases F.boxes ad hb with hj | ⟨b, cs, T, l, g1, g2, g3, g4, g5, g6⟩
        · rw [hj] at hv; simp [bgot] at hv
        · obtain ⟨cv, k1, k2⟩ := box_load (P := P) g3 g4 g5 g6 hs hag hv
          refine ⟨cv, ?_, k2⟩
          simp only [readRes, g2, asAddr]
          simpa [Instr.loadAt, Instr.sureAddr] using k1
    obtain ⟨cv, g1, g2⟩ := one
    refine ⟨cv :: cvs, ?_, LR.cons g2 h2⟩
    rw [List.mapM_cons, Sem.run_bind, g1, Result.andThen_ok, Sem.run_bind, h1]
    rfl
/-- A function's contract, from its body. -/
theorem calls_of_aw (hm : P.follows .mixedOrders = true) {f : FuncId} {fn : Func} (hf : P.funcs[f]? = some fn) (hn : (fn.name == "runtime.NumGoroutine") = false) {bx cs : List Nat} {m : MFun} (ht : trF P bx cs fn = some m) {args : List AV} {H H' : AHeap} {v : AV}
    (hb : m.bx.all (fun d => decide (args.length ≤ d)) = true)
    (hA : AW P m.body (fun e S H1 => (e = .normal ∨ e = .ret) ∧ ∃ v1, resV m.res S = some v1 ∧ GC H v1 H1 v H') (args ++ List.replicate (m.nt - args.length) .junk) H) : ACalls P f args H v H' := by
  unfold trF at ht
  split at ht
  · cases ht
  rename_i c hbody
  split at ht
  case h_2 => cases ht
  rename_i body rs hc hres
  split at ht
  case isFalse => cases ht
  cases ht
  refine ⟨⟨fn, hf, hn, by simp [hbody]⟩, ?_⟩
  intro ρ w cargs hs hargs
  have hlen : args.length = cargs.size := by simpa using hargs.1
  refine calls_of_wp hf hbody ?_
  have F : Fr ρ H w bx (fun _ => none) ρ (args ++ List.replicate (fn.ntmps - args.length) .junk) H { tmps := cargs ++ Array.replicate (fn.ntmps - cargs.size) undef, defers := [] } w := by
    refine ⟨hs, Step.refl _ _ _ hs, rfl, by simp [hlen], ?_, ?_, by simp⟩
    · intro i _
      have h1 : rd (args ++ List.replicate (fn.ntmps - args.length) .junk) (.s i) = if h : i < args.length then args[i] else .junk := by
        show (((args ++ List.replicate (fn.ntmps - args.length) .junk)[i]?).getD .junk) = _
        by_cases h : i < args.length
        · rw [dif_pos h, List.getElem?_append_left h, List.getElem?_eq_getElem h]; rfl
        · rw [dif_neg h, List.getElem?_append_right (by omega), List.getElem?_replicate]; split <;> rfl
      rw [h1]
      split
      · rename_i h
        have h2 : (cargs ++ Array.replicate (fn.ntmps - cargs.size) undef).getD i undef = cargs[i]'(by omega) := by
          rw [Array.getD_eq_getD_getElem?, Array.getElem?_append_left (by omega)]
          simp [show i < cargs.size by omega]
        rw [h2]
        exact hargs.2 i _ _ (by simp [h]) (by simp [show i < cargs.size by omega])
      · exact .junk _
    · intro d hd
      left
      have hge : args.length ≤ d := by
        have := List.all_eq_true.1 hb d (by simpa using hd)
        simpa using this
      show (((args ++ List.replicate (fn.ntmps - args.length) .junk)[d]?).getD .junk) = _
      rw [List.getElem?_append_right hge, List.getElem?_replicate]
      split <;> rfl
  refine wp_mono (code_sound hm c hc F hA) ?_
  rintro e a' w' ⟨me, ρ', β', S', H1, rfl, F', hend, v1, hv1, hgc⟩
  have key : ∃ cv, (results fn a'.tmps).run P w' = .ok cv w' ∧ VR ρ' v1 cv := by
    unfold resV at hv1
    have hrun : ∀ (vs : List AV), resL rs S' = some vs → ∃ cvs : List Value, LR ρ' vs cvs ∧ (results fn a'.tmps).run P w' = .ok (if h : cvs.length = 1 then cvs[0] else .tuple cvs.toArray) w' := by
      intro vs hvs
      obtain ⟨cvs, g1, g2⟩ := resL_ok F' fn.results.toList rs vs hres hvs
      refine ⟨cvs, g2, ?_⟩
      show (do let vs ← fn.results.mapM (readRes a'.tmps); pure (if h : vs.size = 1 then vs[0] else .tuple vs) : Sem Value).run P w' = _
      rw [Sem.run_bind, Array.mapM_eq_mapM_toList, Sem.run_map, g1]
      simp
    split at hv1
    · rename_i x hx
      cases hv1
      obtain ⟨cvs, g1, g2⟩ := hrun [v1] hx
      have hl : cvs.length = 1 := by simpa using g1.1.symm
      rw [dif_pos hl] at g2
      exact ⟨_, g2, g1.2 0 _ _ rfl (by simp [hl])⟩
    · rename_i xs hne hx
      cases hv1
      obtain ⟨cvs, g1, g2⟩ := hrun xs hx
      have hl : cvs.length ≠ 1 := by
        intro h1
        have h2 : xs.length = 1 := by rw [g1.1]; exact h1
        obtain ⟨x, rfl⟩ := List.length_eq_one_iff.1 h2
        exact hne x rfl
      rw [dif_neg hl] at g2
      exact ⟨_, g2, VR.tuple_iff.2 (by simpa using g1)⟩
    · cases hv1
  obtain ⟨cv, hrun, hvr⟩ := key
  obtain ⟨ρ2, g1, g2, g3⟩ := hgc ρ w ρ' w' cv hs F'.sim F'.step hvr
  rcases hend with rfl | rfl
  · exact ⟨F'.dfr, cv, hrun, ρ2, cv, rfl, g1, g2, g3⟩
  · exact ⟨F'.dfr, cv, hrun, ρ2, cv, rfl, g1, g2, g3⟩
end
end Go.Eng

namespace Go.Eng
open Go
section
variable {P : Program}
theorem AW_cut {m : MCode} {Q : Post} {S : List AV} {H : AHeap} (h : AW P m Q S H) : AW P (.cut m) Q S H := ⟨S, Forget.rfl', h⟩
theorem mk_length (n : Nat) : ∀ (L : List (Nat × AV)), (mk n L).length = n := by
  have : ∀ (L : List (Nat × AV)) (S : List AV), (L.foldl (fun S p => S.set p.1 p.2) S).length = S.length := by
    intro L
    induction L with
    | nil => intro S; rfl
    | cons p L ih => intro S; rw [List.foldl_cons, ih]; simp
  intro L
  simp [mk, this]
theorem mk_rd (n : Nat) (L : List (Nat × AV)) (i : Nat) : rd (mk n L) (.s i) = .junk ∨ ∃ p ∈ L, p.1 = i ∧ rd (mk n L) (.s i) = p.2 := by
  have : ∀ (L : List (Nat × AV)) (S : List AV), rd (L.foldl (fun S p => S.set p.1 p.2) S) (.s i) = rd S (.s i) ∨ ∃ p ∈ L, p.1 = i ∧ rd (L.foldl (fun S p => S.set p.1 p.2) S) (.s i) = p.2 := by
    intro L
    induction L with
    | nil => intro S; exact .inl rfl
    | cons p L ih =>
      intro S
      rw [List.foldl_cons]
      rcases ih (S.set p.1 p.2) with h | ⟨q, h1, h2, h3⟩
      · rw [h, rd_set]
        split
        · rename_i hc; exact .inr ⟨p, by simp, hc.1, rfl⟩
        · exact .inl rfl
      · exact .inr ⟨q, by simp [h1], h2, h3⟩
  rcases this L (List.replicate n .junk) with h | h
  · left
    unfold mk
    rw [h]
    show ((List.replicate n AV.junk)[i]?).getD .junk = .junk
    rw [List.getElem?_replicate]
    split <;> rfl
  · exact .inr h
theorem forget_mk {S : List AV} {n : Nat} {L : List (Nat × AV)} (hn : S.length = n) (h : Has S L) : Forget S (mk n L) := by
  refine ⟨by rw [mk_length, hn], fun i => ?_⟩
  rcases mk_rd n L i with h1 | ⟨p, hp, rfl, h2⟩
  · exact .inl h1
  · right; rw [h2]; exact (h p hp).symm
/-- A place where ways meet: from here on only 'L' is known of the slots. -/
theorem AW_join {m : MCode} {Q : Post} {S : List AV} {H : AHeap} (n : Nat) (L : List (Nat × AV)) (hn : S.length = n) (h : Has S L) (k : AW P m Q (mk n L) H) : AW P (.cut m) Q S H := ⟨_, forget_mk hn h, k⟩
/-- A loop: at each round's head, for some x, the slots hold 'L x' and the heap is 'hp x'. -/
theorem AW_loop {α : Type} {a : MCode} {Q : Post} {S : List AV} {H : AHeap} (n : Nat) (inv : α → Prop) (L : α → List (Nat × AV)) (hp : α → AHeap) (μ : α → Nat) (x0 : α) (h0 : inv x0) (hn : S.length = n) (hL : Has S (L x0)) (hH : H = hp x0)
    (hstep : ∀ x, inv x → AW P a (MX.then (fun S' H' => ∃ y, inv y ∧ S'.length = n ∧ Has S' (L y) ∧ H' = hp y ∧ μ y < μ x) Q) (mk n (L x)) (hp x)) : AW P (.loop a) Q S H := by
  subst hH
  refine ⟨fun k S H => ∃ x, inv x ∧ S = mk n (L x) ∧ H = hp x ∧ μ x = k, ⟨μ x0, mk n (L x0), forget_mk hn hL, x0, h0, rfl, rfl, rfl⟩, ?_⟩
  rintro k S H ⟨x, hx, rfl, rfl, rfl⟩
  refine AW_mono (fun e S' H' h => ?_) (hstep x hx)
  cases e with
  | normal =>
    obtain ⟨y, hy, h1, h2, rfl, h4⟩ := h
    exact ⟨μ y, mk n (L y), h4, forget_mk h1 h2, y, hy, rfl, rfl, rfl⟩
  | exit id => exact h
  | ret => exact h
theorem rd_s (S : List AV) (i : Nat) : rd S (.s i) = (S[i]?).getD .junk := rfl
theorem rd_c (S : List AV) (v : AV) : rd S (.c v) = v := rfl
theorem putS_some (S : List AV) (d : Nat) (v : AV) : putS S (some d) v = S.set d v := rfl
theorem putS_none (S : List AV) (v : AV) : putS S none v = S := rfl
theorem AOps_nil (Q : List AV → AHeap → Prop) (S : List AV) (H : AHeap) : AOps P [] Q S H = Q S H := rfl
/-- What stands beside a way to go on, so that 'simp' lets the way alone. -/
structure Lk.{u} {α : Sort u} (k : α) : Type where
/-- Go on with a value, if there is one. -/
def on {α : Type} (x : Option α) (k : α → Prop) (_ : Lk k) : Prop := match x with | some v => k v | none => False
theorem on_some {α : Type} (v : α) (k : α → Prop) (d : Lk k) : on (some v) k d = k v := rfl
theorem on_none {α : Type} (k : α → Prop) (d : Lk k) : on none k d = False := rfl
theorem AOps_pu (w : Option Nat) (sk : Option AV) (e : Bool) (p : PAct) (r : List MOp) (Q : List AV → AHeap → Prop) (S : List AV) (H : AHeap) :
    AOps P (⟨w, sk, none, e, .pu p⟩ :: r) Q S H = on (pval p S) (fun v => AOps P r Q (putS S w v) H) ⟨⟩ := by
  apply propext
  simp only [AOps, wantedA, if_true, Act1.out]
  cases hp : pval p S with
  | none => simp [on]
  | some v =>
    simp only [on]
    constructor
    · rintro ⟨v', H', ⟨h1, rfl⟩, _, h⟩; cases h1; exact h
    · intro h; exact ⟨v, H, ⟨rfl, rfl⟩, fun _ => List.prefix_refl _, h⟩
theorem AOps_ld (w : Option Nat) (sk : Option AV) (e : Bool) (l : LAct) (r : List MOp) (Q : List AV → AHeap → Prop) (S : List AV) (H : AHeap) :
    AOps P (⟨w, sk, none, e, .ld l⟩ :: r) Q S H = on (lval l S H) (fun v => AOps P r Q (putS S w v) H) ⟨⟩ := by
  apply propext
  simp only [AOps, wantedA, if_true, Act1.out]
  cases hp : lval l S H with
  | none => simp [on]
  | some v =>
    simp only [on]
    constructor
    · rintro ⟨v', H', ⟨h1, rfl⟩, _, h⟩; cases h1; exact h
    · intro h; exact ⟨v, H, ⟨rfl, rfl⟩, fun _ => List.prefix_refl _, h⟩
/-- Go on, where an operation of a drawn order may only add to the heap. -/
def extK (e : Bool) (H H' : AHeap) (k : Prop) (_ : Lk k) : Prop := (e = true → H <+: H') ∧ k
theorem extK_false (H H' : AHeap) (k : Prop) (d : Lk k) : extK false H H' k d = k := by simp [extK]
theorem extK_app (e : Bool) (H l : AHeap) (k : Prop) (d : Lk k) : extK e H (H ++ l) k d = k := by simp [extK]
theorem extK_same (e : Bool) (H : AHeap) (k : Prop) (d : Lk k) : extK e H H k d = k := by simp [extK]
theorem extK_of {H H' : AHeap} (h : H <+: H') (e : Bool) (k : Prop) (d : Lk k) : extK e H H' k d = k := by simp [extK, h]
theorem AOps_ha (w : Option Nat) (sk : Option AV) (e : Bool) (a : HAct) (r : List MOp) (Q : List AV → AHeap → Prop) (S : List AV) (H : AHeap) :
    AOps P (⟨w, sk, none, e, .ha a⟩ :: r) Q S H = on (hval a S H) (fun v => extK e H v.2 (AOps P r Q (putS S w v.1) v.2) ⟨⟩) ⟨⟩ := by
  apply propext
  simp only [AOps, wantedA, if_true, Act1.out]
  cases hp : hval a S H with
  | none => simp [on]
  | some v =>
    simp only [on, extK]
    constructor
    · rintro ⟨v', H', h1, h2, h⟩; cases h1; exact ⟨h2, h⟩
    · intro h; exact ⟨v.1, v.2, rfl, h.1, h.2⟩
/-- A call still to be made. -/
def CallK (P : Program) (f : FuncId) (args : List AV) (H : AHeap) (k : AV → AHeap → Prop) (_ : Lk k) : Prop := ∃ v H', ACalls P f args H v H' ∧ k v H'
theorem CallK.of {f : FuncId} {args : List AV} {H : AHeap} {k : AV → AHeap → Prop} {d : Lk k} {v : AV} {H' : AHeap} (h : ACalls P f args H v H') (hk : k v H') : CallK P f args H k d := ⟨v, H', h, hk⟩
theorem AOps_call (w : Option Nat) (sk : Option AV) (e : Bool) (f : FuncId) (args : List Opd) (r : List MOp) (Q : List AV → AHeap → Prop) (S : List AV) (H : AHeap) :
    AOps P (⟨w, sk, none, e, .call f args⟩ :: r) Q S H = CallK P f (args.map (rd S)) H (fun v H' => extK e H H' (AOps P r Q (putS S w v) H') ⟨⟩) ⟨⟩ := by
  simp only [AOps, wantedA, if_true, Act1.out, CallK, extK]
/-- A call of a function value. -/
def CallF (P : Program) (x : AV) (args : List AV) (H : AHeap) (k : AV → AHeap → Prop) (d : Lk k) : Prop :=
  match x with
  | .fn f cap => CallK P f (args ++ cap) H k d
  | .bm f xs => CallK P f (xs ++ args) H k d
  | _ => False
theorem CallF_bm (f : FuncId) (xs args : List AV) (H : AHeap) (k : AV → AHeap → Prop) (d : Lk k) : CallF P (.bm f xs) args H k d = CallK P f (xs ++ args) H k d := rfl
theorem CallF_fn (f : FuncId) (cap args : List AV) (H : AHeap) (k : AV → AHeap → Prop) (d : Lk k) : CallF P (.fn f cap) args H k d = CallK P f (args ++ cap) H k d := rfl
theorem AOps_callv (w : Option Nat) (sk : Option AV) (e : Bool) (x : Opd) (args : List Opd) (r : List MOp) (Q : List AV → AHeap → Prop) (S : List AV) (H : AHeap) :
    AOps P (⟨w, sk, none, e, .callv x args⟩ :: r) Q S H = CallF P (rd S x) (args.map (rd S)) H (fun v H' => extK e H H' (AOps P r Q (putS S w v) H') ⟨⟩) ⟨⟩ := by
  apply propext
  simp only [AOps, wantedA, if_true, Act1.out, CallK, CallF, extK]
  constructor
  · rintro ⟨v, H', ⟨f, cap, h1, h2⟩ | ⟨f, cap, h1, h2⟩, h3, h4⟩
    · rw [h1]
      exact ⟨v, H', h2, h3, h4⟩
    · rw [h1]
      exact ⟨v, H', h2, h3, h4⟩
  · intro h
    split at h
    · rename_i f cap hx
      obtain ⟨v, H', h1, h2, h3⟩ := h
      exact ⟨v, H', .inl ⟨f, cap, hx, h1⟩, h2, h3⟩
    · rename_i f cap hx
      obtain ⟨v, H', h1, h2, h3⟩ := h
      exact ⟨v, H', .inr ⟨f, cap, hx, h1⟩, h2, h3⟩
    · exact h.elim
/-- With a guard: by what the guard says. -/
def guardB (x : AV) (want : Bool) (yes no : Prop) (_ : Lk yes) (_ : Lk no) : Prop :=
  match x with
  | .bool b => if b = want then yes else no
  | .tuple [] => no
  | _ => False
section
variable {yes no : Prop} {d : Lk yes} {d' : Lk no}
theorem guardB_tt : guardB (.bool true) true yes no d d' = yes := by simp [guardB]
theorem guardB_tf : guardB (.bool true) false yes no d d' = no := by simp [guardB]
theorem guardB_ft : guardB (.bool false) true yes no d d' = no := by simp [guardB]
theorem guardB_ff : guardB (.bool false) false yes no d d' = yes := by simp [guardB]
theorem guardB_undef (want : Bool) : guardB (.tuple []) want yes no d d' = no := rfl
end
theorem AOps_guard (w : Option Nat) (sk : Option AV) (d : Nat) (want e : Bool) (a : Act1) (r : List MOp) (Q : List AV → AHeap → Prop) (S : List AV) (H : AHeap) :
    AOps P (⟨w, sk, some (d, want), e, a⟩ :: r) Q S H = guardB (rd S (.s d)) want (AOps P (⟨w, sk, none, e, a⟩ :: r) Q S H) (AOps P r Q (skipS S ⟨w, sk, none, e, a⟩) H) ⟨⟩ ⟨⟩ := by
  apply propext
  unfold guardB
  simp only [AOps, wantedA, if_true, skipS]
  split
  · rename_i h
    split at h
    · cases h
    · cases h
    · rename_i h1 h2
      split
      · rename_i b hb; exact absurd hb (h1 b)
      · rename_i hb; exact absurd hb h2
      · exact Iff.rfl
  · rename_i t h
    split at h
    · rename_i b hb
      cases h
      rw [hb]
      cases b <;> cases want <;> simp
    · rename_i hb
      cases h
      rw [hb]
      simp
    · cases h
theorem skipS_some (S : List AV) (w : Option Nat) (v : AV) (g : Option (Nat × Bool)) (e : Bool) (a : Act1) : skipS S ⟨w, some v, g, e, a⟩ = putS S w v := rfl
theorem skipS_none (S : List AV) (w : Option Nat) (g : Option (Nat × Bool)) (e : Bool) (a : Act1) : skipS S ⟨w, none, g, e, a⟩ = S := rfl
/-- A test. -/
def condB (x : AV) (yes no : Prop) (_ : Lk yes) (_ : Lk no) : Prop :=
  match x with
  | .bool t => if t = true then yes else no
  | _ => False
section
variable {yes no : Prop} {d : Lk yes} {d' : Lk no}
theorem condB_t : condB (.bool true) yes no d d' = yes := by simp [condB]
theorem condB_f : condB (.bool false) yes no d d' = no := by simp [condB]
theorem condB_cases {b : Bool} (h : b = true → yes) (k : b = false → no) : condB (.bool b) yes no d d' := by
  cases b
  · rw [condB_f]; exact k rfl
  · rw [condB_t]; exact h rfl
end
theorem AW_skip (Q : Post) (S : List AV) (H : AHeap) : AW P .skip Q S H = Q .normal S H := rfl
theorem AW_ops (l : List MOp) (Q : Post) (S : List AV) (H : AHeap) : AW P (.ops l) Q S H = AOps P l (fun S H => Q .normal S H) S H := rfl
theorem AW_ops2 (l l' : List MOp) (Q : Post) (S : List AV) (H : AHeap) : AW P (.ops2 l l') Q S H = (AW P (.ops l) Q S H ∧ AW P (.ops l') Q S H) := rfl
theorem AW_seq (a b : MCode) (Q : Post) (S : List AV) (H : AHeap) : AW P (.seq a b) Q S H = AW P a (MX.then (AW P b Q) Q) S H := rfl
theorem AW_cond (c : Opd) (a b : MCode) (Q : Post) (S : List AV) (H : AHeap) : AW P (.cond c a b) Q S H = condB (rd S c) (AW P a Q S H) (AW P b Q S H) ⟨⟩ ⟨⟩ := rfl
theorem AW_block (id : Nat) (a : MCode) (Q : Post) (S : List AV) (H : AHeap) : AW P (.block id a) Q S H = AW P a (MX.inBlock id Q) S H := rfl
theorem AW_label (l : Nat) (Q : Post) (S : List AV) (H : AHeap) : AW P (.label l) Q S H = Q .normal S H := rfl
theorem inScope_normal (g : Nat) (K : List AV → AHeap → Prop) (Q : Post) (S : List AV) (H : AHeap) : MX.inScope g K Q .normal S H = Q .normal S H := rfl
theorem inScope_exit (g id : Nat) (K : List AV → AHeap → Prop) (Q : Post) (S : List AV) (H : AHeap) : MX.inScope g K Q (.exit id) S H = if id = g then K S H else if 1000000 ≤ id then False else Q (.exit id) S H := rfl
theorem inScope_ret (g : Nat) (K : List AV → AHeap → Prop) (Q : Post) (S : List AV) (H : AHeap) : MX.inScope g K Q .ret S H = Q .ret S H := rfl
/-- A scope with one label: at each jump, for some x, the slots hold 'L x' and the heap is 'hp x'. -/
theorem AW_scope {α : Type} {g : Nat} {a r : MCode} {Q : Post} {S : List AV} {H : AHeap} (n : Nat) (inv : α → Prop) (L : α → List (Nat × AV)) (hp : α → AHeap) (μ : α → Nat) (N : Nat)
    (hfirst : AW P a (MX.inScope g (fun S' H' => ∃ y, inv y ∧ S'.length = n ∧ Has S' (L y) ∧ H' = hp y ∧ μ y < N) Q) S H)
    (hstep : ∀ x, inv x → AW P r (MX.inScope g (fun S' H' => ∃ y, inv y ∧ S'.length = n ∧ Has S' (L y) ∧ H' = hp y ∧ μ y < μ x) Q) (mk n (L x)) (hp x)) : AW P (.scope g a r) Q S H := by
  refine ⟨fun k S H => ∃ x, inv x ∧ S = mk n (L x) ∧ H = hp x ∧ μ x = k, AW_mono (fun e S' H' h => ?_) hfirst, ?_⟩
  · cases e with
    | normal => exact h
    | exit id =>
      simp only [MX.inScope] at h ⊢
      split at h
      · rename_i hi
        rw [if_pos hi]
        obtain ⟨y, hy, h1, h2, rfl, h4⟩ := h
        exact ⟨μ y, mk n (L y), forget_mk h1 h2, y, hy, rfl, rfl, rfl⟩
      · rename_i hi; rw [if_neg hi]; exact h
    | ret => exact h
  · rintro k S H ⟨x, hx, rfl, rfl, rfl⟩
    refine AW_mono (fun e S' H' h => ?_) (hstep x hx)
    cases e with
    | normal => exact h
    | exit id =>
      simp only [MX.inScope] at h ⊢
      split at h
      · rename_i hi
        rw [if_pos hi]
        obtain ⟨y, hy, h1, h2, rfl, h4⟩ := h
        exact ⟨μ y, mk n (L y), h4, forget_mk h1 h2, y, hy, rfl, rfl, rfl⟩
      · rename_i hi; rw [if_neg hi]; exact h
    | ret => exact h
theorem AW_exit (id : Nat) (Q : Post) (S : List AV) (H : AHeap) : AW P (.exit id) Q S H = Q (.exit id) S H := rfl
theorem AW_ret (Q : Post) (S : List AV) (H : AHeap) : AW P .ret Q S H = Q .ret S H := rfl
theorem then_normal (k : List AV → AHeap → Prop) (Q : Post) (S : List AV) (H : AHeap) : MX.then k Q .normal S H = k S H := rfl
theorem then_exit (k : List AV → AHeap → Prop) (Q : Post) (i : Nat) (S : List AV) (H : AHeap) : MX.then k Q (.exit i) S H = Q (.exit i) S H := rfl
theorem then_ret (k : List AV → AHeap → Prop) (Q : Post) (S : List AV) (H : AHeap) : MX.then k Q .ret S H = Q .ret S H := rfl
theorem inBlock_normal (id : Nat) (Q : Post) (S : List AV) (H : AHeap) : MX.inBlock id Q .normal S H = Q .normal S H := rfl
theorem inBlock_exit (id i : Nat) (Q : Post) (S : List AV) (H : AHeap) : MX.inBlock id Q (.exit i) S H = if i = id then Q .normal S H else Q (.exit i) S H := rfl
theorem inBlock_ret (id : Nat) (Q : Post) (S : List AV) (H : AHeap) : MX.inBlock id Q .ret S H = Q .ret S H := rfl
/-- The end of a function. -/
def Fin (res : List PAct) (H : AHeap) (v : AV) (H' : AHeap) : Post := fun e S H1 => (e = .normal ∨ e = .ret) ∧ ∃ v1, resV res S = some v1 ∧ GC H v1 H1 v H'
theorem Fin_ret (res : List PAct) (H : AHeap) (v : AV) (H' : AHeap) (S : List AV) (H1 : AHeap) : Fin res H v H' .ret S H1 = on (resV res S) (fun v1 => GC H v1 H1 v H') ⟨⟩ := by
  apply propext
  unfold Fin on
  cases resV res S <;> simp
theorem Fin_normal (res : List PAct) (H : AHeap) (v : AV) (H' : AHeap) (S : List AV) (H1 : AHeap) : Fin res H v H' .normal S H1 = on (resV res S) (fun v1 => GC H v1 H1 v H') ⟨⟩ := by
  apply propext
  unfold Fin on
  cases resV res S <;> simp
/-- A function's contract, from its body. -/
theorem acalls (hm : P.follows .mixedOrders = true) {f : FuncId} {fn : Func} (hf : P.funcs[f]? = some fn) (hn : (fn.name == "runtime.NumGoroutine") = false) {bx cs : List Nat} {m : MFun} (ht : trF P bx cs fn = some m) {args : List AV} {H H' : AHeap} {v : AV} (n : Nat)
    (hl : args.length = n) (hb : m.bx.all (fun d => decide (n ≤ d)) = true) (hA : AW P m.body (Fin m.res H v H') (args ++ List.replicate (m.nt - n) .junk) H) : ACalls P f args H v H' := by
  subst hl
  exact calls_of_aw hm hf hn ht hb hA
theorem gc_val {H : AHeap} {v1 v : AV} {H1 : AHeap} (hp : H <+: H1) (hv : ren (fun n => if n < H.length then some n else none) 4 v1 = v) : GC H v1 H1 v H := gc_keep (keep_old hp) hv
theorem gc_same {H : AHeap} {v1 v : AV} (hv : v1 = v) : GC H v1 H v H := by subst hv; exact gc_all
theorem gc_same_all {H H1 H' : AHeap} {v1 v : AV} (hv : v1 = v) (hH : H1 = H') : GC H v1 H1 v H' := by subst hv; subst hH; exact gc_all
end
end Go.Eng

namespace Go.Eng
open Go
theorem bin_add (k : IntKind) (a b : Int) : binI .add (.int k a) (.int k b) = some (.int k (k.wrap (a + b))) := by cases k <;> rfl
theorem bin_sub (k : IntKind) (a b : Int) : binI .sub (.int k a) (.int k b) = some (.int k (k.wrap (a - b))) := by cases k <;> rfl
theorem bin_mul (k : IntKind) (a b : Int) : binI .mul (.int k a) (.int k b) = some (.int k (k.wrap (a * b))) := by cases k <;> rfl
theorem bin_quo (k : IntKind) (a b : Int) : binI .quo (.int k a) (.int k b) = if b = 0 then none else some (.int k (k.wrap (a.tdiv b))) := by cases k <;> rfl
theorem bin_rem (k : IntKind) (a b : Int) : binI .rem (.int k a) (.int k b) = if b = 0 then none else some (.int k (a.tmod b)) := by cases k <;> rfl
theorem bin_eql (k : IntKind) (a b : Int) : binI .eql (.int k a) (.int k b) = some (.bool (decide (a = b))) := by
  have : binI .eql (.int k a) (.int k b) = some (.bool (a == b)) := by cases k <;> rfl
  rw [this]; congr 1
theorem bin_neq (k : IntKind) (a b : Int) : binI .neq (.int k a) (.int k b) = some (.bool (decide (¬ a = b))) := by
  have : binI .neq (.int k a) (.int k b) = some (.bool (a != b)) := by cases k <;> rfl
  rw [this]; congr 2; rw [Bool.eq_iff_iff]; simp
theorem bin_lss (k : IntKind) (a b : Int) : binI .lss (.int k a) (.int k b) = some (.bool (decide (a < b))) := by cases k <;> rfl
theorem bin_leq (k : IntKind) (a b : Int) : binI .leq (.int k a) (.int k b) = some (.bool (decide (a ≤ b))) := by cases k <;> rfl
theorem bin_gtr (k : IntKind) (a b : Int) : binI .gtr (.int k a) (.int k b) = some (.bool (decide (b < a))) := by cases k <;> rfl
theorem bin_geq (k : IntKind) (a b : Int) : binI .geq (.int k a) (.int k b) = some (.bool (decide (b ≤ a))) := by cases k <;> rfl
theorem w64 (n : Int) (h0 : -9223372036854775808 ≤ n) (h1 : n < 9223372036854775808) : IntKind.i64.wrap n = n := by
  have e : IntKind.i64.wrap n = if n % 18446744073709551616 ≥ 9223372036854775808 then n % 18446744073709551616 - 18446744073709551616 else n % 18446744073709551616 := by
    simp [IntKind.wrap, IntKind.bits, IntKind.signed]
  rw [e]
  split <;> omega
theorem mm_max (a b : Int) : mmA true (.int .i64 a) [.int .i64 b] = some (I (max a b)) := rfl
theorem mm_min (a b : Int) : mmA false (.int .i64 a) [.int .i64 b] = some (I (min a b)) := rfl
theorem map_c {α β : Type} (f : α → β) (x : α) (xs : List α) : List.map f (x :: xs) = f x :: List.map f xs := by simp
theorem map_n {α β : Type} (f : α → β) : List.map f [] = [] := by simp
theorem rd_S (S : List AV) (i : Nat) : rd S (.s i) = (S[i]?).getD .junk := by simp [rd]
theorem rd_C (S : List AV) (v : AV) : rd S (.c v) = v := by simp [rd]
theorem put_S (S : List AV) (d : Nat) (v : AV) : putS S (some d) v = S.set d v := by simp [putS]
def LoopK (P : Program) (a : MCode) (Q : Post) (S : List AV) (H : AHeap) (_ : Lk a) (_ : Lk Q) : Prop := AW P (.loop a) Q S H
def CutK (P : Program) (a : MCode) (Q : Post) (S : List AV) (H : AHeap) (_ : Lk a) (_ : Lk Q) : Prop := AW P (.cut a) Q S H
theorem AW_toLoop {P : Program} {a : MCode} {Q : Post} {S : List AV} {H : AHeap} : AW P (.loop a) Q S H = LoopK P a Q S H ⟨⟩ ⟨⟩ := rfl
theorem AW_toCut {P : Program} {a : MCode} {Q : Post} {S : List AV} {H : AHeap} : AW P (.cut a) Q S H = CutK P a Q S H ⟨⟩ ⟨⟩ := rfl
def ScopeK (P : Program) (g : Nat) (a r : MCode) (Q : Post) (S : List AV) (H : AHeap) (_ : Lk a) (_ : Lk r) (_ : Lk Q) : Prop := AW P (.scope g a r) Q S H
theorem AW_toScope {P : Program} {g : Nat} {a r : MCode} {Q : Post} {S : List AV} {H : AHeap} : AW P (.scope g a r) Q S H = ScopeK P g a r Q S H ⟨⟩ ⟨⟩ ⟨⟩ := rfl
theorem ScopeK.by {P : Program} {α : Type} {g : Nat} {a r : MCode} {Q : Post} {S : List AV} {H : AHeap} {d : Lk a} {d1 : Lk r} {d' : Lk Q} (n : Nat) (inv : α → Prop) (L : α → List (Nat × AV)) (hp : α → AHeap) (μ : α → Nat) (N : Nat)
    (hfirst : AW P a (MX.inScope g (fun S' H' => ∃ y, inv y ∧ S'.length = n ∧ Has S' (L y) ∧ H' = hp y ∧ μ y < N) Q) S H)
    (hstep : ∀ x, inv x → AW P r (MX.inScope g (fun S' H' => ∃ y, inv y ∧ S'.length = n ∧ Has S' (L y) ∧ H' = hp y ∧ μ y < μ x) Q) (mk n (L x)) (hp x)) : ScopeK P g a r Q S H d d1 d' := AW_scope n inv L hp μ N hfirst hstep
theorem LoopK.by {P : Program} {α : Type} {a : MCode} {Q : Post} {S : List AV} {H : AHeap} {d : Lk a} {d' : Lk Q} (n : Nat) (inv : α → Prop) (L : α → List (Nat × AV)) (hp : α → AHeap) (μ : α → Nat) (x0 : α) (h0 : inv x0) (hn : S.length = n) (hL : Has S (L x0)) (hH : H = hp x0)
    (hstep : ∀ x, inv x → AW P a (MX.then (fun S' H' => ∃ y, inv y ∧ S'.length = n ∧ Has S' (L y) ∧ H' = hp y ∧ μ y < μ x) Q) (mk n (L x)) (hp x)) : LoopK P a Q S H d d' := AW_loop n inv L hp μ x0 h0 hn hL hH hstep
theorem CutK.by {P : Program} {m : MCode} {Q : Post} {S : List AV} {H : AHeap} {d : Lk m} {d' : Lk Q} (n : Nat) (L : List (Nat × AV)) (hn : S.length = n) (h : Has S L) (k : AW P m Q (mk n L) H) : CutK P m Q S H d d' := AW_join n L hn h k
def nm : AV → Nat
  | .sl _ n _ _ _ => n
  | _ => 0
def of : AV → Nat
  | .sl _ _ off _ _ => off
  | _ => 0
/-- 'v' is, in 'H', the list 'xs', each element in 'es' cells as 'e' says. -/
structure Ls {α : Type} (es : Nat) (e : α → List AV) (H : AHeap) (v : AV) (xs : List α) : Prop where
  he : ∀ x, (e x).length = es
  hc : slCells es H v = some (xs.length, xs.flatMap e)
theorem flatMap_length {α : Type} {es : Nat} {e : α → List AV} (he : ∀ x, (e x).length = es) (xs : List α) : (xs.flatMap e).length = xs.length * es := by
  induction xs with
  | nil => simp
  | cons x xs ih => simp [ih, he, Nat.add_mul, Nat.add_comm]
theorem flatMap_at {α : Type} {es : Nat} {e : α → List AV} (he : ∀ x, (e x).length = es) : ∀ (xs : List α) (i : Nat) (x : α), xs[i]? = some x → ((xs.flatMap e).drop (i * es)).take es = e x := by
  intro xs
  induction xs with
  | nil => intro i x h; simp at h
  | cons y ys ih =>
    intro i x h
    cases i with
    | zero =>
      simp at h; subst h
      simp [← he y]
    | succ i =>
      have := ih i x (by simpa using h)
      rw [List.flatMap_cons, Nat.add_mul, Nat.one_mul, Nat.add_comm, ← List.drop_drop]
      conv => lhs; arg 2; arg 2; rw [← he y]
      rw [List.drop_left]; exact this
section
variable {α : Type} {es : Nat} {e : α → List AV} {H : AHeap} {v : AV} {xs : List α}
theorem cells_some {H : AHeap} {n off cnt : Nat} {c : List AV} (h : cellsAt H n off cnt = some c) : ∃ rw l, H[n]? = some (.cells rw l) ∧ off + cnt ≤ l.length ∧ (l.drop off).take cnt = c := by
  unfold cellsAt at h
  split at h
  · rename_i rw l h1
    split at h
    · rename_i h2; exact ⟨rw, l, h1, h2, by simpa using h⟩
    · cases h
  · cases h
theorem Ls.inv (h : Ls es e H v xs) : (v = .nilS ∧ xs = []) ∨ ∃ n off full rw l, v = .sl es n off xs.length full ∧ H[n]? = some (.cells rw l) ∧ off + xs.length * es ≤ l.length ∧ (l.drop off).take (xs.length * es) = xs.flatMap e := by
  have hc := h.hc
  unfold slCells at hc
  split at hc
  · left; refine ⟨rfl, ?_⟩
    simp at hc
    cases xs with
    | nil => rfl
    | cons x xs => simp at hc
  · rename_i es' n off len full
    right
    split at hc
    · rename_i he; subst he
      cases hcc : cellsAt H n off (len * es') with
      | none => rw [hcc] at hc; cases hc
      | some l =>
        rw [hcc] at hc
        simp at hc
        obtain ⟨rfl, rfl⟩ := hc
        obtain ⟨rw, l, h1, h2, h3⟩ := cells_some hcc
        exact ⟨n, off, full, rw, l, rfl, h1, h2, h3⟩
    · cases hc
  · cases hc
theorem Ls.len (h : Ls es e H v xs) : lenA v = some (I xs.length) := by
  rcases h.inv with ⟨rfl, rfl⟩ | ⟨n, off, full, rw, l, rfl, _⟩ <;> rfl
theorem Ls.mono (h : Ls es e H v xs) {H' : AHeap} (hp : H <+: H') : Ls es e H' v xs := by
  refine ⟨h.he, ?_⟩
  rcases h.inv with ⟨rfl, rfl⟩ | ⟨n, off, full, rw, l, rfl, h1, h2, h3⟩
  · rfl
  · have : H'[n]? = some (.cells rw l) := by
      obtain ⟨t, rfl⟩ := hp
      rw [List.getElem?_append_left (List.getElem?_eq_some_iff.1 h1).1]; exact h1
    simp [slCells, cellsAt, this, h2, h3]
theorem Ls.idx (h : Ls es e H v xs) {k : IntKind} {i : Nat} (hi : i < xs.length) : idxA es v (.int k i) = some (.ptr (nm v) (of v + i * es)) := by
  rcases h.inv with ⟨rfl, rfl⟩ | ⟨n, off, full, rw, l, rfl, _⟩
  · simp at hi
  · simp only [idxA, nm, of]
    rw [if_pos ⟨by omega, by omega⟩]
    simp
/-- By a number that may be below 0 or too great. -/
theorem Ls.idxI (h : Ls es e H v xs) {k : IntKind} {i : Int} (h0 : 0 ≤ i) (hi : i < xs.length) : idxA es v (.int k i) = some (.ptr (nm v) (of v + i.toNat * es)) := by
  have := h.idx (k := k) (i := i.toNat) (by omega)
  rwa [show ((i.toNat : Nat) : Int) = i by omega] at this
theorem Ls.ld (h : Ls es e H v xs) {i : Nat} {x : α} (hx : xs[i]? = some x) (sz fo : Nat) (ag : Bool) (hf : fo + sz ≤ es) : ldA sz ag (.ptr (nm v) (of v + i * es + fo)) H = partA (e x) fo sz ag := by
  have hi : i < xs.length := (List.getElem?_eq_some_iff.1 hx).1
  rcases h.inv with ⟨rfl, rfl⟩ | ⟨n, off, full, rw, l, rfl, h1, h2, h3⟩
  · simp at hi
  · have h4 := flatMap_at h.he xs i x hx
    rw [← h3] at h4
    have hle : i * es + es ≤ xs.length * es := by
      rw [← Nat.succ_mul]; exact Nat.mul_le_mul_right _ hi
    have h5 : (l.drop (off + i * es)).take es = e x := by
      rw [List.drop_take, List.drop_drop, List.take_take] at h4
      rw [← h4]; congr 1; omega
    simp only [ldA, nm, of, h1]
    have hl := h.he x
    have e0 : partA (e x) fo sz ag = if ag then some (.agg (((e x).drop fo).take sz)) else (if sz = 1 then (e x)[fo]? else none) := by
      unfold partA; rw [if_pos (by omega)]
    rw [e0, ← h5]
    unfold partA
    rw [if_pos (by omega)]
    have e1 : (l.drop (off + i * es + fo)).take sz = (((l.drop (off + i * es)).take es).drop fo).take sz := by
      rw [List.drop_take, List.drop_drop, List.take_take]; congr 1; omega
    rw [e1]
    by_cases ha : ag = true
    · rw [if_pos ha, if_pos ha]
    · rw [if_neg ha, if_neg ha]
      by_cases hs : sz = 1
      · rw [if_pos hs, if_pos hs, List.getElem?_take, if_pos (by omega), List.getElem?_drop]
      · rw [if_neg hs, if_neg hs]
theorem Ls.ld0 (h : Ls es e H v xs) {i : Nat} {x : α} (hx : xs[i]? = some x) (sz : Nat) (ag : Bool) (hf : sz ≤ es) : ldA sz ag (.ptr (nm v) (of v + i * es)) H = partA (e x) 0 sz ag :=
  h.ld hx sz 0 ag (by omega)
end
def e1 (x : Int) : List AV := [I x]
def e2 (x : Int × Int) : List AV := [I x.1, I x.2]
abbrev L1 := Ls 1 e1
abbrev L2 := Ls 2 e2
theorem e1_len (x : Int) : (e1 x).length = 1 := rfl
theorem e2_len (x : Int × Int) : (e2 x).length = 2 := rfl
theorem part_e2 (x : Int × Int) : partA (e2 x) 0 2 true = some (.agg [I x.1, I x.2]) := rfl
theorem part_e20 (x : Int × Int) : partA (e2 x) 0 1 false = some (I x.1) := rfl
theorem part_e21 (x : Int × Int) : partA (e2 x) 1 1 false = some (I x.2) := rfl
theorem part_e1 (x : Int) : partA (e1 x) 0 1 false = some (I x) := rfl
def Acc (es : Nat) (H H1 : AHeap) (v : AV) (cs : List AV) (k : Nat) : Prop :=
  H <+: H1 ∧ cs.length = k * es ∧ ((k = 0 ∧ v = .nilS) ∨ (0 < k ∧ ∃ n, v = .sl es n 0 k false ∧ H.length ≤ n ∧ H1[n]? = some (.cells true cs)))
theorem Acc.nil (es : Nat) {H H1 : AHeap} (h : H <+: H1) : Acc es H H1 .nilS [] 0 := ⟨h, by simp, .inl ⟨rfl, rfl⟩⟩
theorem pre_trans {H H1 H2 : AHeap} (h : H <+: H1) (k : H1 <+: H2) : H <+: H2 := h.trans k
theorem pre_app (H : AHeap) (l : List AObj) : H <+: H ++ l := ⟨l, rfl⟩
theorem pre_get {H H1 : AHeap} (h : H <+: H1) {n : Nat} {o : AObj} (hn : H[n]? = some o) : H1[n]? = some o := by
  obtain ⟨t, rfl⟩ := h
  rw [List.getElem?_append_left (List.getElem?_eq_some_iff.1 hn).1]; exact hn
theorem pre_set {H H1 : AHeap} (h : H <+: H1) {n : Nat} (hn : H.length ≤ n) (o : AObj) : H <+: H1.set n o := by
  obtain ⟨t, rfl⟩ := h
  rw [List.set_append_right (h := hn)]
  exact ⟨_, rfl⟩
theorem Acc.mono {es : Nat} {H H1 H2 : AHeap} {v : AV} {cs : List AV} {k : Nat} (h : Acc es H H1 v cs k) (hp : H1 <+: H2) : Acc es H H2 v cs k := by
  obtain ⟨h1, h2, h3⟩ := h
  refine ⟨h1.trans hp, h2, ?_⟩
  rcases h3 with h | ⟨h0, n, h4, h5, h6⟩
  · exact .inl h
  · exact .inr ⟨h0, n, h4, h5, pre_get hp h6⟩
/-- What stands in an object that is older is not touched by what is appended to a younger one. -/
theorem Acc.app {es : Nat} {H H1 : AHeap} {v : AV} {cs : List AV} {k : Nat} (h : Acc es H H1 v cs k) {y : AV} {j : Nat} {new : List AV} (hy : slCells es H1 y = some (j, new)) (hn : new.length = j * es) (hl : k + j ≤ lim) :
    ∃ v' H2, appA es H1 v y = some (v', H2) ∧ Acc es H H2 v' (cs ++ new) (k + j) ∧ (∀ m, v' = .sl es m 0 (k + j) false → H.length ≤ m) := by
  obtain ⟨h1, h2, h3⟩ := h
  rcases h3 with ⟨rfl, rfl⟩ | ⟨h0, n, rfl, h5, h6⟩
  · have hcs : cs = [] := by simpa using h2
    subst hcs
    by_cases hj : j = 0
    · subst hj
      have hnn : new = [] := by simpa using hn
      subst hnn
      exact ⟨.nilS, H1, by simp [appA, hy], ⟨h1, by simp, .inl ⟨rfl, rfl⟩⟩, by simp⟩
    · refine ⟨.sl es H1.length 0 j false, H1 ++ [.cells true new], by simp [appA, hy, hj]; omega, ⟨h1.trans (pre_app _ _), by simp [hn], .inr ⟨by omega, H1.length, by simp, h1.length_le, by simp⟩⟩, ?_⟩
      intro m hm; simp at hm; rw [← hm]; exact h1.length_le
  · by_cases hj : j = 0
    · subst hj
      have hnn : new = [] := by simpa using hn
      subst hnn
      rw [List.append_nil, Nat.add_zero]
      refine ⟨.sl es n 0 k false, H1, by simp [appA, hy], ⟨h1, h2, .inr ⟨h0, n, rfl, h5, h6⟩⟩, ?_⟩
      intro m hm; simp at hm; omega
    · refine ⟨.sl es H1.length 0 (k + j) false, H1.set n .dead ++ [.cells true (cs ++ new)], ?_, ⟨(pre_set h1 h5 _).trans (pre_app _ _), by simp [hn, h2, Nat.add_mul], .inr ⟨by omega, H1.length, by simp, h1.length_le, by simp⟩⟩, ?_⟩
      · simp only [appA, hy, if_neg hj]
        have h7 : k + j ≤ lim := hl
        have h8 : k * es ≤ cs.length := by omega
        have h9 : cs.take (k * es) = cs := by rw [← h2, List.take_length]
        simp [h7, h6, h8, h9]
      · intro m hm; simp at hm; rw [← hm]; exact h1.length_le
/-- A list that a function returns. -/
def outV (es : Nat) (H : AHeap) (k : Nat) : AV := if k = 0 then .nilS else .sl es H.length 0 k false
def outH (H : AHeap) (cs : List AV) (k : Nat) : AHeap := if k = 0 then H else H ++ [.cells true cs]
/-- Cells in which nothing points anywhere. -/
def flat : AV → Bool
  | .int .. | .bool _ | .nilS | .nilP | .nilF | .nilM => true
  | _ => false
theorem ren_flat (f : Nat → Option Nat) (d : Nat) (x : AV) (h : flat x = true) : ren f (d + 1) x = x := by
  cases x <;> simp [flat] at h <;> rfl
theorem ren_flats (f : Nat → Option Nat) (d : Nat) (cs : List AV) (h : ∀ x ∈ cs, flat x = true) : cs.map (ren f (d + 1)) = cs := by
  induction cs with
  | nil => rfl
  | cons x xs ih =>
    rw [List.map_cons, ren_flat f d x (h x (by simp)), ih (fun y hy => h y (by simp [hy]))]
end Go.Eng

namespace Go.Eng
open Go
def eqL (f : AV → AV → Bool) : List AV → List AV → Bool
  | [], [] => true
  | x :: xs, y :: ys => f x y && eqL f xs ys
  | _, _ => false
theorem eqL_ok {f : AV → AV → Bool} (hf : ∀ x y, f x y = true → x = y) : ∀ xs ys, eqL f xs ys = true → xs = ys
  | [], [], _ => rfl
  | x :: xs, y :: ys, h => by
    simp only [eqL, Bool.and_eq_true] at h
    rw [hf x y h.1, eqL_ok hf xs ys h.2]
  | [], _ :: _, h => by simp [eqL] at h
  | _ :: _, [], h => by simp [eqL] at h
def eqA : Nat → AV → AV → Bool
  | 0, _, _ => false
  | d + 1, x, y =>
    match x, y with
    | .bool a, .bool b => a == b
    | .int k a, .int k' b => decide (k = k') && decide (a = b)
    | .agg a, .agg b => eqL (eqA d) a b
    | .fn f a, .fn g b => decide (f = g) && eqL (eqA d) a b
    | .nilS, .nilS => true
    | .sl es n off len full, .sl es' n' off' len' full' => decide (es = es') && decide (n = n') && decide (off = off') && decide (len = len') && (full == full')
    | .nilP, .nilP => true
    | .ptr n off, .ptr n' off' => decide (n = n') && decide (off = off')
    | .nilF, .nilF => true
    | .nilM, .nilM => true
    | .mp n, .mp n' => decide (n = n')
    | .junk, .junk => true
    | .adr, .adr => true
    | .tuple a, .tuple b => eqL (eqA d) a b
    | _, _ => false
theorem eqA_ok : ∀ (d : Nat) (x y : AV), eqA d x y = true → x = y
  | 0, _, _, h => by simp [eqA] at h
  | d + 1, x, y, h => by
    unfold eqA at h
    split at h <;> first
      | rfl
      | (cases h; done)
      | (simp only [Bool.and_eq_true, decide_eq_true_eq] at h; rw [h.1, eqL_ok (eqA_ok d) _ _ h.2])
      | (rw [eqL_ok (eqA_ok d) _ _ h])
      | (simp only [Bool.and_eq_true, decide_eq_true_eq, beq_iff_eq] at h; simp [h])
def eqO : AObj → AObj → Bool
  | .cells rw l, .cells rw' l' => (rw == rw') && eqL (eqA 8) l l'
  | .dead, .dead => true
  | .mp l, .mp l' => eqL (eqA 8) (l.map (·.1)) (l'.map (·.1)) && eqL (eqA 8) (l.map (·.2)) (l'.map (·.2))
  | _, _ => false
theorem pairs_eq {α β : Type} : ∀ {l l' : List (α × β)}, l.map (·.1) = l'.map (·.1) → l.map (·.2) = l'.map (·.2) → l = l'
  | [], [], _, _ => rfl
  | x :: l, y :: l', h, k => by
    simp only [List.map_cons, List.cons.injEq] at h k
    rw [pairs_eq h.2 k.2, Prod.ext h.1 k.1]
  | [], _ :: _, h, _ => by simp at h
  | _ :: _, [], h, _ => by simp at h
theorem eqO_ok (x y : AObj) (h : eqO x y = true) : x = y := by
  unfold eqO at h
  split at h
  · simp only [Bool.and_eq_true, beq_iff_eq] at h
    rw [h.1, eqL_ok (eqA_ok 8) _ _ h.2]
  · rfl
  · simp only [Bool.and_eq_true] at h
    rw [pairs_eq (eqL_ok (eqA_ok 8) _ _ h.1) (eqL_ok (eqA_ok 8) _ _ h.2)]
  · cases h
def preB : AHeap → AHeap → Bool
  | [], _ => true
  | x :: xs, y :: ys => eqO x y && preB xs ys
  | _ :: _, [] => false
theorem preB_ok : ∀ (a b : AHeap), preB a b = true → a <+: b
  | [], _, _ => List.nil_prefix
  | x :: xs, y :: ys, h => by
    simp only [preB, Bool.and_eq_true] at h
    rw [eqO_ok x y h.1]
    exact (List.cons_prefix_cons).2 ⟨rfl, preB_ok xs ys h.2⟩
  | _ :: _, [], h => by simp [preB] at h
abbrev Caller := FuncId → List AV → AHeap → Option (AV × AHeap)
def evA (call : Caller) (a : Act1) (S : List AV) (H : AHeap) : Option (AV × AHeap) :=
  match a with
  | .pu p => match pval p S with | some v => some (v, H) | none => none
  | .ld l => match lval l S H with | some v => some (v, H) | none => none
  | .ha h => hval h S H
  | .call f args => call f (args.map (rd S)) H
  | .callv x args => match rd S x with | .fn f cap => call f (args.map (rd S) ++ cap) H | .bm f xs => call f (xs ++ args.map (rd S)) H | _ => none
def evO (call : Caller) : List MOp → List AV → AHeap → Option (List AV × AHeap)
  | [], S, H => some (S, H)
  | o :: r, S, H =>
    match wantedA S o.guard with
    | none => none
    | some false => evO call r (skipS S o) H
    | some true =>
      match evA call o.act S H with
      | none => none
      | some (v, H') => if (!o.ext || preB H H') = true then evO call r (putS S o.w v) H' else none
def evM (call : Caller) : Nat → MCode → List AV → AHeap → Option (MX × List AV × AHeap)
  | 0, _, _, _ => none
  | n + 1, c, S, H =>
    match c with
    | .skip => some (.normal, S, H)
    | .ops l => match evO call l S H with | some (S', H') => some (.normal, S', H') | none => none
    | .ops2 l l' => match evO call l S H, evO call l' S H with
      | some (S1, H1), some (S2, H2) => if (eqL (eqA 8) S1 S2 && preB H1 H2 && Nat.beq H1.length H2.length) = true then some (.normal, S1, H1) else none
      | _, _ => none
    | .seq a b => match evM call n a S H with
      | some (.normal, S', H') => evM call n b S' H'
      | r => r
    | .cond c a b => match rd S c with
      | .bool true => evM call n a S H
      | .bool false => evM call n b S H
      | _ => none
    | .block id a => match evM call n a S H with
      | some (.exit id', S', H') => if id' = id then some (.normal, S', H') else some (.exit id', S', H')
      | r => r
    | .loop a => match evM call n a S H with
      | some (.normal, S', H') => evM call n (.loop a) S' H'
      | r => r
    | .cut a => evM call n a S H
    | .label _ => some (.normal, S, H)
    | .scope g a r => match evM call n a S H with
      | some (.exit id, S', H') => if id = g then evM call n (.scope g r r) S' H' else if GB ≤ id then none else some (.exit id, S', H')
      | r => r
    | .exit id => some (.exit id, S, H)
    | .ret => some (.ret, S, H)
    | .fail => none
section
variable {P : Program} {call : Caller}
theorem evA_ok (hc : ∀ f args H v H', call f args H = some (v, H') → ACalls P f args H v H') {a : Act1} {S : List AV} {H : AHeap} {v : AV} {H' : AHeap} (h : evA call a S H = some (v, H')) : a.out P S H v H' := by
  cases a with
  | pu p =>
    simp only [evA] at h
    split at h
    · rename_i u hu; cases h; exact ⟨hu, rfl⟩
    · cases h
  | ld l =>
    simp only [evA] at h
    split at h
    · rename_i u hu; cases h; exact ⟨hu, rfl⟩
    · cases h
  | ha x => exact h
  | call f args => exact hc _ _ _ _ _ h
  | callv x args =>
    simp only [evA] at h
    split at h
    · rename_i f cap hx; exact .inl ⟨f, cap, hx, hc _ _ _ _ _ h⟩
    · rename_i f cap hx; exact .inr ⟨f, cap, hx, hc _ _ _ _ _ h⟩
    · cases h
theorem evO_ok (hc : ∀ f args H v H', call f args H = some (v, H') → ACalls P f args H v H') : ∀ (l : List MOp) {Q : List AV → AHeap → Prop} {S : List AV} {H : AHeap} {S' : List AV} {H' : AHeap}, evO call l S H = some (S', H') → Q S' H' → AOps P l Q S H := by
  intro l
  induction l with
  | nil => intro Q S H S' H' h hq; simp only [evO, Option.some.injEq, Prod.mk.injEq] at h; rw [← h.1, ← h.2] at hq; exact hq
  | cons o r ih =>
    intro Q S H S' H' h hq
    simp only [evO] at h
    simp only [AOps]
    split at h
    · cases h
    · rename_i hw; rw [hw]; simp only [Bool.false_eq_true, if_false]; exact ih h hq
    · rename_i hw
      rw [hw]
      simp only [if_true]
      split at h
      · cases h
      · rename_i v H1 hv
        split at h
        · rename_i he
          refine ⟨v, H1, evA_ok hc hv, fun hx => ?_, ih h hq⟩
          rw [hx] at he
          exact preB_ok _ _ (by simpa using he)
        · cases h
theorem evM_ok (hc : ∀ f args H v H', call f args H = some (v, H') → ACalls P f args H v H') : ∀ (n : Nat) (m : MCode) {Q : Post} {S : List AV} {H : AHeap} {e : MX} {S' : List AV} {H' : AHeap}, evM call n m S H = some (e, S', H') → Q e S' H' → AW P m Q S H := by
  intro n
  induction n using Nat.strongRecOn with
  | _ n ih =>
  intro m Q S H e S' H' h hq
  cases n with
  | zero => simp [evM] at h
  | succ n =>
    cases m with
    | skip => simp only [evM, Option.some.injEq, Prod.mk.injEq] at h; obtain ⟨rfl, rfl, rfl⟩ := h; exact hq
    | ops l =>
      simp only [evM] at h
      split at h
      · rename_i S1 H1 h1; cases h; exact evO_ok hc l h1 hq
      · cases h
    | ops2 l l' =>
      simp only [evM] at h
      split at h
      case h_2 => cases h
      rename_i S1 H1 S2 H2 h1 h2
      split at h
      case isFalse => cases h
      rename_i heq
      simp only [Bool.and_eq_true] at heq
      obtain ⟨⟨e1, e2⟩, e3⟩ := heq
      cases h
      refine ⟨evO_ok hc l h1 hq, evO_ok hc l' h2 ?_⟩
      rw [← eqL_ok (eqA_ok 8) _ _ e1, ← List.IsPrefix.eq_of_length (preB_ok _ _ e2) (Nat.eq_of_beq_eq_true e3)]
      exact hq
    | seq a b =>
      simp only [evM] at h
      split at h
      · rename_i S1 H1 h1
        exact ih n (by omega) a h1 (Q := MX.then (AW P b Q) Q) (ih n (by omega) b h hq)
      · rename_i h1
        refine ih n (by omega) a h (Q := MX.then (AW P b Q) Q) ?_
        cases e with
        | normal => exact absurd h (h1 _ _)
        | exit id => exact hq
        | ret => exact hq
    | cond c a b =>
      simp only [evM] at h
      simp only [AW]
      split at h
      · rename_i hb; rw [hb]; exact ih n (by omega) a h hq
      · rename_i hb; rw [hb]; exact ih n (by omega) b h hq
      · cases h
    | block id a =>
      simp only [evM] at h
      split at h
      · rename_i id' S1 H1 h1
        refine ih n (by omega) a h1 (Q := MX.inBlock id Q) ?_
        simp only [MX.inBlock]
        split at h
        · rename_i hi; rw [if_pos hi]; cases h; exact hq
        · rename_i hi; rw [if_neg hi]; cases h; exact hq
      · rename_i h1
        refine ih n (by omega) a h (Q := MX.inBlock id Q) ?_
        cases e with
        | normal => exact hq
        | exit id' => exact absurd h (h1 _ _ _)
        | ret => exact hq
    | loop a =>
      refine ⟨fun k S H => k ≤ n + 1 ∧ evM call k (.loop a) S H = some (e, S', H'), ⟨n + 1, S, Forget.rfl', Nat.le_refl _, h⟩, ?_⟩
      rintro k S1 H1 ⟨hk, h1⟩
      cases k with
      | zero => simp [evM] at h1
      | succ k =>
        simp only [evM] at h1
        split at h1
        · rename_i S2 H2 h2
          exact ih k (by omega) a h2 (Q := MX.then _ Q) ⟨k, S2, by omega, Forget.rfl', by omega, h1⟩
        · rename_i h2
          refine ih k (by omega) a h1 (Q := MX.then _ Q) ?_
          cases e with
          | normal => exact absurd h1 (h2 _ _)
          | exit id => exact hq
          | ret => exact hq
    | cut a => exact AW_cut (ih n (by omega) a h hq)
    | label l => simp only [evM, Option.some.injEq, Prod.mk.injEq] at h; obtain ⟨rfl, rfl, rfl⟩ := h; exact hq
    | scope g a r =>
      refine ⟨fun k S H => k ≤ n ∧ evM call k (.scope g r r) S H = some (e, S', H'), ?_, ?_⟩
      · simp only [evM] at h
        split at h
        · rename_i id S1 H1 h1
          refine ih n (by omega) a h1 (Q := MX.inScope g _ Q) ?_
          simp only [MX.inScope]
          split at h
          · rename_i hi
            rw [if_pos hi]
            exact ⟨n, S1, Forget.rfl', Nat.le_refl _, h⟩
          · rename_i hi
            rw [if_neg hi]
            split at h
            · cases h
            · rename_i hg; rw [if_neg hg]; cases h; exact hq
        · rename_i h1
          refine ih n (by omega) a h (Q := MX.inScope g _ Q) ?_
          cases e with
          | normal => exact hq
          | exit id' => exact absurd h (h1 _ _ _)
          | ret => exact hq
      · rintro k S1 H1 ⟨hk, h1⟩
        cases k with
        | zero => simp [evM] at h1
        | succ k =>
          simp only [evM] at h1
          split at h1
          · rename_i id S2 H2 h2
            refine ih k (by omega) r h2 (Q := MX.inScope g _ Q) ?_
            simp only [MX.inScope]
            split at h1
            · rename_i hi
              rw [if_pos hi]
              exact ⟨k, S2, by omega, Forget.rfl', by omega, h1⟩
            · rename_i hi
              rw [if_neg hi]
              split at h1
              · cases h1
              · rename_i hg; rw [if_neg hg]; cases h1; exact hq
          · rename_i h2
            refine ih k (by omega) r h1 (Q := MX.inScope g _ Q) ?_
            cases e with
            | normal => exact hq
            | exit id' => exact absurd h1 (h2 _ _ _)
            | ret => exact hq
    | exit id => simp only [evM, Option.some.injEq, Prod.mk.injEq] at h; obtain ⟨rfl, rfl, rfl⟩ := h; exact hq
    | ret => simp only [evM, Option.some.injEq, Prod.mk.injEq] at h; obtain ⟨rfl, rfl, rfl⟩ := h; exact hq
    | fail => simp [evM] at h
/-- A list of functions with their translations. -/
def TabOK (P : Program) : List (Nat × MFun) → Prop
  | [] => True
  | (f, m) :: r => (∃ fn bx cs, P.funcs[f]? = some fn ∧ (fn.name == "runtime.NumGoroutine") = false ∧ trF P bx cs fn = some m) ∧ TabOK P r
theorem TabOK.nil : TabOK P [] := trivial
theorem TabOK.cons {f : Nat} {m : MFun} {r : List (Nat × MFun)} {fn : Func} {bx cs : List Nat} (hf : P.funcs[f]? = some fn) (hn : (fn.name == "runtime.NumGoroutine") = false) (ht : trF P bx cs fn = some m) (h : TabOK P r) : TabOK P ((f, m) :: r) := ⟨⟨fn, bx, cs, hf, hn, ht⟩, h⟩
def findT (f : Nat) : List (Nat × MFun) → Option MFun
  | [] => none
  | (g, m) :: r => if Nat.beq f g = true then some m else findT f r
theorem findT_ok {f : Nat} {m : MFun} : ∀ {l : List (Nat × MFun)}, TabOK P l → findT f l = some m → ∃ fn bx cs, P.funcs[f]? = some fn ∧ (fn.name == "runtime.NumGoroutine") = false ∧ trF P bx cs fn = some m
  | [], _, h => by simp [findT] at h
  | (g, m') :: r, hl, h => by
    simp only [findT] at h
    split at h
    · rename_i hg
      have := Nat.eq_of_beq_eq_true hg
      subst this
      cases h; exact hl.1
    · exact findT_ok hl.2 h
def runF (tab : List (Nat × MFun)) (fuel : Nat) : Nat → Caller
  | 0, _, _, _ => none
  | n + 1, f, args, H =>
    match findT f tab with
    | none => none
    | some m =>
      if (m.bx.all fun d => Nat.ble args.length d) = true then
        match evM (runF tab fuel n) fuel m.body (args ++ List.replicate (m.nt - args.length) .junk) H with
        | some (.normal, S, H') => match resV m.res S with | some v => some (v, H') | none => none
        | some (.ret, S, H') => match resV m.res S with | some v => some (v, H') | none => none
        | _ => none
      else none
theorem runF_ok (hm : P.follows .mixedOrders = true) {tab : List (Nat × MFun)} (ht : TabOK P tab) (fuel : Nat) : ∀ (n : Nat) (f : FuncId) (args : List AV) (H : AHeap) (v : AV) (H' : AHeap), runF tab fuel n f args H = some (v, H') → ACalls P f args H v H' := by
  intro n
  induction n with
  | zero => intro f args H v H' h; simp [runF] at h
  | succ n ih =>
    intro f args H v H' h
    simp only [runF] at h
    split at h
    · cases h
    rename_i m hf
    split at h
    · rename_i hb
      obtain ⟨fn, bx, cs, hfn, hnm, htr⟩ := findT_ok ht hf
      refine acalls hm hfn hnm htr args.length rfl ?_ ?_
      · refine List.all_eq_true.2 fun d hd => ?_
        have := List.all_eq_true.1 hb d hd
        simpa using Nat.le_of_ble_eq_true this
      · split at h
        · rename_i S1 H1 h1
          split at h
          · rename_i v1 hv1
            cases h
            refine evM_ok ih fuel _ h1 ?_
            exact ⟨.inl rfl, _, hv1, gc_all⟩
          · cases h
        · rename_i S1 H1 h1
          split at h
          · rename_i v1 hv1
            cases h
            refine evM_ok ih fuel _ h1 ?_
            exact ⟨.inr rfl, _, hv1, gc_all⟩
          · cases h
        · cases h
    · cases h
/-- A call that looks at nothing in the heap answers the same in every heap. -/
theorem ACalls.lift {f : FuncId} {args : List AV} {v : AV} {H' : AHeap} (h : ACalls P f args [] v H') (ha : ∀ x ∈ args, flat x = true) (hv : flat v = true) (H : AHeap) : ACalls P f args H v H := by
  refine ⟨h.1, fun ρ w cargs hs hargs => ?_⟩
  have s0 : Sim (fun _ => none) [] w := ⟨fun _ _ e => (by cases e), fun _ _ _ e => (by cases e), fun _ _ _ _ e => (by cases e)⟩
  have fl : ∀ {ρ ρ' : Ren} {x : AV} {u : Value}, flat x = true → VR ρ x u → VR ρ' x u := by
    intro ρ ρ' x u hx hr
    cases hr <;> simp [flat] at hx <;> constructor
  have a0 : LR (fun _ => none) args cargs.toList := ⟨hargs.1, fun i x u hx hu => fl (ha x (List.mem_of_getElem? hx)) (hargs.2 i x u hx hu)⟩
  refine (h.2 _ w cargs s0 a0).mono ?_
  rintro e w' ⟨ρ', cv, rfl, h1, _, h3⟩
  have hk : ∀ b, b < w.heap.size → w'.heap[b]? = w.heap[b]? := fun b hb => h3.keep b hb (fun ⟨n, L, e, _⟩ => (by cases e))
  refine ⟨ρ, cv, rfl, fl hv h1, hs.world h3.size (fun n L e => hk _ (hs.dom n L e).2), ⟨fun _ _ => rfl, Nat.le_refl _, h3.os, h3.tape, h3.out, h3.size, fun b hb _ => hk b hb, fun _ h => .inr h, fun n L e => .inl (hs.dom n L e).1⟩⟩
end
end Go.Eng

namespace Go.Eng
open Go Go.ChangeShapes Go.WideShapes Go.ChangeAt Go.RowKit
/-- What a cell of an argument is. -/
inductive CK where
  | int (k : IntKind)
  | bool
  | sl (es : Nat) (row : List CK)
def Field.cks (g : TypeId → Option (List CK)) (cells : TypeId → Nat) : List Field → Nat → Option (List CK)
  | [], _ => some []
  | f :: fs, pos =>
    match g f.type with
    | none => none
    | some k => if f.offset = pos ∧ k.length = cells f.type then (Field.cks g cells fs (pos + k.length)).map (k ++ ·) else none
def ckOf (P : Program) : Nat → TypeId → Option (List CK)
  | 0, _ => none
  | d + 1, t =>
    match P.underlying t with
    | some .bool => some [.bool]
    | some (.int k) => some [.int k]
    | some (.slice e) =>
      match ckOf P d e with
      | some row => if row.length = P.cellsOf e ∧ 0 < row.length then some [.sl row.length row] else none
      | none => none
    | some (.struct fs) =>
      match Field.cks (ckOf P d) P.cellsOf fs.toList 0 with
      | some ks => if ks.length = P.cellsOf t then some ks else none
      | none => none
    | _ => none
/-- A cell of memory that may be read. -/
inductive CellOK (w : World) : CK → Value → Prop where
  | int (k : IntKind) (n : Int) : (Lit.int k n).wf = true → CellOK w (.int k) (.int k n)
  | bool (b : Bool) : CellOK w .bool (.bool b)
  | nil (es : Nat) (row : List CK) : CellOK w (.sl es row) (.slice none 0 0)
  | sl (es : Nat) (row : List CK) (a : Addr) (len cap : Nat) (f : Nat → List Value) : len ≤ cap → cap ≤ maxLen → (cap ≠ 0 → a.spot = none ∧ ∃ cs T fz, w.heap[a.block]? = some (Obj.cells cs T fz)) → es = row.length →
      (∀ i, i < len → w.cells? 0 (a.add (i * es)) es = some (f i)) → (∀ (i j : Nat) (c : Value) (k : CK), i < len → (f i)[j]? = some c → row[j]? = some k → CellOK w k c) →
      CellOK w (.sl es row) (.slice (some a) len cap)
def RowOK (w : World) (ks : List CK) (cs : List Value) : Prop := cs.length = ks.length ∧ ∀ (i : Nat) (k : CK) (c : Value), ks[i]? = some k → cs[i]? = some c → CellOK w k c
theorem RowOK.one {w : World} {k : CK} {c : Value} (h : CellOK w k c) : RowOK w [k] [c] := by
  refine ⟨rfl, fun i k' c' hk hc => ?_⟩
  cases i with
  | zero => simp at hk hc; subst hk; subst hc; exact h
  | succ i => simp at hk
theorem RowOK.append {w : World} {k1 k2 : List CK} {c1 c2 : List Value} (h1 : RowOK w k1 c1) (h2 : RowOK w k2 c2) : RowOK w (k1 ++ k2) (c1 ++ c2) := by
  refine ⟨by simp [h1.1, h2.1], fun i k c hk hc => ?_⟩
  rw [List.getElem?_append] at hk hc
  by_cases hi : i < k1.length
  · rw [if_pos hi] at hk; rw [if_pos (by rw [h1.1]; exact hi)] at hc
    exact h1.2 i k c hk hc
  · rw [if_neg hi] at hk; rw [if_neg (by rw [h1.1]; exact hi)] at hc
    rw [h1.1] at hc
    exact h2.2 _ k c hk hc
section
variable {H : Type} {enc : TypeId × Value → H} {P : Program} {w : World}
theorem fields_ok {g : TypeId → Option (List CK)} {cells : TypeId → Nat} {F : Field → Option (DataW H × List MemPlace)} {cs : List Value}
    (hg : ∀ (f : Field) (ks : List CK) (x : DataW H × List MemPlace), g f.type = some ks → F f = some x → RowOK w ks ((cs.drop f.offset).take (cells f.type))) :
    ∀ (fs : List Field) (pos : Nat) (ks : List CK) (ys : List (DataW H × List MemPlace)), Field.cks g cells fs pos = some ks → fs.mapM F = some ys → RowOK w ks ((cs.drop pos).take ks.length) := by
  intro fs
  induction fs with
  | nil => intro pos ks ys hk _; simp [Field.cks] at hk; subst hk; exact ⟨by simp, by simp⟩
  | cons f fs ih =>
    intro pos ks ys hk hm
    simp only [Field.cks] at hk
    split at hk
    · cases hk
    rename_i k hgk
    split at hk
    case isFalse => cases hk
    rename_i hc
    simp only [Option.map_eq_some_iff] at hk
    obtain ⟨ks', hks', rfl⟩ := hk
    rw [List.mapM_cons] at hm
    cases hF : F f with
    | none => rw [hF] at hm; cases hm
    | some x =>
      rw [hF] at hm
      cases hms : fs.mapM F with
      | none => rw [hms] at hm; cases hm
      | some ys' =>
        have h1 := hg f k x hgk hF
        have h2 := ih _ _ _ hks' hms
        rw [hc.1, ← hc.2] at h1
        have e : (cs.drop pos).take (k ++ ks').length = (cs.drop pos).take k.length ++ (cs.drop (pos + k.length)).take ks'.length := by
          rw [List.length_append, List.take_add, List.drop_drop]
        rw [e]
        exact h1.append h2
theorem trod_ok : ∀ (d : Nat) (t : TypeId) (ks : List CK) (fuel : Nat) (cs : List Value) (x : DataW H × List MemPlace), ckOf P d t = some ks →
    DataW.trod enc P w 0 (fun _ => true) true fuel t cs = some x → RowOK w ks cs := by
  intro d
  induction d with
  | zero => intro t ks fuel cs x h; simp [ckOf] at h
  | succ d ih =>
    intro t ks fuel cs x hk h
    simp only [ckOf] at hk
    split at hk
    · rename_i hu
      cases hk
      cases fuel with
      | zero => simp [DataW.trod] at h
      | succ fuel =>
        unfold DataW.trod at h
        rw [hu] at h
        simp only at h
        split at h <;> first | (rename_i he; cases he) | cases h
        all_goals first | exact RowOK.one (.bool _) | skip
    · rename_i k hu
      cases hk
      cases fuel with
      | zero => simp [DataW.trod] at h
      | succ fuel =>
        unfold DataW.trod at h
        rw [hu] at h
        simp only at h
        split at h <;> first | (rename_i he; cases he) | cases h
        all_goals first
          | (split at h
             · rename_i hc; obtain ⟨rfl, hw⟩ := hc; exact RowOK.one (.int _ _ hw)
             · cases h)
          | skip
    · rename_i e hu
      split at hk
      case h_2 => cases hk
      rename_i row hrow
      split at hk
      case isFalse => cases hk
      rename_i hc
      cases hk
      rcases DataW.trod_slice hu h with ⟨rfl, _⟩ | ⟨a, len, cap, elems, rest, n, _, rfl, _, _, hl, hm, hlen, hel, hsp, _⟩
      · exact RowOK.one (.nil _ _)
      · have cell : ∀ i, i < len → ∃ cs', w.cells? 0 (a.add (i * row.length)) row.length = some cs' ∧ RowOK w row cs' := by
          intro i hi
          have h1 := hel i hi
          rw [← hc.1] at h1
          have h2 : elems[i]? = some elems[i] := by simp [hlen, hi]
          rw [h2] at h1
          cases hcs : w.cells? 0 (a.add (i * row.length)) row.length with
          | none => rw [hcs] at h1; cases h1
          | some cs' =>
            rw [hcs] at h1
            exact ⟨cs', rfl, ih _ _ _ _ _ hrow h1⟩
        have first : ∀ (b : Nat) {m : Nat} {cs' : List Value}, b = 0 → 0 < m → w.cells? 0 (a.add b) m = some cs' → a.spot = none ∧ ∃ cs T fz, w.heap[a.block]? = some (Obj.cells cs T fz) := by
          intro b m cs' hb0 hm0 hcs
          subst hb0
          unfold World.cells? at hcs
          rw [if_pos (Nat.zero_le _)] at hcs
          have : ∃ v, w.cell? ((a.add 0).add 0) = some v := by
            cases m with
            | zero => omega
            | succ m =>
              rw [List.range_succ_eq_map, List.mapM_cons] at hcs
              cases hv : w.cell? ((a.add 0).add 0) with
              | none => rw [hv] at hcs; cases hcs
              | some v => exact ⟨v, rfl⟩
          obtain ⟨v, hv⟩ := this
          refine ⟨by simpa [Addr.add] using World.cell?_spot hv, ?_⟩
          unfold World.cell? at hv
          split at hv
          · rename_i cs T fz h1
            exact ⟨cs, T, fz, by simpa [Addr.add] using h1⟩
          · cases hv
        refine RowOK.one (.sl row.length row a len cap (fun i => (w.cells? 0 (a.add (i * row.length)) row.length).getD []) hl hm ?_ rfl ?_ ?_)
        · intro hcap
          by_cases h0 : 0 < len
          · obtain ⟨cs', h1, _⟩ := cell 0 h0
            exact first _ (by simp) hc.2 h1
          · have hl0 : len = 0 := by omega
            subst hl0
            have h1 := (hsp rfl).2 0 (by omega)
            rw [← hc.1] at h1
            have hr := (hsp rfl).1
            have h2 : rest[0]? = some rest[0] := by simp
            rw [h2] at h1
            cases hcs : w.cells? 0 (a.add ((0 + 0) * row.length)) row.length with
            | none => rw [hcs] at h1; cases h1
            | some cs' => exact first _ (by simp) hc.2 hcs
        · intro i hi
          obtain ⟨cs', h1, _⟩ := cell i hi
          simp [h1]
        · intro i j c k hi hc' hk'
          obtain ⟨cs', h1, h2⟩ := cell i hi
          simp [h1] at hc'
          exact h2.2 j k c hk' hc'
    · rename_i fs hu
      split at hk
      case h_2 => cases hk
      rename_i ks' hks
      split at hk
      case isFalse => cases hk
      rename_i hc
      cases hk
      cases fuel with
      | zero => simp [DataW.trod] at h
      | succ fuel =>
        unfold DataW.trod at h
        rw [hu] at h
        simp only at h
        split at h
        case isFalse => cases h
        rename_i hlen
        simp only [Option.map_eq_some_iff] at h
        obtain ⟨ys, hys, rfl⟩ := h
        have := fields_ok (w := w) (cs := cs) (g := ckOf P d) (cells := P.cellsOf) (fun f ks x h1 h2 => ih _ _ _ _ _ h1 h2) fs.toList 0 ks ys hks hys
        rw [List.drop_zero, hc, ← hlen, List.take_length] at this
        exact this
    · cases hk
end
/-- A cell of an argument, abstractly. -/
inductive AOK (H : AHeap) : CK → AV → Prop where
  | int (k : IntKind) (n : Int) : (Lit.int k n).wf = true → AOK H (.int k) (.int k n)
  | bool (b : Bool) : AOK H .bool (.bool b)
  | nil (es : Nat) (row : List CK) : AOK H (.sl es row) .nilS
  | sl (es : Nat) (row : List CK) (n len : Nat) (l : List AV) : len ≤ maxLen → H[n]? = some (.cells false l) → l.length = len * es → es = row.length →
      (∀ (i j : Nat) (c : AV) (k : CK), i < len → j < es → l[i * es + j]? = some c → row[j]? = some k → AOK H k c) → AOK H (.sl es row) (.sl es n 0 len false)
theorem AOK.mono {H H' : AHeap} (hp : H <+: H') {k : CK} {v : AV} (h : AOK H k v) : AOK H' k v := by
  induction h with
  | int k n h => exact .int k n h
  | bool b => exact .bool b
  | nil es row => exact .nil es row
  | sl es row n len l h1 h2 h3 h4 _ ih => exact .sl es row n len l h1 (pre_get hp h2) h3 h4 ih
def RO (ρ : Ren) : Prop := ∀ n L, ρ n = some L → L.own = false
/-- An object that can only be read. -/
theorem new_ro {ρ : Ren} {H : AHeap} {w : World} (hs : Sim ρ H w) (hr : RO ρ) {b o : Nat} {l : List AV} {cs : Array Value} {T : TypeId} {fz : Nat × Nat} (hb : w.heap[b]? = some (.cells cs T fz)) (hl : LR ρ l ((cs.toList.drop o).take l.length)) (ho : ∀ v ∈ (cs.toList.drop o).take l.length, v.oneCell' = true) :
    Sim (ρ.put H.length ⟨b, o, false, 0⟩) (H ++ [.cells false l]) w ∧ RO (ρ.put H.length ⟨b, o, false, 0⟩) ∧ Sub ρ (ρ.put H.length ⟨b, o, false, 0⟩) := by
  have hput : ρ H.length = none := hs.none_of_len
  have hsub : Sub ρ (ρ.put H.length ⟨b, o, false, 0⟩) := Sub.put hput
  have cs' : ∀ {m M}, (ρ.put H.length ⟨b, o, false, 0⟩) m = some M → (m = H.length ∧ M = ⟨b, o, false, 0⟩) ∨ (ρ m = some M ∧ m < H.length) := by
    intro m M e
    unfold Ren.put at e
    split at e
    · rename_i hm; cases e; exact .inl ⟨hm, rfl⟩
    · exact .inr ⟨e, (hs.dom m M e).1⟩
  have hro : RO (ρ.put H.length ⟨b, o, false, 0⟩) := by
    intro m M e
    rcases cs' e with ⟨rfl, rfl⟩ | ⟨e', _⟩
    · rfl
    · exact hr m M e'
  refine ⟨⟨?_, ?_, ?_⟩, hro, hsub⟩
  · intro m M e
    rcases cs' e with ⟨rfl, rfl⟩ | ⟨e', hm⟩
    · exact ⟨by simp, (Array.getElem?_eq_some_iff.1 hb).1⟩
    · exact ⟨by simp; omega, (hs.dom m M e').2⟩
  · intro m M ob e hob
    rcases cs' e with ⟨rfl, rfl⟩ | ⟨e', hm⟩
    · simp at hob
      subst hob
      show ObjR _ _ _ w.heap[b]?
      rw [hb]
      exact ⟨fun h => (by cases h), fun h => (by cases h), hl.mono hsub, ho⟩
    · rw [List.getElem?_append_left hm] at hob
      exact (hs.obj m M ob e' hob).mono hsub
  · intro m k M K em ek _ _ _ _
    exact ⟨hro m M em, hro k K ek⟩
/-- A list of things opened one after another. -/
theorem open_list {w : World} {ks : List CK} {cs : List Value} (hl : cs.length = ks.length)
    (h : ∀ (i : Nat) (k : CK) (c : Value), ks[i]? = some k → cs[i]? = some c → ∀ (ρ : Ren) (H : AHeap), Sim ρ H w → RO ρ → ∃ ρ' H' v, Sim ρ' H' w ∧ RO ρ' ∧ Sub ρ ρ' ∧ H <+: H' ∧ VR ρ' v c ∧ AOK H' k v) :
    ∀ (ρ : Ren) (H : AHeap), Sim ρ H w → RO ρ → ∃ ρ' H' vs, Sim ρ' H' w ∧ RO ρ' ∧ Sub ρ ρ' ∧ H <+: H' ∧ LR ρ' vs cs ∧ (∀ (i : Nat) (k : CK) (v : AV), ks[i]? = some k → vs[i]? = some v → AOK H' k v) := by
  induction ks generalizing cs with
  | nil =>
    intro ρ H hs hr
    have : cs = [] := List.eq_nil_of_length_eq_zero hl
    subst this
    exact ⟨ρ, H, [], hs, hr, Sub.refl _, List.prefix_refl _, LR.nil, by simp⟩
  | cons k ks ih =>
    intro ρ H hs hr
    cases cs with
    | nil => simp at hl
    | cons c cs =>
      obtain ⟨ρ1, H1, v, s1, r1, b1, p1, v1, a1⟩ := h 0 k c rfl rfl ρ H hs hr
      obtain ⟨ρ2, H2, vs, s2, r2, b2, p2, v2, a2⟩ := ih (cs := cs) (by simpa using hl) (fun i k c hk hc => h (i + 1) k c (by simpa using hk) (by simpa using hc)) ρ1 H1 s1 r1
      refine ⟨ρ2, H2, v :: vs, s2, r2, b1.trans b2, p1.trans p2, LR.cons (v1.mono b2) v2, fun i k' v' hk hv => ?_⟩
      cases i with
      | zero => simp at hk hv; subst hk; subst hv; exact a1.mono p2
      | succ i => exact a2 i k' v' (by simpa using hk) (by simpa using hv)
theorem flatMap_get {α β : Type} {f : α → List β} {es : Nat} : ∀ (xs : List α), (∀ x ∈ xs, (f x).length = es) → ∀ (i j : Nat) (x : α), xs[i]? = some x → j < es → (xs.flatMap f)[i * es + j]? = (f x)[j]?
  | [], _, i, j, x, h, _ => by simp at h
  | y :: ys, hl, i, j, x, h, hj => by
    have hy := hl y (by simp)
    rw [List.flatMap_cons]
    cases i with
    | zero =>
      simp at h; subst h
      rw [Nat.zero_mul, Nat.zero_add, List.getElem?_append_left (by omega)]
    | succ i =>
      rw [List.getElem?_append_right (by rw [hy, Nat.add_mul, Nat.one_mul]; omega), hy, show (i + 1) * es + j - es = i * es + j by rw [Nat.add_mul, Nat.one_mul]; omega]
      exact flatMap_get ys (fun z hz => hl z (by simp [hz])) i j x (by simpa using h) hj
theorem flatMap_len {α β : Type} {f : α → List β} {es : Nat} : ∀ (xs : List α), (∀ x ∈ xs, (f x).length = es) → (xs.flatMap f).length = xs.length * es
  | [], _ => by simp
  | y :: ys, hl => by
    rw [List.flatMap_cons, List.length_append, hl y (by simp), flatMap_len ys (fun z hz => hl z (by simp [hz])), List.length_cons, Nat.add_mul]; omega
theorem cells?_some {w : World} {a : Addr} {n : Nat} {cs : List Value} (h : w.cells? 0 a n = some cs) : cs.length = n ∧ ∀ j, j < n → w.cell? (a.add j) = cs[j]? := by
  unfold World.cells? at h
  rw [if_pos (Nat.zero_le _)] at h
  obtain ⟨h1, h2⟩ := mapM_some h
  refine ⟨by simpa using h1.symm, fun j hj => ?_⟩
  obtain ⟨y, h3, h4⟩ := h2 j j (by simp [hj])
  rw [h3, h4]
theorem CellOK.oneCell {w : World} {k : CK} {c : Value} (h : CellOK w k c) : c.oneCell' = true := by
  cases h <;> rfl
def Opens (w : World) (k : CK) (c : Value) : Prop :=
  ∀ (ρ : Ren) (H : AHeap), Sim ρ H w → RO ρ → ∃ ρ' H' v, Sim ρ' H' w ∧ RO ρ' ∧ Sub ρ ρ' ∧ H <+: H' ∧ VR ρ' v c ∧ AOK H' k v
theorem open_cell {w : World} (hne : ∃ (b : Nat) (cs : Array Value) (T : TypeId) (fz : Nat × Nat), w.heap[b]? = some (Obj.cells cs T fz)) {k : CK} {c : Value} (h : CellOK w k c) : Opens w k c := by
  induction h with
  | int k n h => intro ρ H hs hr; exact ⟨ρ, H, .int k n, hs, hr, Sub.refl _, List.prefix_refl _, .int _ _, .int _ _ h⟩
  | bool b => intro ρ H hs hr; exact ⟨ρ, H, .bool b, hs, hr, Sub.refl _, List.prefix_refl _, .bool _, .bool _⟩
  | nil es row => intro ρ H hs hr; exact ⟨ρ, H, .nilS, hs, hr, Sub.refl _, List.prefix_refl _, .nilS, .nil _ _⟩
  | sl es row a len cap f hlc hm hcap hes hcells hrow ih =>
    intro ρ H hs hr
    have hfl : ∀ i ∈ List.range len, (f i).length = es := fun i hi => (cells?_some (hcells i (by simpa using hi))).1
    have hrl : ∀ i ∈ List.range len, ((fun _ => row) i : List CK).length = es := fun i _ => hes.symm
    have hl1 := flatMap_len (f := f) (List.range len) hfl
    have hl2 := flatMap_len (f := fun _ => row) (List.range len) hrl
    have hes0 : ∀ p, p < len * es → 0 < es := fun p hp => Nat.pos_of_ne_zero (fun h => by subst h; simp at hp)
    have split : ∀ p, p < len * es → p / es < len ∧ p % es < es ∧ p / es * es + p % es = p := fun p hp => by
      have h0 := hes0 p hp
      exact ⟨(Nat.div_lt_iff_lt_mul h0).2 hp, Nat.mod_lt _ h0, Nat.div_add_mod' p es⟩
    have at1 : ∀ p, p < len * es → ((List.range len).flatMap f)[p]? = (f (p / es))[p % es]? := fun p hp => by
      obtain ⟨h1, h2, h3⟩ := split p hp
      have := flatMap_get (f := f) (List.range len) hfl (p / es) (p % es) (p / es) (by simp [h1]) h2
      rwa [h3] at this
    have at2 : ∀ p, p < len * es → ((List.range len).flatMap (fun _ => row))[p]? = row[p % es]? := fun p hp => by
      obtain ⟨h1, h2, h3⟩ := split p hp
      have := flatMap_get (f := fun _ => row) (List.range len) hrl (p / es) (p % es) (p / es) (by simp [h1]) h2
      rwa [h3] at this
    obtain ⟨ρ1, H1, vs, s1, r1, b1, p1, v1, a1⟩ := open_list (w := w) (ks := (List.range len).flatMap (fun _ => row)) (cs := (List.range len).flatMap f) (by rw [hl1, hl2]) (fun p k c hk hc => by
      have hp : p < len * es := by
        have := (List.getElem?_eq_some_iff.1 hc).1
        rw [hl1] at this; simpa using this
      rw [at1 p hp] at hc; rw [at2 p hp] at hk
      exact ih (p / es) (p % es) c k (split p hp).1 hc hk) ρ H hs hr
    have hvl : vs.length = len * es := by rw [v1.1, hl1]; simp
    have hone : ∀ v ∈ (List.range len).flatMap f, v.oneCell' = true := by
      intro v hv
      obtain ⟨p, hp, hpe⟩ := List.mem_iff_getElem.1 hv
      have hp' : p < len * es := by rw [hl1] at hp; simpa using hp
      have h1 : ((List.range len).flatMap f)[p]? = some v := by rw [List.getElem?_eq_getElem hp, hpe]
      have h2 := at1 p hp'
      rw [h1] at h2
      have h3 : row[p % es]? = some (row[p % es]'(by rw [← hes]; exact (split p hp').2.1)) := by simp [← hes, (split p hp').2.1]
      exact (hrow (p / es) (p % es) v _ (split p hp').1 h2.symm h3).oneCell
    have fin : ∀ (b o : Nat) (cs : Array Value) (T : TypeId) (fz : Nat × Nat), w.heap[b]? = some (.cells cs T fz) → (cs.toList.drop o).take (len * es) = (List.range len).flatMap f → (a = ⟨b, o, none⟩ ∨ cap = 0) →
        ∃ ρ' H' v, Sim ρ' H' w ∧ RO ρ' ∧ Sub ρ ρ' ∧ H <+: H' ∧ VR ρ' v (.slice (some a) len cap) ∧ AOK H' (.sl es row) v := by
      intro b o cs T fz hb hcs ha
      obtain ⟨s2, r2, b2⟩ := new_ro (b := b) (o := o) (l := vs) s1 r1 hb (by rw [hvl, hcs]; exact v1) (by rw [hvl, hcs]; exact hone)
      refine ⟨_, H1 ++ [.cells false vs], .sl es H1.length 0 len false, s2, r2, b1.trans b2, p1.trans (pre_app _ _), .sl _ _ _ _ _ ⟨b, o, false, 0⟩ a cap put_self hlc (fun h => by cases h) (by simpa using ha) (fun h => by cases h), .sl es row H1.length len vs (by omega) (by simp) hvl hes ?_⟩
      intro i j c k hi hj hc hk
      have hp : i * es + j < len * es := by
        have : i * es + es ≤ len * es := by rw [← Nat.succ_mul]; exact Nat.mul_le_mul_right _ hi
        omega
      have h2 := at2 _ hp
      rw [show (i * es + j) % es = j by rw [Nat.mul_comm, Nat.mul_add_mod]; exact Nat.mod_eq_of_lt hj, hk] at h2
      exact (a1 _ k c h2 hc).mono (pre_app _ _)
    by_cases hc0 : cap = 0
    · obtain ⟨b, cs, T, fz, hb⟩ := hne
      have : len = 0 := by omega
      subst this
      exact fin b 0 cs T fz hb (by simp) (.inr hc0)
    · obtain ⟨hsp, cs, T, fz, hb⟩ := hcap hc0
      obtain ⟨ab, ao, asp⟩ := a
      simp at hsp
      subst hsp
      have cell : ∀ p, p < len * es → cs[ao + p]? = ((List.range len).flatMap f)[p]? := by
        intro p hp
        obtain ⟨h1, h2, h3⟩ := split p hp
        have := (cells?_some (hcells (p / es) h1)).2 (p % es) h2
        rw [at1 p hp, ← this, add_none, add_none]
        have hb' : w.heap[ab]? = some (.cells cs T fz) := hb
        simp only [World.cell?, hb', Option.isSome_none, Bool.false_eq_true, if_false]
        congr 1
        omega
      refine fin ab ao cs T fz hb ?_ (.inl rfl)
      apply List.ext_getElem?
      intro p
      by_cases hp : p < len * es
      · rw [List.getElem?_take, if_pos hp, List.getElem?_drop, ← cell p hp, Array.getElem?_toList]
      · rw [List.getElem?_eq_none (by rw [List.length_take]; omega), List.getElem?_eq_none (by rw [hl1]; simp; omega)]
/-- What the arguments of a function are; 'true': a struct. -/
def argSpec (P : Program) : List TypeId → Option (List (Bool × List CK))
  | [] => some []
  | t :: ts =>
    match ckOf P 8 t, argSpec P ts with
    | some ks, some r => (match P.underlying t with
      | some (.struct _) => some ((true, ks) :: r)
      | some .bool | some (.int _) | some (.slice _) => some ((false, ks) :: r)
      | _ => none)
    | _, _ => none
def ArgA (H : AHeap) : Bool × List CK → AV → Prop
  | (true, ks), v => ∃ l, v = .agg l ∧ l.length = ks.length ∧ ∀ (i : Nat) (k : CK) (x : AV), ks[i]? = some k → l[i]? = some x → AOK H k x
  | (false, ks), v => ∃ k, ks = [k] ∧ AOK H k v
def ArgsA (H : AHeap) : List (Bool × List CK) → List AV → Prop
  | [], [] => True
  | s :: ss, v :: vs => ArgA H s v ∧ ArgsA H ss vs
  | _, _ => False
theorem ArgA.mono {H H' : AHeap} (hp : H <+: H') : ∀ {s : Bool × List CK} {v : AV}, ArgA H s v → ArgA H' s v
  | (true, _), _, ⟨l, h1, h2, h3⟩ => ⟨l, h1, h2, fun i k x hk hx => (h3 i k x hk hx).mono hp⟩
  | (false, _), _, ⟨k, h1, h2⟩ => ⟨k, h1, h2.mono hp⟩
section
variable {H : Type} {enc : TypeId × Value → H} {P : Program} {W : World}
theorem open_arg (hne : ∃ (b : Nat) (cs : Array Value) (T : TypeId) (fz : Nat × Nat), W.heap[b]? = some (Obj.cells cs T fz)) {base : Nat} {t : TypeId} {ts : List TypeId} {v : Value} {d : DataW H} {ps : List MemPlace} {s : Bool × List CK} {ss : List (Bool × List CK)}
    (hsp : argSpec P (t :: ts) = some (s :: ss)) (h : DataW.Trod enc P W 0 (fun _ => true) true t v d ps) (hok : Value.okWide P W .any base t v) (ρ : Ren) (A : AHeap) (hs : Sim ρ A W) (hr : RO ρ) :
    argSpec P ts = some ss ∧ ∃ ρ' A' a, Sim ρ' A' W ∧ RO ρ' ∧ Sub ρ ρ' ∧ A <+: A' ∧ VR ρ' a v ∧ ArgA A' s a := by
  simp only [argSpec] at hsp
  split at hsp
  case h_2 => cases hsp
  rename_i ks r hks hr'
  obtain ⟨fuel, hf⟩ := h
  have hrow := trod_ok 8 t ks fuel _ _ hks hf
  have one : ∀ (hc : v.cells.toList = [v]), (∃ k, ks = [k]) → ∃ ρ' A' a, Sim ρ' A' W ∧ RO ρ' ∧ Sub ρ ρ' ∧ A <+: A' ∧ VR ρ' a v ∧ ArgA A' (false, ks) a := by
    rintro hc ⟨k, rfl⟩
    rw [hc] at hrow
    obtain ⟨ρ', A', a, h1, h2, h3, h4, h5, h6⟩ := open_cell hne (hrow.2 0 k v rfl rfl) ρ A hs hr
    exact ⟨ρ', A', a, h1, h2, h3, h4, h5, k, rfl, h6⟩
  have hks' := hks
  simp only [ckOf] at hks
  split at hsp
  · rename_i fs hu
    cases hsp
    refine ⟨hr', ?_⟩
    simp only [Value.okWide, hu] at hok
    obtain ⟨cs, rfl, hsz, _⟩ := hok
    have hone : ∀ u ∈ cs.toList, u.oneCell' = true := by
      intro u hu'
      obtain ⟨i, hi, hie⟩ := List.mem_iff_getElem.1 hu'
      have h1 : cs.toList[i]? = some u := by rw [List.getElem?_eq_getElem hi, hie]
      have hi' : i < ks.length := by rw [← hrow.1]; exact hi
      exact (hrow.2 i ks[i] u (by simp [hi']) h1).oneCell
    obtain ⟨ρ', A', l, h1, h2, h3, h4, h5, h6⟩ := open_list (w := W) hrow.1 (fun i k c hk hc => open_cell hne (hrow.2 i k c hk hc)) ρ A hs hr
    exact ⟨ρ', A', .agg l, h1, h2, h3, h4, VR.agg_iff.2 ⟨h5, hone⟩, l, rfl, by rw [h5.1]; exact hrow.1, h6⟩
  · rename_i hu
    cases hsp
    rw [hu] at hks
    refine ⟨hr', one ?_ ⟨_, (by cases hks; rfl)⟩⟩
    obtain ⟨b, rfl⟩ := okWide_bool hu hok
    simp [Value.cells]
  · rename_i k hu
    cases hsp
    rw [hu] at hks
    refine ⟨hr', one ?_ ⟨_, (by cases hks; rfl)⟩⟩
    obtain ⟨b, rfl⟩ := okWide_int hu hok
    simp [Value.cells]
  · rename_i e hu
    cases hsp
    rw [hu] at hks
    simp only at hks
    split at hks
    case h_2 => cases hks
    split at hks
    case isFalse => cases hks
    refine ⟨hr', one ?_ ⟨_, (by cases hks; rfl)⟩⟩
    obtain ⟨a, len, cap, rfl⟩ := okWide_slice hu hok
    simp [Value.cells]
  · cases hsp
theorem open_args (hne : ∃ (b : Nat) (cs : Array Value) (T : TypeId) (fz : Nat × Nat), W.heap[b]? = some (Obj.cells cs T fz)) {base : Nat} : ∀ (ts : List TypeId) (vs : List Value) (ds : List (DataW H)) (ps : List MemPlace) (ss : List (Bool × List CK)),
    argSpec P ts = some ss → DataW.TrodAll enc P W 0 (fun _ => true) true ts vs ds ps → (∀ (j : Nat) t v, ts[j]? = some t → vs[j]? = some v → Value.okWide P W .any base t v) → ∀ (ρ : Ren) (A : AHeap), Sim ρ A W → RO ρ →
    ∃ ρ' A' as, Sim ρ' A' W ∧ RO ρ' ∧ Sub ρ ρ' ∧ A <+: A' ∧ LR ρ' as vs ∧ ArgsA A' ss as
  | [], [], [], ps, ss, hsp, _, _, ρ, A, hs, hr => by
    simp only [argSpec, Option.some.injEq] at hsp
    subst hsp
    exact ⟨ρ, A, [], hs, hr, Sub.refl _, List.prefix_refl _, LR.nil, trivial⟩
  | t :: ts, v :: vs, d :: ds, ps, ss, hsp, h, hok, ρ, A, hs, hr => by
    obtain ⟨p, q, h1, h2, rfl⟩ := h
    cases ss with
    | nil =>
      simp only [argSpec] at hsp
      split at hsp
      · split at hsp <;> cases hsp
      · cases hsp
    | cons s ss =>
      obtain ⟨hsp', ρ1, A1, a, s1, r1, b1, p1, v1, a1⟩ := open_arg hne hsp h1 (hok 0 t v rfl rfl) ρ A hs hr
      obtain ⟨ρ2, A2, as, s2, r2, b2, p2, v2, a2⟩ := open_args hne ts vs ds q ss hsp' h2 (fun j t v ht hv => hok (j + 1) t v (by simpa using ht) (by simpa using hv)) ρ1 A1 s1 r1
      exact ⟨ρ2, A2, a :: as, s2, r2, b1.trans b2, p1.trans p2, LR.cons (v1.mono b2) v2, a1.mono p2, a2⟩
  | [], _ :: _, _, _, _, _, h, _, _, _, _, _ => h.elim
  | [], [], _ :: _, _, _, _, h, _, _, _, _, _ => h.elim
  | _ :: _, [], _, _, _, _, h, _, _, _, _, _ => h.elim
  | _ :: _, _ :: _, [], _, _, _, h, _, _, _, _, _ => h.elim
theorem trod_stays_all (hl : laidOutB P = true) {W' : World} {sp : Nat → Bool} : ∀ {ts : List TypeId} {vs : List Value} {ds : List (DataW H)} {ps : List MemPlace}, (∀ t ∈ ts, P.readableRec t = true ∧ t < P.types.size) →
    DataW.TrodAll enc P W 0 (fun _ => true) true ts vs ds ps → (∀ p ∈ ps, W.sameAt W' p) → (∀ p ∈ ps, sp p.block = true) → DataW.TrodAll enc P W' 0 sp true ts vs ds ps
  | [], [], [], _, _, h, _, _ => h
  | t :: ts, v :: vs, d :: ds, _, hT, ⟨p, q, h1, h2, e⟩, hsame, hsp => by
    subst e
    exact ⟨p, q, WideElems.Trod_stays hl (hT t (by simp)).1 (hT t (by simp)).2 h1 (fun x hx => hsame x (by simp [hx])) (fun x hx => hsp x (by simp [hx])),
      trod_stays_all hl (fun u hu => hT u (by simp [hu])) h2 (fun x hx => hsame x (by simp [hx])) (fun x hx => hsp x (by simp [hx])), rfl⟩
  | [], _ :: _, _, _, _, h, _, _ => h.elim
  | [], [], _ :: _, _, _, h, _, _ => h.elim
  | _ :: _, [], _, _, _, h, _, _ => h.elim
  | _ :: _, _ :: _, [], _, _, h, _, _ => h.elim
/-- A law: whatever its arguments are, it answers 'true', and they stay as they are. -/
theorem law_calls {f : FuncId} {fn : Func} {s : ChangeSpec} {apart fresh handsOn again : Bool} {tb : TypeId} {ss : List (Bool × List CK)} (hl : laidOutB P = true) (hre : fn.params.toList.all (fun t => P.readableRec t && decide (t < P.types.size)) = true)
    (hsp : argSpec P fn.params.toList = some ss) (hvars : s.vars = []) (hfn : ∀ ds : List (DataW H), ds.length = fn.params.size → s.fn H ds = { results := [.lit (.bool true)], args := ds }) (hrt : fn.resultTypes = #[tb]) (htb : P.underlying tb = some .bool)
    {base : Nat} {args : Array Value} {ds gs : List (DataW H)} {before : List MemPlace} (hne : ∃ (b : Nat) (cs : Array Value) (T : TypeId) (fz : Nat × Nat), W.heap[b]? = some (Obj.cells cs T fz))
    (hval : ∀ (j : Nat) t v, fn.params[j]? = some t → args[j]? = some v → Value.okWide P W .any base t v) (hW : DataW.Whole enc P fn.params.toList s.vars apart W args.toList ds gs before)
    (main : ∀ (A : AHeap) (as : List AV), ArgsA A ss as → ∃ A', ACalls P f as A (B true) A') :
    Calls P f args W fun e W' => ∃ v, e = .returned v ∧ s.post enc P fn apart fresh handsOn again W args v W' := by
  have hW0 := hW
  obtain ⟨p, q, hA, hV, hpq, hfz, hnd⟩ := hW
  rw [hvars] at hV
  obtain ⟨rfl, rfl⟩ := trodVars_none hV
  rw [List.append_nil] at hpq
  subst hpq
  have s0 : Sim (fun _ => none) [] W := ⟨fun _ _ e => (by cases e), fun _ _ _ e => (by cases e), fun _ _ _ _ e => (by cases e)⟩
  obtain ⟨ρ, A, as, s1, r1, _, _, v1, a1⟩ := open_args hne fn.params.toList args.toList ds before ss hsp hA (fun j t v ht hv => hval j t v (by simpa using ht) (by simpa using hv)) _ [] s0 (fun _ _ e => by cases e)
  obtain ⟨A', hc⟩ := main A as a1
  refine (hc.2 ρ W args s1 v1).mono ?_
  rintro e W' ⟨ρ', cv, rfl, hv, _, st⟩
  cases hv
  have hkeep : ∀ b, b < W.heap.size → W'.heap[b]? = W.heap[b]? := fun b hb => st.keep b hb (fun ⟨n, L, e, h, _⟩ => by rw [r1 n L e] at h; cases h)
  have hbelow : Below W.heap.size W W' := ⟨st.os, st.tape, st.out, st.size, hkeep⟩
  have hlt : ∀ x ∈ before, x.block < W.heap.size := fun x hx => hW0.lt x hx
  have hT : ∀ t ∈ fn.params.toList, P.readableRec t = true ∧ t < P.types.size := fun t ht => by
    have := List.all_eq_true.1 hre t ht
    simpa using this
  have hds : ds.length = fn.params.size := by
    have : ∀ {ts : List TypeId} {vs : List Value} {ds : List (DataW H)} {ps : List MemPlace}, DataW.TrodAll enc P W 0 (fun _ => true) true ts vs ds ps → ds.length = ts.length := by
      intro ts
      induction ts with
      | nil => intro vs ds ps h; cases vs <;> cases ds <;> first | rfl | exact h.elim
      | cons t ts ih =>
        intro vs ds ps h
        cases vs <;> cases ds <;> first | exact h.elim | (obtain ⟨p, q, _, h2, _⟩ := h; simp [ih h2])
    simpa using this hA
  have hsf := hfn ds hds
  have hsf' : s.fn H (ds ++ []) = { results := [.lit (.bool true)], args := ds } := by rw [List.append_nil]; exact hsf
  have hargs : ∀ sp : Nat → Bool, (∀ p ∈ before, sp p.block = true) → DataW.TrodAll enc P W' 0 sp true fn.params.toList args.toList ds before :=
    fun sp hsp' => trod_stays_all hl hT hA (fun x hx => hbelow.same (hlt x hx)) hsp'
  have hres : ∀ (b : Nat) (sp : Nat → Bool) (hd : Bool), DataW.TrodAll enc P W' b sp hd fn.resultTypes.toList ((Value.bool true).resultList fn.resultTypes.size) [.lit (.bool true)] [] := by
    intro b sp hd
    rw [hrt]
    exact trodAll_mk1 (shut_bool htb true)
  have hold : ∀ p ∈ before, (fun b => decide (b < W.heap.size)) p.block = true := fun p hp => by simpa using hlt p hp
  refine ⟨.bool true, rfl, ds, [], before, [], before, [], hW0, ?_, ?_, ?_, ?_, fun _ => ⟨?_, [.lit (.bool true)] ++ ds, [], before, ⟨[] ++ before, [], trodAll_append (hargs _ (fun _ _ => rfl)) (hres _ _ _), ?_, by simp, ?_, ?_⟩, fun p hp _ => hp⟩⟩
  · rw [hsf']; exact hres _ _ _
  · rw [hsf']; exact hargs _ hold
  · rw [hsf', hvars]; exact rfl
  · exact ⟨st.os, st.out, fun i hi => by
      rw [hkeep i hi]
      cases W.heap[i]? with
      | none => rfl
      | some o => cases o <;> simp⟩
  · exact ok_one hrt (by rfl) (okWide_bool_mk htb true)
  · rw [hvars]; exact rfl
  · intro b off hp
    have h1 := hlt _ hp
    have h2 := hfz b off hp
    have : W'.frozen? ⟨b, off, none⟩ = W.frozen? ⟨b, off, none⟩ := by
      unfold World.frozen?
      rw [hkeep b h1]
    rw [this]; exact h2
  · intro ha; exact hnd ha
end
end Go.Eng

namespace Go.Eng
open Go
/-- A list in the making, element by element. -/
def AccL {α : Type} (es : Nat) (e : α → List AV) (H H1 : AHeap) (v : AV) (xs : List α) : Prop := Acc es H H1 v (xs.flatMap e) xs.length
section
variable {α : Type} {es : Nat} {e : α → List AV} {H H1 : AHeap} {v : AV} {xs : List α}
theorem AccL.nil (h : H <+: H1) : AccL es e H H1 .nilS ([] : List α) := Acc.nil es h
theorem AccL.pre (h : AccL es e H H1 v xs) : H <+: H1 := h.1
theorem slCells_new (H1 : AHeap) (new : List AV) (hn : new.length = es) : slCells es (H1 ++ [.cells true new]) (.sl es H1.length 0 1 true) = some (1, new) := by
  simp [slCells, cellsAt, hn]
  rw [← hn, List.take_length]
theorem AccL.push (h : AccL es e H H1 v xs) (he : ∀ x, (e x).length = es) (x : α) (hl : xs.length + 1 ≤ lim) :
    ∃ v' H2, appA es (H1 ++ [.cells true (e x)]) v (.sl es H1.length 0 1 true) = some (v', H2) ∧ AccL es e H H2 v' (xs ++ [x]) := by
  obtain ⟨v', H2, h1, h2, _⟩ := (Acc.mono h (pre_app H1 [.cells true (e x)])).app (slCells_new H1 (e x) (he x)) (by rw [he x, Nat.one_mul]) hl
  refine ⟨v', H2, h1, ?_⟩
  unfold AccL
  rw [List.flatMap_append, List.length_append]
  simpa using h2
/-- A whole list is added. -/
theorem AccL.pushes (h : AccL es e H H1 v xs) {y : AV} {ys : List α} (hy : Ls es e H1 y ys) (hl : xs.length + ys.length ≤ lim) :
    ∃ v' H2, appA es H1 v y = some (v', H2) ∧ AccL es e H H2 v' (xs ++ ys) := by
  obtain ⟨v', H2, h1, h2, _⟩ := Acc.app h hy.hc (flatMap_length hy.he ys) hl
  refine ⟨v', H2, h1, ?_⟩
  unfold AccL
  rw [List.flatMap_append, List.length_append]
  exact h2
theorem AccL.mono (h : AccL es e H H1 v xs) {H2 : AHeap} (hp : H1 <+: H2) : AccL es e H H2 v xs := Acc.mono h hp
theorem Acc.keep {cs : List AV} {k : Nat} (h : Acc es H H1 v cs k) (hf : ∀ x ∈ cs, flat x = true) : ∃ f, Keep H H1 f (outH H cs k) ∧ ∀ d, ren f (d + 1) v = outV es H k := by
  obtain ⟨h1, h2, h3⟩ := h
  rcases h3 with ⟨rfl, rfl⟩ | ⟨h0, n, rfl, h5, h6⟩
  · exact ⟨_, keep_old h1, fun d => rfl⟩
  · have hk := Keep.add (keep_old h1) (n := n) (o := .cells true cs) h5 (by simp; omega) h6
    simp only [renO, ren_flats _ 3 cs hf] at hk
    have ho : outH H cs k = H ++ [.cells true cs] := by rw [outH, if_neg (by omega)]
    rw [ho]
    exact ⟨_, hk, fun d => by simp [ren, outV, show k ≠ 0 by omega]⟩
theorem AccL.gc (h : AccL es e H H1 v xs) (hf : ∀ x, ∀ y ∈ e x, flat y = true) : GC H v H1 (outV es H xs.length) (outH H (xs.flatMap e) xs.length) := by
  obtain ⟨f, h1, h2⟩ := Acc.keep h (fun y hy => by
    obtain ⟨x, _, hx⟩ := List.mem_flatMap.1 hy
    exact hf x y hx)
  exact gc_keep h1 (h2 3)
/-- A list with a number beside it. -/
theorem AccL.gc2 (h : AccL es e H H1 v xs) (hf : ∀ x, ∀ y ∈ e x, flat y = true) (c : AV) (hc : flat c = true) : GC H (.tuple [v, c]) H1 (.tuple [outV es H xs.length, c]) (outH H (xs.flatMap e) xs.length) := by
  obtain ⟨f, h1, h2⟩ := Acc.keep h (fun y hy => by
    obtain ⟨x, _, hx⟩ := List.mem_flatMap.1 hy
    exact hf x y hx)
  refine gc_keep h1 ?_
  simp [ren, h2 2, ren_flat f 2 c hc]
theorem pre_out (H : AHeap) (cs : List AV) (k : Nat) : H <+: outH H cs k := by
  unfold outH; split
  · exact List.prefix_refl _
  · exact pre_app _ _
theorem Ls_out (H : AHeap) (he : ∀ x, (e x).length = es) (xs : List α) : Ls es e (outH H (xs.flatMap e) xs.length) (outV es H xs.length) xs := by
  refine ⟨he, ?_⟩
  unfold outV outH
  by_cases h : xs.length = 0
  · rw [if_pos h, if_pos h]
    have : xs = [] := List.eq_nil_of_length_eq_zero h
    subst this; rfl
  · rw [if_neg h, if_neg h]
    simp [slCells, cellsAt, flatMap_length he]
    rw [← flatMap_length he xs, List.take_length]
/-- What points nowhere stays. -/
theorem gc_old (h : H <+: H1) (hv : ∀ f, ren f 4 v = v) : GC H v H1 v H := gc_val h (hv _)
end
theorem flat_e1 (x : Int) : ∀ y ∈ e1 x, flat y = true := by simp [e1, flat]
theorem flat_e2 (x : Int × Int) : ∀ y ∈ e2 x, flat y = true := by simp [e2, flat]
theorem wf64 {n : Int} (h : (Lit.int .i64 n).wf = true) : -9223372036854775808 ≤ n ∧ n ≤ 9223372036854775807 := by
  simp only [Lit.wf, Bool.and_eq_true, decide_eq_true_eq, IntKind.min, IntKind.max, IntKind.signed, IntKind.bits] at h
  simp at h
  omega
theorem AOK.int_inv {H : AHeap} {k : IntKind} {v : AV} (h : AOK H (.int k) v) : ∃ n, v = .int k n ∧ (Lit.int k n).wf = true := by
  cases h with
  | int _ n h => exact ⟨n, rfl, h⟩
theorem AOK.ints {H : AHeap} {v : AV} (h : AOK H (.sl 1 [.int .i64]) v) : ∃ xs : List Int, L1 H v xs ∧ xs.length ≤ maxLen ∧ ∀ x ∈ xs, -9223372036854775808 ≤ x ∧ x ≤ 9223372036854775807 := by
  cases h with
  | nil => exact ⟨[], ⟨e1_len, rfl⟩, by simp, by simp⟩
  | sl _ _ n len l h1 h2 h3 _ h5 =>
    have key : ∀ (l : List AV), (∀ x ∈ l, ∃ n, x = I n ∧ -9223372036854775808 ≤ n ∧ n ≤ 9223372036854775807) → ∃ xs : List Int, l = xs.flatMap e1 ∧ xs.length = l.length ∧ ∀ x ∈ xs, -9223372036854775808 ≤ x ∧ x ≤ 9223372036854775807 := by
      intro l
      induction l with
      | nil => intro _; exact ⟨[], rfl, rfl, by simp⟩
      | cons a l ih =>
        intro h
        obtain ⟨xs, g1, g2, g3⟩ := ih (fun x hx => h x (by simp [hx]))
        obtain ⟨n, rfl, hn⟩ := h a (by simp)
        refine ⟨n :: xs, by simp [g1, e1], by simp [g2], fun x hx => ?_⟩
        rcases List.mem_cons.1 hx with rfl | hx
        · exact hn
        · exact g3 x hx
    obtain ⟨xs, g1, g2, g3⟩ := key l (fun x hx => by
      obtain ⟨i, hi, hie⟩ := List.mem_iff_getElem.1 hx
      have := h5 i 0 x (.int .i64) (by omega) (by omega) (by simp [← hie, List.getElem?_eq_getElem hi]) rfl
      obtain ⟨n, rfl, hn⟩ := this.int_inv
      exact ⟨n, rfl, wf64 hn⟩)
    have hlen : xs.length = len := by omega
    refine ⟨xs, ⟨e1_len, ?_⟩, by omega, g3⟩
    simp only [slCells, cellsAt, h2, if_true, Nat.zero_add]
    rw [if_pos (by omega)]
    simp only [← g1, ← h3, List.drop_zero, List.take_length, Option.map_some, hlen]
/-- Pairs of numbers. -/
theorem AOK.pairs {H : AHeap} {v : AV} (h : AOK H (.sl 2 [.int .i64, .int .i64]) v) : ∃ xs : List (Int × Int), L2 H v xs ∧ xs.length ≤ maxLen ∧ ∀ x ∈ xs, (-9223372036854775808 ≤ x.1 ∧ x.1 ≤ 9223372036854775807) ∧ (-9223372036854775808 ≤ x.2 ∧ x.2 ≤ 9223372036854775807) := by
  cases h with
  | nil => exact ⟨[], ⟨e2_len, rfl⟩, by simp, by simp⟩
  | sl _ _ n len l h1 h2 h3 _ h5 =>
    have key : ∀ (k : Nat) (l : List AV), l.length = k * 2 → (∀ x ∈ l, ∃ n, x = I n ∧ -9223372036854775808 ≤ n ∧ n ≤ 9223372036854775807) → ∃ xs : List (Int × Int), l = xs.flatMap e2 ∧ xs.length = k ∧ ∀ x ∈ xs, (-9223372036854775808 ≤ x.1 ∧ x.1 ≤ 9223372036854775807) ∧ (-9223372036854775808 ≤ x.2 ∧ x.2 ≤ 9223372036854775807) := by
      intro k
      induction k with
      | zero => intro l hl _; exact ⟨[], by simpa using hl, rfl, by simp⟩
      | succ k ih =>
        intro l hl h
        match l, hl with
        | a :: b :: l, hl =>
          obtain ⟨xs, g1, g2, g3⟩ := ih l (by simp at hl; omega) (fun x hx => h x (by simp [hx]))
          obtain ⟨n, rfl, hn⟩ := h a (by simp)
          obtain ⟨m, rfl, hm⟩ := h b (by simp)
          refine ⟨(n, m) :: xs, by simp [g1, e2], by simp [g2], fun x hx => ?_⟩
          rcases List.mem_cons.1 hx with rfl | hx
          · exact ⟨hn, hm⟩
          · exact g3 x hx
        | [], hl => simp at hl
        | [_], hl => simp at hl; omega
    obtain ⟨xs, g1, g2, g3⟩ := key len l h3 (fun x hx => by
      obtain ⟨i, hi, hie⟩ := List.mem_iff_getElem.1 hx
      have hxi : l[i / 2 * 2 + i % 2]? = some x := by rw [Nat.div_add_mod', List.getElem?_eq_getElem hi, hie]
      have hk : ([CK.int .i64, CK.int .i64] : List CK)[i % 2]? = some (.int .i64) := by
        rcases Nat.mod_two_eq_zero_or_one i with h | h <;> rw [h] <;> rfl
      have := h5 (i / 2) (i % 2) x (.int .i64) (by omega) (by omega) hxi hk
      obtain ⟨n, rfl, hn⟩ := this.int_inv
      exact ⟨n, rfl, wf64 hn⟩)
    refine ⟨xs, ⟨e2_len, ?_⟩, by omega, g3⟩
    simp only [slCells, cellsAt, h2, if_true, Nat.zero_add]
    rw [if_pos (by omega)]
    simp [g2, ← g1, ← h3, List.take_length]
theorem ArgA.pair {H : AHeap} {v : AV} (h : ArgA H (true, [.int .i64, .int .i64]) v) : ∃ a b : Int, v = .agg [I a, I b] ∧ (-9223372036854775808 ≤ a ∧ a ≤ 9223372036854775807) ∧ (-9223372036854775808 ≤ b ∧ b ≤ 9223372036854775807) := by
  obtain ⟨l, rfl, hl, h⟩ := h
  match l, hl with
  | [x, y], _ =>
    obtain ⟨a, rfl, ha⟩ := (h 0 _ x rfl rfl).int_inv
    obtain ⟨b, rfl, hb⟩ := (h 1 _ y rfl rfl).int_inv
    exact ⟨a, b, rfl, wf64 ha, wf64 hb⟩
theorem ArgA.quad {H : AHeap} {v : AV} (h : ArgA H (true, [.int .i64, .int .i64, .int .i64, .int .i64]) v) : ∃ a b c d : Int, v = .agg [I a, I b, I c, I d] ∧ (-9223372036854775808 ≤ a ∧ a ≤ 9223372036854775807) ∧ (-9223372036854775808 ≤ b ∧ b ≤ 9223372036854775807) ∧ (-9223372036854775808 ≤ c ∧ c ≤ 9223372036854775807) ∧ (-9223372036854775808 ≤ d ∧ d ≤ 9223372036854775807) := by
  obtain ⟨l, rfl, hl, h⟩ := h
  match l, hl with
  | [x, y, z, w], _ =>
    obtain ⟨a, rfl, ha⟩ := (h 0 _ x rfl rfl).int_inv
    obtain ⟨b, rfl, hb⟩ := (h 1 _ y rfl rfl).int_inv
    obtain ⟨c, rfl, hc⟩ := (h 2 _ z rfl rfl).int_inv
    obtain ⟨d, rfl, hd⟩ := (h 3 _ w rfl rfl).int_inv
    exact ⟨a, b, c, d, rfl, wf64 ha, wf64 hb, wf64 hc, wf64 hd⟩
theorem ArgA.num {H : AHeap} {v : AV} (h : ArgA H (false, [.int .i64]) v) : ∃ a : Int, v = I a ∧ (-9223372036854775808 ≤ a ∧ a ≤ 9223372036854775807) := by
  obtain ⟨k, hk, h⟩ := h
  cases hk
  obtain ⟨a, rfl, ha⟩ := h.int_inv
  exact ⟨a, rfl, wf64 ha⟩
theorem ArgA.ints {H : AHeap} {v : AV} (h : ArgA H (false, [.sl 1 [.int .i64]]) v) : ∃ xs : List Int, L1 H v xs ∧ xs.length ≤ maxLen ∧ ∀ x ∈ xs, -9223372036854775808 ≤ x ∧ x ≤ 9223372036854775807 := by
  obtain ⟨k, hk, h⟩ := h
  cases hk
  exact h.ints
theorem ArgA.pairs {H : AHeap} {v : AV} (h : ArgA H (false, [.sl 2 [.int .i64, .int .i64]]) v) : ∃ xs : List (Int × Int), L2 H v xs ∧ xs.length ≤ maxLen ∧ ∀ x ∈ xs, (-9223372036854775808 ≤ x.1 ∧ x.1 ≤ 9223372036854775807) ∧ (-9223372036854775808 ≤ x.2 ∧ x.2 ≤ 9223372036854775807) := by
  obtain ⟨k, hk, h⟩ := h
  cases hk
  exact h.pairs
end Go.Eng

namespace Go.Eng
open Go
section
variable {P : Program} {n : Nat}
def mkS (n : Nat) (L : List (Nat × AV)) : List AV := L.foldr (fun p S => S.set p.1 p.2) (List.replicate n .junk)
theorem mkS_len (n : Nat) : ∀ (L : List (Nat × AV)), (mkS n L).length = n
  | [] => by simp [mkS]
  | p :: L => by
    have := mkS_len n L
    unfold mkS at this ⊢
    rw [List.foldr_cons, List.length_set, this]
theorem put_mkS (L : List (Nat × AV)) (d : Nat) (v : AV) : putS (mkS n L) (some d) v = mkS n ((d, v) :: L) := rfl
theorem rd_mkS (L : List (Nat × AV)) (d i : Nat) (v : AV) : rd (mkS n ((d, v) :: L)) (.s i) = cond (d == i) (if i < n then v else .junk) (rd (mkS n L) (.s i)) := by
  show rd ((mkS n L).set d v) (.s i) = _
  rw [rd_set, mkS_len]
  by_cases h : d = i
  · subst h
    by_cases hn : d < n
    · simp [hn]
    · have hr : rd (mkS n L) (.s d) = .junk := by
        show ((mkS n L)[d]?).getD .junk = .junk
        rw [List.getElem?_eq_none (by rw [mkS_len]; omega)]
        rfl
      simp [hn, hr]
  · have : (d == i) = false := by simpa using h
    simp [h, this]
theorem rd_mkS0 (i : Nat) : rd (mkS n []) (.s i) = .junk := by
  show ((List.replicate n AV.junk)[i]?).getD .junk = .junk
  rw [List.getElem?_replicate]
  split <;> rfl
theorem start0 (k : Nat) : ([] : List AV) ++ List.replicate k .junk = mkS k [] := rfl
theorem start1 (a : AV) (k : Nat) : [a] ++ List.replicate k .junk = mkS (k + 1) [(0, a)] := by
  simp [mkS, List.replicate_succ]
theorem start2 (a b : AV) (k : Nat) : [a, b] ++ List.replicate k .junk = mkS (k + 2) [(1, b), (0, a)] := by
  simp [mkS, List.replicate_succ]
theorem start3 (a b c : AV) (k : Nat) : [a, b, c] ++ List.replicate k .junk = mkS (k + 3) [(2, c), (1, b), (0, a)] := by
  simp [mkS, List.replicate_succ]
theorem start4 (a b c d : AV) (k : Nat) : [a, b, c, d] ++ List.replicate k .junk = mkS (k + 4) [(3, d), (2, c), (1, b), (0, a)] := by
  simp [mkS, List.replicate_succ]
theorem mkS_rd (L : List (Nat × AV)) (i : Nat) : rd (mkS n L) (.s i) = .junk ∨ ∃ p ∈ L, p.1 = i ∧ rd (mkS n L) (.s i) = p.2 := by
  induction L with
  | nil => exact .inl (rd_mkS0 i)
  | cons p L ih =>
    obtain ⟨d, v⟩ := p
    rw [rd_mkS]
    by_cases h : d = i
    · subst h
      by_cases hn : d < n
      · exact .inr ⟨(d, v), by simp, rfl, by simp [hn]⟩
      · left; simp [hn]
    · have : (d == i) = false := by simpa using h
      rw [this]
      rcases ih with h1 | ⟨q, h1, h2, h3⟩
      · exact .inl h1
      · exact .inr ⟨q, by simp [h1], h2, h3⟩
theorem forget_mkS {S : List AV} {L : List (Nat × AV)} (hn : S.length = n) (h : Has S L) : Forget S (mkS n L) := by
  refine ⟨by rw [mkS_len, hn], fun i => ?_⟩
  rcases mkS_rd (n := n) L i with h1 | ⟨p, hp, rfl, h2⟩
  · exact .inl h1
  · right; rw [h2]; exact (h p hp).symm
/-- A loop, from and to slots as such lists. -/
theorem LoopK.byS {α : Type} {a : MCode} {Q : Post} {L0 : List (Nat × AV)} {H : AHeap} {d : Lk a} {d' : Lk Q} (inv : α → Prop) (L : α → List (Nat × AV)) (hp : α → AHeap) (μ : α → Nat) (x0 : α) (h0 : inv x0) (hL : Has (mkS n L0) (L x0)) (hH : H = hp x0)
    (hstep : ∀ x, inv x → AW P a (MX.then (fun S' H' => ∃ y, inv y ∧ S'.length = n ∧ Has S' (L y) ∧ H' = hp y ∧ μ y < μ x) Q) (mkS n (L x)) (hp x)) : LoopK P a Q (mkS n L0) H d d' := by
  subst hH
  refine ⟨fun k S H => ∃ x, inv x ∧ S = mkS n (L x) ∧ H = hp x ∧ μ x = k, ⟨μ x0, mkS n (L x0), forget_mkS (mkS_len _ _) hL, x0, h0, rfl, rfl, rfl⟩, ?_⟩
  rintro k S H ⟨x, hx, rfl, rfl, rfl⟩
  refine AW_mono (fun e S' H' h => ?_) (hstep x hx)
  cases e with
  | normal =>
    obtain ⟨y, hy, h1, h2, rfl, h4⟩ := h
    exact ⟨μ y, mkS n (L y), h4, forget_mkS h1 h2, y, hy, rfl, rfl, rfl⟩
  | exit id => exact h
  | ret => exact h
end
end Go.Eng

namespace Go.Eng
open Go
section
variable {P : Program} {l n : Nat}
/-- The fence of a round. -/
abbrev Rnd (l : Nat) : Fence := Fence.wide.inRound l
theorem calls_rnd {f : FuncId} {args : Array Value} {w : World} {R : Ending → World → Prop} (h : Calls P f args w R) : CallsIn (Rnd l) n P f args w R :=
  (callsIn_wide.2 h : CallsIn Fence.wide n P f args w R)
theorem rows_rnd {row : String} {args : Array Value} {w : World} {R : Value → World → Prop} (h : Rows P row args w R) : RowsIn (Rnd l) n P row args w R := by
  intro c cs _
  obtain ⟨v, w', h1, h2⟩ := h c cs
  exact ⟨v, w', h1, (stepsIn_wide.2 h2 : StepsIn (Machine.fenced P Fence.wide) P _ _)⟩
theorem oper_rnd {o : Oper} (hd : ∀ c, o.op ≠ .defer c) {a : Act} {w : World} {K : Act → World → Prop} {Q : Exit → Act → World → Prop} (_hQ : ¬ LetsOut Q) (h : o.wp P a w K Q) : o.wpIn (Rnd l) n P a w K Q := by
  refine ⟨fun _ _ => trivial, ?_⟩
  rw [Oper.semAt_eq _ _ _ hd]
  unfold Oper.wp at h
  generalize (execOp a.eval o).run P w = r at *
  cases r with
  | ok x w' =>
    cases x <;> simp only [Oper.upon, Oper.uponIn] at h ⊢ <;>
      first
        | exact h
        | exact ⟨fun e => by simp [Fence.wide] at e, calls_rnd h⟩
        | exact ⟨fun e => by simp [Fence.wide] at e, rows_rnd h⟩
  | halt x w' => cases x <;> simp only [Oper.upon, Oper.uponIn] at h ⊢ <;> exact h
def noDef (ops : List Oper) : Bool := ops.all fun o => match o.op with | .defer _ => false | _ => true
theorem noDef_at {ops : List Oper} (h : noDef ops = true) {i : Nat} {o : Oper} (ho : ops.toArray[i]? = some o) : ∀ c, o.op ≠ .defer c := by
  intro c e
  have hm : o ∈ ops := by
    rw [List.getElem?_toArray] at ho
    exact List.mem_of_getElem? ho
  have := List.all_eq_true.1 h o hm
  rw [e] at this
  cases this
theorem wpOp_rnd {ops : List Oper} (hd : noDef ops = true) {i : Nat} {a : Act} {w : World} {K : Act → World → Prop} {Q : Exit → Act → World → Prop} (hQ : ¬ LetsOut Q) (h : wpOp P ops.toArray Q i K a w) : wpOpIn (Rnd l) n P ops.toArray Q i K a w := by
  unfold wpOp at h
  unfold wpOpIn
  split
  · rename_i ho; simpa [ho] using h
  · rename_i o ho
    simp only [ho] at h
    split
    · rename_i hw
      simp only [hw, if_true] at h
      rcases h with h | h
      · exact oper_rnd (noDef_at hd ho) hQ h
      · exact absurd h.2 hQ
    · rename_i hw
      simp only [hw] at h
      exact ⟨fun _ _ => trivial, h⟩
theorem wpOps_rnd {ops : List Oper} (hd : noDef ops = true) {Q : Exit → Act → World → Prop} (hQ : ¬ LetsOut Q) : ∀ (L : List Nat) {a : Act} {w : World}, wpOps P ops.toArray Q L a w → wpOpsIn (Rnd l) n P ops.toArray Q L a w
  | [], _, _, h => h
  | i :: r, a, w, h => by
    rw [wpOps_cons] at h
    rw [wpOpsIn_cons]
    exact wpOp_rnd hd hQ (wpOp_mono (fun a w h => wpOps_rnd hd hQ r h) h)
theorem wpAny_rnd {ops : List Oper} (hd : noDef ops = true) {Q : Exit → Act → World → Prop} (hQ : ¬ LetsOut Q) {md : Region.Mode} : ∀ (k : Nat) {L : Array Bool} {a : Act} {w : World}, wpAny P md ops.toArray Q k L a w → wpAnyIn (Rnd l) n P md ops.toArray Q k L a w
  | 0, _, _, _, h => h
  | k + 1, _, _, _, h => ⟨h.1, fun i hi => wpOp_rnd hd hQ (wpOp_mono (fun _ _ h => wpAny_rnd hd hQ k h) (h.2 i hi))⟩
end
section
variable {P : Program} {l n : Nat} {ρ0 : Ren} {H0 : AHeap} {w0 : World} {bx : List Nat}
theorem region_rnd {ops : List Oper} {draw : Bool} {m : List MOp} {id : Nat} (hd : noDef ops = true) (hm : P.follows .mixedOrders = true) (h : trRegion P bx ops draw = some m) {Q : List AV → AHeap → Prop} {Q' : Exit → Act → World → Prop} (hQ' : ¬ LetsOut Q')
    (hQ : ∀ ρ' β' S' H' a' w', Fr ρ0 H0 w0 bx β' ρ' S' H' a' w' → Q S' H' → Q' .normal a' w') {β : Nat → Option Nat} {ρ : Ren} {S : List AV} {H : AHeap} {a : Act} {w : World} (F : Fr ρ0 H0 w0 bx β ρ S H a w) (hA : AOps P m Q S H) :
    (Code.region id ops.toArray draw).wpIn (Rnd l) n P Q' a w := by
  obtain ⟨R, hedge, hind⟩ := region_facts h
  cases draw with
  | false =>
    refine wpIn_region (wpOps_rnd hd hQ' _ ?_)
    rw [List.size_toArray, List.range_eq_range']
    have R' : RegionOk P bx ops false (envOf P bx ops 0 []) m (fun i j => decide (j < i)) := by
      have e : prec false (masks ops []) = fun i j => decide (j < i) := by funext i j; simp [prec]
      rw [← e]; exact R
    exact region_text R' hQ ops.length 0 (by simp) F (fun e _ hj => by simp at hj) hA
  | true =>
    refine wpIn_region_any hm (wpAny_rnd hd hQ' _ ?_)
    have hrest : restL m.zipIdx (Array.replicate ops.length false) = m := by
      rw [restL_all (fun p hp => by have := (List.mem_zipIdx hp).2.1; rw [R.len] at this; omega)]
      exact List.zipIdx_map_fst _ _
    rw [List.size_toArray]
    refine region_gen R hQ hedge (fun listed hsz hcl i o ho hr j hj => masks_ready listed hsz hcl i o ho hr j hj) (fun m i => zip_mem) (nd_zip m 0) (fun _ => False) ?_ ops.length _ (by simp) (closed_none ops) (fun j hj => hj.elim) (by rw [hrest, R.len]; exact Nat.le_refl _) (drawn_fr F) (env_none _) (by rw [hrest]; exact hA)
    intro L1 L2 i j a b hL ha
    have hlt := zip_before hL ha
    have hb : (b, i) ∈ m.zipIdx := by rw [hL]; simp
    have ha2 : (a, j) ∈ m.zipIdx := by rw [hL]; simp [ha]
    rcases hind rfl i j a b (zip_mem.1 hb) (zip_mem.1 ha2) hlt with h | h
    · exact .inl h
    · exact .inr (.inl h)
/-- Code without defer, labels, and ranges over a function. -/
def okR : Code → Bool
  | .skip | .exit _ | .ret => true
  | .region _ ops _ => noDef ops.toList
  | .seq a b | .cond _ a b => okR a && okR b
  | .block _ a | .loop a => okR a
  | _ => false
/-- No region of two orders. -/
def no2 : MCode → Bool
  | .ops2 _ _ => false
  | .seq a b | .cond _ a b => no2 a && no2 b
  | .block _ a | .loop a | .cut a => no2 a
  | .scope _ a b => no2 a && no2 b
  | _ => true
theorem conc_lets {Q : Post} : ¬ LetsOut (Conc ρ0 H0 w0 bx Q) := by
  rintro ⟨a, w, me, ρ, β, S, H, he, _⟩
  cases me with
  | normal => cases he
  | exit id =>
    simp only [MX.conc] at he
    split at he <;> cases he
  | ret => cases he
theorem code_rnd {cs : List Nat} (hm : P.follows .mixedOrders = true) : ∀ (c : Code), okR c = true → ∀ {m : MCode}, trC P bx cs c = some m → no2 m = true → ∀ {Q : Post} {β : Nat → Option Nat} {ρ : Ren} {S : List AV} {H : AHeap} {a : Act} {w : World}, Fr ρ0 H0 w0 bx β ρ S H a w → AW P m Q S H →
    c.wpIn (Rnd l) n P (Conc ρ0 H0 w0 bx Q) a w := by
  intro c
  induction c with
  | skip =>
    intro _ m h _ Q β ρ S H a w F hA
    simp only [trC, Option.some.injEq] at h
    subst h
    exact wpIn_skip ⟨.normal, ρ, β, S, H, rfl, F, hA⟩
  | region id ops draw =>
    intro hok m h h2 Q β ρ S H a w F hA
    simp only [okR] at hok
    simp only [trC] at h
    split at h
    · rename_i r hl
      cases h
      have := region_rnd (l := l) (n := n) (id := id) hok hm hl (Q := fun S H => Q .normal S H) (Q' := Conc ρ0 H0 w0 bx Q) conc_lets (fun ρ' β' S' H' a' w' F' hq => ⟨.normal, ρ', β', S', H', rfl, F', hq⟩) F hA
      simpa using this
    · simp only [Option.map_eq_some_iff] at h
      obtain ⟨p, hp, rfl⟩ := h
      cases h2
  | seq x y ihx ihy =>
    intro hok m h h2 Q β ρ S H a w F hA
    simp only [okR, Bool.and_eq_true] at hok
    simp only [trC] at h
    split at h
    case h_2 => cases h
    rename_i mx my hx hy
    have fin : no2 mx = true → no2 my = true → AW P mx (MX.then (fun S H => ∃ S0, Forget S S0 ∧ AW P my Q S0 H) Q) S H → (Code.seq x y).wpIn (Rnd l) n P (Conc ρ0 H0 w0 bx Q) a w := by
      intro n1 n2 hA
      refine wpIn_seq (wpIn_mono (ihx hok.1 hx n1 F hA) ?_)
      rintro e a' w' ⟨me, ρ', β', S', H', rfl, F', hq⟩
      cases me with
      | normal =>
        obtain ⟨S0, hf, hq⟩ := hq
        exact ihy hok.2 hy n2 (F'.forget hf) hq
      | exit id =>
        rcases conc_exit id with ⟨_, h2⟩ | ⟨_, h2⟩
        · rw [h2]; exact ⟨.exit id, ρ', β', S', H', h2.symm, F', hq⟩
        · rw [h2]; exact ⟨.exit id, ρ', β', S', H', h2.symm, F', hq⟩
      | ret => exact ⟨.ret, ρ', β', S', H', rfl, F', hq⟩
    split at h
    · cases h
      simp only [no2, Bool.and_eq_true] at h2
      refine fin h2.1 h2.2 (AW_mono (fun e S' H' h => ?_) hA)
      cases e with
      | normal => exact h
      | exit id => exact h
      | ret => exact h
    · cases h
      simp only [no2, Bool.and_eq_true] at h2
      refine fin h2.1 h2.2 (AW_mono (fun e S' H' h => ?_) hA)
      cases e with
      | normal => exact ⟨S', Forget.rfl', h⟩
      | exit id => exact h
      | ret => exact h
  | cond c x y ihx ihy =>
    intro hok m h h2 Q β ρ S H a w F hA
    simp only [okR, Bool.and_eq_true] at hok
    simp only [trC] at h
    split at h
    case h_2 => cases h
    rename_i o mx my ho hx hy
    cases h
    simp only [no2, Bool.and_eq_true] at h2
    simp only [AW] at hA
    have hv := F.opd ho
    split at hA
    case h_2 => exact hA.elim
    rename_i t ht
    rw [ht] at hv
    generalize hc : a.eval c = cv at hv
    cases hv
    refine wpIn_cond hc ?_
    cases t with
    | true => simp only [if_true] at hA ⊢; exact ihx hok.1 hx h2.1 F hA
    | false => simp only [Bool.false_eq_true, if_false] at hA ⊢; exact ihy hok.2 hy h2.2 F hA
  | block id x ih =>
    intro hok m h h2 Q β ρ S H a w F hA
    simp only [okR] at hok
    simp only [trC] at h
    split at h
    case isFalse => cases h
    rename_i hid
    simp only [Option.map_eq_some_iff] at h
    obtain ⟨mx, hx, rfl⟩ := h
    simp only [no2] at h2
    refine wpIn_block (wpIn_mono (ih hok hx h2 F hA) ?_)
    rintro e a' w' ⟨me, ρ', β', S', H', rfl, F', hq⟩
    cases me with
    | normal => exact ⟨.normal, ρ', β', S', H', rfl, F', hq⟩
    | exit id' =>
      simp only [MX.inBlock] at hq
      rcases conc_exit id' with ⟨h1, h2⟩ | ⟨h1, h2⟩
      · rw [h2]
        simp only [Exit.inBlock]
        split at hq
        · rename_i hi; rw [if_pos hi]; exact ⟨.normal, ρ', β', S', H', rfl, F', hq⟩
        · rename_i hi; rw [if_neg hi]; exact ⟨.exit id', ρ', β', S', H', h2.symm, F', hq⟩
      · rw [h2]
        rw [if_neg (by omega)] at hq
        exact ⟨.exit id', ρ', β', S', H', h2.symm, F', hq⟩
    | ret => exact ⟨.ret, ρ', β', S', H', rfl, F', hq⟩
  | loop x ih =>
    intro hok m h h2 Q β ρ S H a w F hA
    simp only [okR] at hok
    simp only [trC, Option.map_eq_some_iff] at h
    obtain ⟨mx, hx, rfl⟩ := h
    simp only [no2] at h2
    obtain ⟨J, ⟨k0, S0, hf, h0⟩, h1⟩ := hA
    have hF0 := F.forget hf
    intro b k cs hro hb hr
    have key : ∀ j {β : Nat → Option Nat} {ρ : Ren} {S : List AV} {H : AHeap} {a : Act} {w : World}, Fr ρ0 H0 w0 bx β ρ S H a w → J j S H →
        ∃ e a' w', Conc ρ0 H0 w0 bx Q e a' w' ∧ ArrivesIn (Machine.fenced P (Rnd l)) P (lone (b.atR a (.code x :: .inLoop x :: k)) cs w) b k cs e a' w' := by
      intro j
      induction j using Nat.strongRecOn with
      | _ j ihn =>
        intro β ρ S H a w F hJ
        obtain ⟨e, a₁, w₁, ⟨me, ρ', β', S', H', rfl, F', hq⟩, harr⟩ := ih hok hx h2 F (h1 j S H hJ) b (.inLoop x :: k) cs hro hb hr
        cases me with
        | normal =>
          obtain ⟨k', S'', hlt, hf', hJ'⟩ := hq
          obtain ⟨e₂, a₂, w₂, hq₂, harr₂⟩ := ihn k' hlt (F'.forget hf') hJ'
          exact ⟨e₂, a₂, w₂, hq₂, .of_steps (StepsIn.trans harr (.one (fenced_calm hb hr rfl) stepR_inLoop)) harr₂⟩
        | exit id =>
          have hne : MX.conc (.exit id) ≠ .normal := by
            rcases conc_exit id with ⟨_, h2⟩ | ⟨_, h2⟩ <;> rw [h2] <;> simp
          exact ⟨_, a₁, w₁, ⟨.exit id, ρ', β', S', H', rfl, F', hq⟩, .pass (x := .inLoop x) rfl (fun _ _ => .inl hne) harr⟩
        | ret => exact ⟨_, a₁, w₁, ⟨.ret, ρ', β', S', H', rfl, F', hq⟩, .pass (x := .inLoop x) rfl (fun _ _ => .inl (by simp [MX.conc])) harr⟩
    obtain ⟨e, a', w', hq, harr⟩ := key _ hF0 h0
    exact ⟨e, a', w', hq, .of_steps (.one (fenced_calm hb hr rfl) stepR_loop) harr⟩
  | exit id =>
    intro _ m h _ Q β ρ S H a w F hA
    simp only [trC] at h
    split at h
    case isFalse => cases h
    rename_i hid
    cases h
    have h2 : MX.conc (.exit id) = .exit id := by simp [MX.conc, hid]
    exact wpIn_exit ⟨.exit id, ρ, β, S, H, h2.symm, F, hA⟩
  | ret =>
    intro _ m h _ Q β ρ S H a w F hA
    simp only [trC, Option.some.injEq] at h
    subst h
    exact wpIn_ret ⟨.ret, ρ, β, S, H, rfl, F, hA⟩
  | _ => intro hok; cases hok
end
end Go.Eng

namespace Go.Eng
open Go
section
variable {P : Program}
/-- Another content of a block that has no name. -/
theorem Sim.put {ρ : Ren} {H : AHeap} {w : World} (h : Sim ρ H w) {b : Nat} (hb : ∀ n L, ρ n = some L → L.b ≠ b) (o : Obj) : Sim ρ H (w.putObj b o) :=
  h.world (by simp) (fun n L e => World.putObj_heap_other (hb n L e))
theorem Step.putNew {ρ0 ρ : Ren} {H0 H : AHeap} {w0 w : World} (h : Step ρ0 H0 w0 ρ H w) {b : Nat} (hb : w0.heap.size ≤ b) (o : Obj) : Step ρ0 H0 w0 ρ H (w.putObj b o) where
  old := h.old
  len := h.len
  os := h.os
  tape := h.tape
  out := h.out
  size := by rw [World.putObj_size]; exact h.size
  keep c hc ho := by rw [World.putObj_heap_other (by omega)]; exact h.keep c hc ho
  own := h.own
  fresh := h.fresh
/-- A round: the record is busy, and then as it was. -/
theorem Step.round {ρ1 ρ2 ρ3 : Ren} {H1 H2 H3 : AHeap} {w1 w2 w4 : World} {l : Nat} {o ob : Obj} (s1 : Step ρ1 H1 w1 ρ2 H2 w2) (hl : w1.heap[l]? = some o) (hn : ¬ Own ρ1 H1 l) (s2 : Step ρ2 H2 (w2.putObj l ob) ρ3 H3 w4) : Step ρ1 H1 w1 ρ3 H3 (w4.putObj l o) where
  old n hn := (s2.old n (Nat.lt_of_lt_of_le hn s1.len)).trans (s1.old n hn)
  len := Nat.le_trans s1.len s2.len
  os := s2.os.trans s1.os
  tape := s2.tape.trans s1.tape
  out := s2.out.trans s1.out
  size := by
    have := s2.size
    rw [World.putObj_size] at this ⊢
    exact Nat.le_trans s1.size this
  keep b hb ho := by
    have hs := s2.size
    rw [World.putObj_size] at hs
    have h1 := s1.size
    by_cases e : b = l
    · subst e
      rw [World.putObj_heap_same (by omega)]
      exact hl.symm
    · rw [World.putObj_heap_other e, s2.keep b (by rw [World.putObj_size]; omega) (fun h2 => by
        rcases s1.own b h2 with h3 | h3
        · omega
        · exact ho h3), World.putObj_heap_other e]
      exact s1.keep b hb ho
  own b hb := by
    rcases s2.own b hb with h1 | h1
    · rw [World.putObj_size] at h1
      exact .inl (Nat.le_trans s1.size h1)
    · exact s1.own b h1
  fresh n L e := by
    rcases s2.fresh n L e with h1 | h1 | h1
    · exact s1.fresh n L ((s2.old n h1) ▸ e)
    · rw [World.putObj_size] at h1
      exact .inr (.inl (Nat.le_trans s1.size h1))
    · rcases s1.own _ h1 with h2 | h2
      · exact .inr (.inl h2)
      · exact .inr (.inr h2)
/-- A block without a name keeps none. -/
theorem Step.unnamed {ρ ρ' : Ren} {H H' : AHeap} {w w' : World} (s : Step ρ H w ρ' H' w') {b : Nat} (hb : b < w.heap.size) (h : ∀ n L, ρ n = some L → L.b ≠ b) : ∀ n L, ρ' n = some L → L.b ≠ b := by
  intro n L e hl
  rcases s.fresh n L e with h1 | h1 | ⟨m, M, em, _, eb, _⟩
  · exact h n L ((s.old n h1) ▸ e) hl
  · omega
  · exact h m M em (eb.trans hl)
theorem not_own {ρ : Ren} {H : AHeap} {b : Nat} (h : ∀ n L, ρ n = some L → L.b ≠ b) : ¬ Own ρ H b := fun ⟨n, L, e, _, e2, _⟩ => h n L e e2
/-- What yield does, abstractly: it always goes on. -/
def YOk (P : Program) (l : Nat) (ρ0 : Ren) (H0 : AHeap) (w0 : World) (Yd : AV → AHeap → AHeap → Prop) : Prop :=
  ∀ x H1 H2, Yd x H1 H2 → ∀ ρ w cx, Sim ρ H1 w → Step ρ0 H0 w0 ρ H1 w → VR ρ x cx → ∀ n, YieldAt Fence.wide n P l #[cx] w (fun e w' => e = .returned (.bool true) ∧ ∃ ρ', Sim ρ' H2 w' ∧ Step ρ H1 w ρ' H2 w')
/-- The contract of a function that calls yield. -/
def AIter (P : Program) (gf : FuncId) (cap : List AV) (H H' : AHeap) (Yd : AV → AHeap → AHeap → Prop) : Prop :=
  (∃ fn, P.funcs[gf]? = some fn ∧ (fn.name == "runtime.NumGoroutine") = false ∧ fn.body.isNone = false) ∧
  ∀ l ρ w (ccap : Array Value), Sim ρ H w → LR ρ cap ccap.toList → YOk P l ρ H w Yd → ∀ n, CallsIn Fence.wide n P gf (#[.func (.yield l) #[] #[]] ++ ccap) w (fun e w' => (∃ v, e = .returned v) ∧ ∃ ρ', Sim ρ' H' w' ∧ Step ρ H w ρ' H' w')
def Act.wd (a : Act) (ds : List Deferred) : Act := { a with defers := ds }
variable {ρ0 : Ren} {H0 : AHeap} {w0 : World} {β : Nat → Option Nat} {ρ : Ren} {S : List AV} {H : AHeap} {a : Act} {w : World}
/-- A frame without boxes, from another start. -/
theorem Fr.base (F : Fr ρ0 H0 w0 [] β ρ S H a w) {ρ' : Ren} {H' : AHeap} {w' : World} (hsub : Sub ρ ρ') (hs : Sim ρ' H' w') : Fr ρ' H' w' [] (fun _ => none) ρ' S H' a w' :=
  ⟨hs, Step.refl _ _ _ hs, F.dfr, F.len, fun i hi => (F.slots i hi).mono hsub, by simp, by simp⟩
theorem Fr.base_put (F : Fr ρ0 H0 w0 [] β ρ S H a w) {ρ' : Ren} {H' : AHeap} {w' : World} (hsub : Sub ρ ρ') (hs : Sim ρ' H' w') (p : Nat) {x : AV} {cx : Value} (hx : VR ρ' x cx) : Fr ρ' H' w' [] (fun _ => none) ρ' (S.set p x) H' { tmps := a.tmps.setIfInBounds p cx, defers := [] } w' := by
  have h := (F.base hsub hs).put (dst := some p) (v := x) (cv := cx) rfl hx
  refine ⟨h.sim, h.step, rfl, h.len, h.slots, h.boxes, h.priv⟩
/-- What stands behind a range over a function. -/
def AfterR (ρ0 : Ren) (H0 : AHeap) (w0 : World) (β : Nat → Option Nat) (S : List AV) (H' : AHeap) (a : Act) : Exit → Act → World → Prop :=
  fun e a' w' => e = .normal ∧ ∃ D ρ', a' = Act.wd a [{ target := .collected D, args := #[] }] ∧ Fr ρ0 H0 w0 [] β ρ' S H' a w' ∧ w0.heap.size ≤ D ∧ D < w'.heap.size ∧ (∀ n L, ρ' n = some L → L.b ≠ D) ∧ w'.heap[D]? = some (.deferred (some []))
theorem range_sound {n : Nat} {cs : List Nat} (hm : P.follows .mixedOrders = true) {g : Operand} {og : Opd} {p : Nat} {as bd : Code} {ma mb : MCode} (F : Fr ρ0 H0 w0 [] β ρ S H a w) (hg : trOpd [] g = some og) {gf : FuncId} {cap : List AV} (hgv : rd S og = .fn gf cap)
    (hta : trC P [] cs as = some ma) (htb : trC P [] cs bd = some mb) (oka : okR as = true) (okb : okR bd = true) (n2a : no2 ma = true) (n2b : no2 mb = true) {Yd : AV → AHeap → AHeap → Prop}
    (hY : ∀ x H1 H2, Yd x H1 H2 → AW P ma (MX.then (AW P mb (fun e _ H' => e = .normal ∧ H' = H2)) (fun _ _ _ => False)) (S.set p x) H1) {H' : AHeap} (hit : AIter P gf cap H H' Yd) :
    (Code.rangeFunc g #[p] as bd).wpIn Fence.wide n P (AfterR ρ0 H0 w0 β S H' a) a w := by
  obtain ⟨hfn, hit⟩ := hit
  have hv := F.opd hg
  rw [hgv] at hv
  generalize hec : a.eval g = cv at hv
  cases hv with
  | fn _ _ lb hl1 hl2 =>
  refine wpIn_rangeFunc (fun fn _ => ?_)
  obtain ⟨rec, hrec⟩ : ∃ rec : LoopState → Option Code → Loop, rec = fun st pe => { state := st, pending := pe, fn, tmps := a.tmps, params := #[p], assign := as, body := bd, defers := w.heap.size } := ⟨_, rfl⟩
  obtain ⟨W1, hW1⟩ : ∃ W1, (w.alloc (.deferred (some []))).alloc (.loop (rec .ready none)) = W1 := ⟨_, rfl⟩
  have hsz : W1.heap.size = w.heap.size + 2 := by rw [← hW1]; simp
  have hL1 : W1.heap[w.heap.size + 1]? = some (.loop (rec .ready none)) := by
    rw [← hW1]; have := World.alloc_heap_new (w.alloc (.deferred (some []))) (.loop (rec .ready none)); rwa [World.size_alloc] at this
  have hK1 : W1.heap[w.heap.size]? = some (.deferred (some [])) := by
    rw [← hW1, heap_alloc_lt _ _ (by simp)]; exact heap_alloc_at w _
  have hs1 : Sim ρ H W1 := by rw [← hW1]; exact (F.sim.allocBox _).allocBox _
  have st1 : Step ρ H w ρ H W1 := by
    rw [← hW1]
    exact (Step.allocBox F.sim _).trans (Step.allocBox (F.sim.allocBox _) _)
  have F1 := F.go hs1 st1
  have hw0 : w0.heap.size ≤ w.heap.size := F.step.size
  have unD : ∀ n L, ρ n = some L → L.b ≠ w.heap.size := fun n L e => by have := (F.sim.dom n L e).2; omega
  have unL : ∀ n L, ρ n = some L → L.b ≠ w.heap.size + 1 := fun n L e => by have := (F.sim.dom n L e).2; omega
  refine ⟨w.heap.size + 1, [{ target := .collected w.heap.size, args := #[] }], W1, { target := .fn (.func gf) lb, args := #[.func (.yield (w.heap.size + 1)) #[] #[]] }, W1, gf,
    #[.func (.yield (w.heap.size + 1)) #[] #[]] ++ lb, W1, ?_, ?_, fun _ _ => trivial, ?_, fun e => by simp [Fence.wide] at e, ?_⟩
  · rw [← hW1, hrec]; exact run_enterLoop_outer _ _ _ _ _
  · simp only [resolve, hec]
    simp [go_sem]
  · rw [← run_callFunc (P := P) (w := W1) hfn]
    rfl
  have hYo : YOk P (w.heap.size + 1) ρ H W1 Yd := by
    intro x H1 H2 hyd ρ1 w1 cx s1 sp hx k
    have hsub : Sub ρ ρ1 := sp.sub hs1
    have hl1' : w1.heap[w.heap.size + 1]? = some (.loop (rec .ready none)) := (sp.keep _ (by omega) (not_own unL)).trans hL1
    have hlt1 : w.heap.size + 1 < w1.heap.size := (Array.getElem?_eq_some_iff.1 hl1').1
    have un1 : ∀ n L, ρ1 n = some L → L.b ≠ w.heap.size + 1 := sp.unnamed (by omega) unL
    have hy : (Instr.yield (w.heap.size + 1) #[cx]).run P w1 = .ok (.round (w.heap.size + 1) fn (a.tmps.setIfInBounds p cx) as bd) w1 := by
      have := run_yield (P := P) (args := #[cx]) hl1' (by rw [hrec]; rfl)
      rw [hrec] at this
      simpa using this
    refine ⟨fn, _, as, bd, hy, roundIn_of_wpIn trivial ?_⟩
    have Fa := F1.base_put hsub s1 p hx
    refine wpIn_mono (code_rnd hm as oka hta n2a Fa (hY x H1 H2 hyd)) ?_
    rintro e a2 w2 ⟨me, ρ2, β2, S2, H3, rfl, F2, hq⟩
    cases me with
    | exit id => exact hq.elim
    | ret => exact hq.elim
    | normal =>
      have hl2' : w2.heap[w.heap.size + 1]? = some (.loop (rec .ready none)) := (F2.step.keep _ hlt1 (not_own un1)).trans hl1'
      have hlt2 : w.heap.size + 1 < w2.heap.size := (Array.getElem?_eq_some_iff.1 hl2').1
      have un2 : ∀ n L, ρ2 n = some L → L.b ≠ w.heap.size + 1 := F2.step.unnamed hlt1 un1
      refine ⟨_, run_beginRound hl2' (by rw [hrec]), ?_⟩
      obtain ⟨ob, hob⟩ : ∃ ob, ob = Obj.loop { rec .ready none with state := .busy } := ⟨_, rfl⟩
      rw [← hob]
      have Fb := F2.base (Sub.refl _) (F2.sim.put un2 ob)
      refine wpIn_mono (code_rnd hm bd okb htb n2b Fb hq) ?_
      rintro e a4 w4 ⟨me, ρ4, β4, S4, H4, rfl, F4, rfl, rfl⟩
      have hlb : (w2.putObj (w.heap.size + 1) ob).heap[w.heap.size + 1]? = some ob := World.putObj_heap_same hlt2
      have hl4 : w4.heap[w.heap.size + 1]? = some ob := (F4.step.keep _ (by rw [World.putObj_size]; exact hlt2) (not_own un2)).trans hlb
      rw [hob] at hl4
      have hend := run_endRound (P := P) none hl4
      refine ⟨_, _, hend, rfl, ρ4, ?_, ?_⟩
      · exact F4.sim.put (F4.step.unnamed (by rw [World.putObj_size]; exact hlt2) un2) _
      · have := F2.step.round (o := .loop (rec .ready none)) (ob := ob) hl1' (not_own un1) F4.step
        have e1 : ({ { rec .ready none with state := .busy } with state := if (none : Option Code).isNone = true then .ready else .done, pending := none } : Loop) = rec .ready none := by rw [hrec]; rfl
        rw [e1]
        exact this
  refine (hit (w.heap.size + 1) ρ W1 lb hs1 ⟨by simpa using hl1, fun i x v hx hv => hl2 i x v hx (by simpa using hv)⟩ hYo _).mono ?_
  rintro e w' ⟨⟨v, rfl⟩, ρ', s', st'⟩
  have hl' : w'.heap[w.heap.size + 1]? = some (.loop (rec .ready none)) := (st'.keep _ (by omega) (not_own unL)).trans hL1
  have hD' : w'.heap[w.heap.size]? = some (.deferred (some [])) := (st'.keep _ (by omega) (not_own unD)).trans hK1
  have hlt' : w.heap.size + 1 < w'.heap.size := (Array.getElem?_eq_some_iff.1 hl').1
  have unL' := st'.unnamed (by omega : w.heap.size + 1 < W1.heap.size) unL
  have unD' := st'.unnamed (by omega : w.heap.size < W1.heap.size) unD
  have F' := F1.go s' st'
  have hend := run_endLoop (P := P) hl' (by rw [hrec]; simp)
  have hpend : (rec .ready none).pending = none := by rw [hrec]
  rw [hpend] at hend
  refine ⟨none, _, hend, rfl, w.heap.size, ρ', ?_, ?_, hw0, ?_, unD', ?_⟩
  · show ({ a with defers := [{ target := .collected w.heap.size, args := #[] }] ++ a.defers } : Act) = _
    rw [F.dfr]
    rfl
  · exact ⟨s'.put unL' _, F'.step.putNew (by omega) _, F'.dfr, F'.len, F'.slots, by simp, fun d b hb => by
      obtain ⟨h1, h2, h3, h4⟩ := F'.priv d b hb
      exact ⟨h1, by rw [World.putObj_size]; exact h2, h3, h4⟩⟩
  · rw [World.putObj_size]; omega
  · rw [World.putObj_heap_other (by omega)]; exact hD'
end
end Go.Eng

namespace Go.Eng
open Go
section
variable {P : Program} {n : Nat} {ρ0 : Ren} {H0 : AHeap} {w0 : World}
/-- Code from an abstract state, whatever frame holds it. -/
def WC (P : Program) (n : Nat) (ρ0 : Ren) (H0 : AHeap) (w0 : World) (c : Code) (Q : Post) (S : List AV) (H : AHeap) : Prop :=
  ∀ β ρ a w, Fr ρ0 H0 w0 [] β ρ S H a w → c.wpIn Fence.wide n P (Conc ρ0 H0 w0 [] Q) a w
theorem WC_pure (hm : P.follows .mixedOrders = true) {c : Code} {m : MCode} (h : trC P [] [] c = some m) {Q : Post} {S : List AV} {H : AHeap} (hA : AW P m Q S H) : WC P n ρ0 H0 w0 c Q S H :=
  fun _ _ _ _ F => wpIn_wide.2 (code_sound hm c h F hA)
theorem WC_mono {c : Code} {Q Q' : Post} {S : List AV} {H : AHeap} (h : WC P n ρ0 H0 w0 c Q S H) (hq : ∀ e S H, Q e S H → Q' e S H) : WC P n ρ0 H0 w0 c Q' S H :=
  fun β ρ a w F => wpIn_mono (h β ρ a w F) (by
    rintro e a' w' ⟨me, ρ', β', S', H', rfl, F', hh⟩
    exact ⟨me, ρ', β', S', H', rfl, F', hq _ _ _ hh⟩)
theorem WC_forget {c : Code} {Q : Post} {S S0 : List AV} {H : AHeap} (hf : Forget S S0) (h : WC P n ρ0 H0 w0 c Q S0 H) : WC P n ρ0 H0 w0 c Q S H :=
  fun β ρ a w F => h β ρ a w (F.forget hf)
theorem WC_seq {x y : Code} {Q : Post} {S : List AV} {H : AHeap} (h : WC P n ρ0 H0 w0 x (MX.then (WC P n ρ0 H0 w0 y Q) Q) S H) : WC P n ρ0 H0 w0 (.seq x y) Q S H := by
  intro β ρ a w F
  refine wpIn_seq (wpIn_mono (h β ρ a w F) ?_)
  rintro e a' w' ⟨me, ρ', β', S', H', rfl, F', hq⟩
  cases me with
  | normal => exact hq _ _ _ _ F'
  | exit id =>
    rcases conc_exit id with ⟨_, h2⟩ | ⟨_, h2⟩
    · rw [h2]; exact ⟨.exit id, ρ', β', S', H', h2.symm, F', hq⟩
    · rw [h2]; exact ⟨.exit id, ρ', β', S', H', h2.symm, F', hq⟩
  | ret => exact ⟨.ret, ρ', β', S', H', rfl, F', hq⟩
theorem WC_block {id : Nat} (hid : id < GB) {x : Code} {Q : Post} {S : List AV} {H : AHeap} (h : WC P n ρ0 H0 w0 x (MX.inBlock id Q) S H) : WC P n ρ0 H0 w0 (.block id x) Q S H := by
  intro β ρ a w F
  refine wpIn_block (wpIn_mono (h β ρ a w F) ?_)
  rintro e a' w' ⟨me, ρ', β', S', H', rfl, F', hq⟩
  cases me with
  | normal => exact ⟨.normal, ρ', β', S', H', rfl, F', hq⟩
  | exit id' =>
    simp only [MX.inBlock] at hq
    rcases conc_exit id' with ⟨h1, h2⟩ | ⟨h1, h2⟩
    · rw [h2]
      simp only [Exit.inBlock]
      split at hq
      · rename_i hi; rw [if_pos hi]; exact ⟨.normal, ρ', β', S', H', rfl, F', hq⟩
      · rename_i hi; rw [if_neg hi]; exact ⟨.exit id', ρ', β', S', H', h2.symm, F', hq⟩
    · rw [h2]
      rw [if_neg (by omega)] at hq
      exact ⟨.exit id', ρ', β', S', H', h2.symm, F', hq⟩
  | ret => exact ⟨.ret, ρ', β', S', H', rfl, F', hq⟩
theorem WC_cond {c : Operand} {o : Opd} (ho : trOpd [] c = some o) {t : Bool} {x y : Code} {Q : Post} {S : List AV} {H : AHeap} (ht : rd S o = .bool t) (h : WC P n ρ0 H0 w0 (if t then x else y) Q S H) : WC P n ρ0 H0 w0 (.cond c x y) Q S H := by
  intro β ρ a w F
  have hv := F.opd ho
  rw [ht] at hv
  generalize hc : a.eval c = cv at hv
  cases hv
  exact wpIn_cond hc (h β ρ a w F)
theorem WC_loop {x : Code} {Q : Post} (J : Nat → List AV → AHeap → Prop) (hstep : ∀ k S H, J k S H → WC P n ρ0 H0 w0 x (MX.then (fun S' H' => ∃ k' S'', k' < k ∧ Forget S' S'' ∧ J k' S'' H') Q) S H) {k0 : Nat} {S0 S : List AV} {H : AHeap} (hf : Forget S S0) (h0 : J k0 S0 H) : WC P n ρ0 H0 w0 (.loop x) Q S H := by
  intro β ρ a w F b k cs hro hb hr
  have key : ∀ j {β : Nat → Option Nat} {ρ : Ren} {S : List AV} {H : AHeap} {a : Act} {w : World}, Fr ρ0 H0 w0 [] β ρ S H a w → J j S H →
      ∃ e a' w', Conc ρ0 H0 w0 [] Q e a' w' ∧ ArrivesIn (Machine.fenced P Fence.wide) P (lone (b.atR a (.code x :: .inLoop x :: k)) cs w) b k cs e a' w' := by
    intro j
    induction j using Nat.strongRecOn with
    | _ j ihn =>
      intro β ρ S H a w F hJ
      obtain ⟨e, a₁, w₁, ⟨me, ρ', β', S', H', rfl, F', hq⟩, harr⟩ := hstep j S H hJ β ρ a w F b (.inLoop x :: k) cs hro hb hr
      cases me with
      | normal =>
        obtain ⟨k', S'', hlt, hf', hJ'⟩ := hq
        obtain ⟨e₂, a₂, w₂, hq₂, harr₂⟩ := ihn k' hlt (F'.forget hf') hJ'
        exact ⟨e₂, a₂, w₂, hq₂, .of_steps (StepsIn.trans harr (.one (fenced_calm hb hr rfl) stepR_inLoop)) harr₂⟩
      | exit id =>
        have hne : MX.conc (.exit id) ≠ .normal := by
          rcases conc_exit id with ⟨_, h2⟩ | ⟨_, h2⟩ <;> rw [h2] <;> simp
        exact ⟨_, a₁, w₁, ⟨.exit id, ρ', β', S', H', rfl, F', hq⟩, .pass (x := .inLoop x) rfl (fun _ _ => .inl hne) harr⟩
      | ret => exact ⟨_, a₁, w₁, ⟨.ret, ρ', β', S', H', rfl, F', hq⟩, .pass (x := .inLoop x) rfl (fun _ _ => .inl (by simp [MX.conc])) harr⟩
  obtain ⟨e, a', w', hq, harr⟩ := key _ (F.forget hf) h0
  exact ⟨e, a', w', hq, .of_steps (.one (fenced_calm hb hr rfl) stepR_loop) harr⟩
theorem WC_loopA {α : Type} {x : Code} {Q : Post} {S : List AV} {H : AHeap} (m : Nat) (inv : α → Prop) (L : α → List (Nat × AV)) (hp : α → AHeap) (μ : α → Nat) (x0 : α) (h0 : inv x0) (hn : S.length = m) (hL : Has S (L x0)) (hH : H = hp x0)
    (hstep : ∀ y, inv y → WC P n ρ0 H0 w0 x (MX.then (fun S' H' => ∃ z, inv z ∧ S'.length = m ∧ Has S' (L z) ∧ H' = hp z ∧ μ z < μ y) Q) (mk m (L y)) (hp y)) : WC P n ρ0 H0 w0 (.loop x) Q S H := by
  refine WC_loop (fun k S H => ∃ y, inv y ∧ k = μ y ∧ S = mk m (L y) ∧ H = hp y) ?_ (forget_mk hn hL) ⟨x0, h0, rfl, rfl, hH⟩
  rintro k S H ⟨y, hy, rfl, rfl, rfl⟩
  refine WC_mono (hstep y hy) (fun e S' H' h => ?_)
  cases e with
  | normal =>
    obtain ⟨z, h1, h2, h3, h4, h5⟩ := h
    exact ⟨μ z, mk m (L z), h5, forget_mk h2 h3, z, h1, rfl, rfl, h4⟩
  | exit id => exact h
  | ret => exact h
/-- The region that calls yield: it goes on. -/
theorem WC_yield {id d1 d2 d3 d4 y k : Nat} {t1 t2 t3 t4 t5 : TypeId} {p1 p2 p3 p4 : String} {a1 a2 a3 a4 : Array Edge} {ts : Array TypeId} {l : Nat} {Yd : AV → AHeap → AHeap → Prop} (hy : YOk P l ρ0 H0 w0 Yd) {S : List AV} {H H2 : AHeap}
    (hs : rd S (.s y) = .yld l) (hd : d1 ≠ d2 ∧ d1 ≠ k ∧ d1 < S.length ∧ d2 < S.length ∧ d3 < S.length ∧ d4 < S.length) (hYd : Yd (rd S (.s k)) H H2) {Q : Post}
    (hq : Q .normal ((((S.set d1 (.yld l)).set d2 (rd S (.s k))).set d3 (B true)).set d4 (B false)) H2) :
    WC P n ρ0 H0 w0 (.region id #[⟨some d1, .move (.tmp y), t1, p1, a1, none⟩, ⟨some d2, .move (.tmp k), t2, p2, a2, none⟩, ⟨some d3, .call { callee := .value (.tmp d1), args := #[.tmp d2], argTypes := ts }, t3, p3, a3, none⟩, ⟨some d4, .unOp .not t5 (.tmp d3), t4, p4, a4, none⟩] false) Q S H := by
  intro β ρ a w F
  obtain ⟨h12, h1k, l1, l2, l3, l4⟩ := hd
  refine wpIn_region ?_
  have vy := F.slots y (by simp)
  rw [hs] at vy
  generalize hyv : a.tmps.getD y undef = cy at vy
  cases vy
  have F1 := F.put (dst := some d1) (v := .yld l) (cv := a.tmps.getD y undef) rfl (by rw [hyv]; exact .yld l)
  have F2 := F1.put (dst := some d2) (v := rd S (.s k)) (cv := (a.put (some d1) (a.tmps.getD y undef)).tmps.getD k undef) rfl (by
    have := F1.slots k (by simp)
    rw [show rd (putS S (some d1) (.yld l)) (.s k) = rd S (.s k) from rd_putS (by simpa using h1k)] at this
    exact this)
  have e1 : ((a.put (some d1) (a.tmps.getD y undef)).put (some d2) ((a.put (some d1) (a.tmps.getD y undef)).tmps.getD k undef)).tmps.getD d1 undef = .func (.yield l) #[] #[] := by
    rw [getD_put, if_neg (by rintro ⟨h, _⟩; exact h12 h.symm), getD_put, if_pos ⟨rfl, by rw [← F.len]; exact l1⟩, hyv]
  have hx : VR ρ (rd S (.s k)) (((a.put (some d1) (a.tmps.getD y undef)).put (some d2) ((a.put (some d1) (a.tmps.getD y undef)).tmps.getD k undef)).tmps.getD d2 undef) := by
    have := F2.slots d2 (by simp)
    simp only [putS] at this
    rw [rd_set, if_pos ⟨rfl, by simpa using l2⟩] at this
    exact this
  simp only [List.size_toArray, List.length_cons, List.length_nil, Nat.reduceAdd, List.range, List.range.loop]
  simp only [wpOpsIn, List.getElem?_toArray, List.getElem?_cons_zero, List.getElem?_cons_succ]
  have wt : ∀ (o : Oper) (l : Nat → Option Bool), o.guard = none → Region.wanted o l = true := fun o l h => by simp [Region.wanted, h]
  rw [if_pos (wt _ _ rfl)]
  refine ⟨fun _ _ => trivial, ?_⟩
  show Oper.uponIn _ _ _ _ _ _ _ (.ok (.value (a.eval (.tmp y))) w)
  rw [Oper.uponIn_value]
  simp only []
  rw [if_pos (wt _ _ rfl)]
  refine ⟨fun _ _ => trivial, ?_⟩
  show Oper.uponIn _ _ _ _ _ _ _ (.ok (.value ((a.put (some d1) (a.tmps.getD y undef)).eval (.tmp k))) w)
  rw [Oper.uponIn_value]
  simp only []
  rw [if_pos (wt _ _ rfl)]
  refine ⟨fun _ _ => trivial, ?_⟩
  obtain ⟨fn, tmps, as, bd, hrun, hR⟩ := hy _ _ _ hYd ρ w _ F2.sim F2.step hx (n - 1)
  have hexg : ∀ (b : Act), b.tmps.getD d1 undef = .func (.yield l) #[] #[] → (execOp b.eval ⟨some d3, .call { callee := .value (.tmp d1), args := #[.tmp d2], argTypes := ts }, t3, p3, a3, none⟩).run P w = (Instr.yield l #[b.tmps.getD d2 undef]).run P w := by
    intro b hb
    have e2 : b.eval (.tmp d1) = .func (.yield l) #[] #[] := hb
    have e3 : b.eval (.tmp d2) = b.tmps.getD d2 undef := rfl
    simp only [execOp, resolve, e2, Sem.run_bind, Deferred.ofValue, invoke, e3, List.map_toArray, List.map_cons, List.map_nil, Sem.run_pure, Result.andThen_ok]
    simp
  have hex := (hexg _ e1).trans hrun
  show Oper.uponIn _ _ _ _ _ _ _ ((execOp ((a.put (some d1) (a.tmps.getD y undef)).put (some d2) ((a.put (some d1) (a.tmps.getD y undef)).tmps.getD k undef)).eval ⟨some d3, .call { callee := .value (.tmp d1), args := #[.tmp d2], argTypes := ts }, t3, p3, a3, none⟩).run P w)
  rw [hex, Oper.uponIn_round]
  refine ⟨fun e => by simp [Fence.wide] at e, hR.mono ?_⟩
  rintro e w' ⟨rfl, ρ', hs', st'⟩
  have F3 := (F2.go hs' st').put (dst := some d3) (v := B true) (cv := .bool true) rfl (.bool true)
  simp only []
  rw [if_pos (wt _ _ rfl)]
  refine ⟨fun _ _ => trivial, ?_⟩
  have e3 : ∀ (b : Act), b.tmps.size = S.length → (b.put (some d3) (.bool true)).tmps.getD d3 undef = .bool true := fun b hb => by
    rw [getD_put, if_pos ⟨rfl, by rw [hb]; exact l3⟩]
  have hsz : ((a.put (some d1) (a.tmps.getD y undef)).put (some d2) ((a.put (some d1) (a.tmps.getD y undef)).tmps.getD k undef)).tmps.size = S.length := by
    rw [← F2.len]; simp [putS]
  have e4 := e3 _ hsz
  have F4 := F3.put (dst := some d4) (v := B false) (cv := .bool false) rfl (.bool false)
  have hex2 : ∀ (b : Act), b.tmps.getD d3 undef = .bool true → (execOp b.eval ⟨some d4, .unOp .not t5 (.tmp d3), t4, p4, a4, none⟩).run P w' = .ok (.value (.bool false)) w' := by
    intro b hb
    have e5 : b.eval (.tmp d3) = .bool true := hb
    simp [execOp, e5, Op.unary]
  show Oper.uponIn _ _ _ _ _ _ _ ((execOp (((a.put (some d1) (a.tmps.getD y undef)).put (some d2) ((a.put (some d1) (a.tmps.getD y undef)).tmps.getD k undef)).put (some d3) (.bool true)).eval ⟨some d4, .unOp .not t5 (.tmp d3), t4, p4, a4, none⟩).run P w')
  rw [hex2 _ e4, Oper.uponIn_value]
  exact ⟨.normal, ρ', β, _, H2, rfl, F4, hq⟩
/-- A frame at the head of a function without boxes. -/
theorem fr_init {ρ : Ren} {H : AHeap} {w : World} {args : List AV} {cargs : Array Value} (hs : Sim ρ H w) (hargs : LR ρ args cargs.toList) (k : Nat) :
    Fr ρ H w [] (fun _ => none) ρ (args ++ List.replicate k .junk) H { tmps := cargs ++ Array.replicate k undef, defers := [] } w := by
  have hlen : args.length = cargs.size := by simpa using hargs.1
  refine ⟨hs, Step.refl _ _ _ hs, rfl, by simp [hlen], ?_, by simp, by simp⟩
  intro i _
  have h1 : rd (args ++ List.replicate k .junk) (.s i) = if h : i < args.length then args[i] else .junk := by
    show (((args ++ List.replicate k .junk)[i]?).getD .junk) = _
    by_cases h : i < args.length
    · rw [dif_pos h, List.getElem?_append_left h, List.getElem?_eq_getElem h]; rfl
    · rw [dif_neg h, List.getElem?_append_right (by omega), List.getElem?_replicate]; split <;> rfl
  rw [h1]
  split
  · rename_i h
    have h2 : (cargs ++ Array.replicate k undef).getD i undef = cargs[i]'(by omega) := by
      rw [Array.getD_eq_getD_getElem?, Array.getElem?_append_left (by omega)]
      simp [show i < cargs.size by omega]
    rw [h2]
    exact hargs.2 i _ _ (by simp [h]) (by simp [show i < cargs.size by omega])
  · exact .junk _
/-- The contract of a function that calls yield, from its body. -/
theorem aiter_of {f : FuncId} {fn : Func} {c : Code} (hf : P.funcs[f]? = some fn) (hn : (fn.name == "runtime.NumGoroutine") = false) (hb : fn.body = some c) (hr : fn.results = #[]) {cap : List AV} {H H' : AHeap} {Yd : AV → AHeap → AHeap → Prop}
    (h : ∀ n l ρ w, Sim ρ H w → YOk P l ρ H w Yd → WC P n ρ H w c (fun e _ H1 => (e = .normal ∨ e = .ret) ∧ GC H undefA H1 undefA H') ((.yld l :: cap) ++ List.replicate (fn.ntmps - (cap.length + 1)) .junk) H) : AIter P f cap H H' Yd := by
  refine ⟨⟨fn, hf, hn, by simp [hb]⟩, fun l ρ w ccap hs hc hy n => ?_⟩
  have hlen : cap.length = ccap.size := by simpa using hc.1
  have hsz : (#[Value.func (.yield l) #[] #[]] ++ ccap).size = cap.length + 1 := by simp; omega
  refine callsIn_of_wp hf hb trivial ?_
  rw [hsz]
  have F := fr_init hs (args := .yld l :: cap) (cargs := #[Value.func (.yield l) #[] #[]] ++ ccap) (by simpa using LR.cons (.yld l) hc) (fn.ntmps - (cap.length + 1))
  refine wpIn_mono (h n l ρ w hs hy _ _ _ _ F) ?_
  rintro e a' w' ⟨me, ρ', β', S', H1, rfl, F', hend, hgc⟩
  have hres : (results fn a'.tmps).run P w' = .ok (.tuple #[]) w' := by simp [results, hr]
  obtain ⟨ρ2, _, g2, g3⟩ := hgc ρ w ρ' w' undef hs F'.sim F'.step undef_ok
  rcases hend with rfl | rfl
  · exact ⟨F'.dfr, _, hres, ⟨_, rfl⟩, ρ2, g2, g3⟩
  · exact ⟨F'.dfr, _, hres, ⟨_, rfl⟩, ρ2, g2, g3⟩
/-- What is read behind a range: a load, and the result. -/
theorem post_load {id d1 d2 x : Nat} {T t1 t2 : TypeId} {p1 p2 : String} {a1 a2 : Array Edge} {β : Nat → Option Nat} {ρ : Ren} {S : List AV} {H : AHeap} {a : Act} {w : World} (F : Fr ρ0 H0 w0 [] β ρ S H a w) {v : AV} (hld : ldA 1 false (rd S (.s x)) H = some v)
    (hs : tsize P T = some 1) (hag : tagg P T = some false) (l1 : d1 < S.length) (l2 : d2 < S.length) (ds : List Deferred) :
    (Code.region id #[⟨some d1, .load T (.tmp x), t1, p1, a1, none⟩, ⟨some d2, .assign (.tmp d1), t2, p2, a2, none⟩] false).wpIn Fence.wide n P (fun e a' w' => e = .normal ∧ w' = w ∧ a'.defers = ds ∧ VR ρ v (a'.tmps.getD d2 undef)) (Act.wd a ds) w := by
  refine wpIn_region ?_
  have hl1 : d1 < a.tmps.size := by rw [← F.len]; exact l1
  have hl2 : d2 < a.tmps.size := by rw [← F.len]; exact l2
  have hx := F.opd (x := .tmp x) (o := .s x) rfl
  have hcv : ∃ cv, (Instr.loadAt T (a.eval (.tmp x))).run P w = .ok cv w ∧ VR ρ v cv := by
    unfold ldA at hld
    split at hld
    case h_2 => cases hld
    rename_i m off hpn
    split at hld
    case h_2 => cases hld
    rename_i rw l hl
    rw [hpn] at hx
    exact ok_ld (P := P) F.sim hs hag hx hl hld
  obtain ⟨cv, hrun, hvr⟩ := hcv
  have wt : ∀ (o : Oper) (l : Nat → Option Bool), o.guard = none → Region.wanted o l = true := fun o l h => by simp [Region.wanted, h]
  simp only [List.size_toArray, List.length_cons, List.length_nil, Nat.reduceAdd, List.range, List.range.loop]
  simp only [wpOpsIn, List.getElem?_toArray, List.getElem?_cons_zero, List.getElem?_cons_succ]
  rw [if_pos (wt _ _ rfl)]
  refine ⟨fun _ _ => trivial, ?_⟩
  show Oper.uponIn _ _ _ _ _ _ _ ((execOp a.eval ⟨some d1, .load T (.tmp x), t1, p1, a1, none⟩).run P w)
  rw [show (execOp a.eval ⟨some d1, .load T (.tmp x), t1, p1, a1, none⟩).run P w = .ok (.value cv) w from run_v hrun, Oper.uponIn_value]
  simp only []
  rw [if_pos (wt _ _ rfl)]
  refine ⟨fun _ _ => trivial, ?_⟩
  show Oper.uponIn _ _ _ _ _ _ _ (.ok (.value (((Act.wd a ds).put (some d1) cv).eval (.tmp d1))) w)
  rw [Oper.uponIn_value]
  refine ⟨by first | trivial | rfl, by first | trivial | rfl, by first | trivial | rfl, ?_⟩
  have e1 : ((Act.wd a ds).put (some d1) cv).eval (.tmp d1) = cv := by
    show ((Act.wd a ds).put (some d1) cv).tmps.getD d1 undef = cv
    rw [getD_put, if_pos ⟨rfl, hl1⟩]
  rw [e1, getD_put, if_pos ⟨rfl, by simpa [Act.put, Act.wd] using hl2⟩]
  exact hvr
/-- A whole function from an abstract state on. -/
def WF (P : Program) (n : Nat) (ρ0 : Ren) (H0 : AHeap) (w0 : World) (fn : Func) (v : AV) (H' : AHeap) (c : Code) (S : List AV) (H : AHeap) : Prop :=
  ∀ β ρ a w, Fr ρ0 H0 w0 [] β ρ S H a w → c.wpIn Fence.wide n P (bodyPostM Fence.wide n P fn (fun e w' => ∃ ρ' cv, e = .returned cv ∧ VR ρ' v cv ∧ Sim ρ' H' w' ∧ Step ρ0 H0 w0 ρ' H' w')) a w
theorem WF_seq {fn : Func} {v : AV} {H' : AHeap} {x y : Code} {S : List AV} {H : AHeap} (h : WC P n ρ0 H0 w0 x (fun e S1 H1 => e = .normal ∧ WF P n ρ0 H0 w0 fn v H' y S1 H1) S H) : WF P n ρ0 H0 w0 fn v H' (.seq x y) S H := by
  intro β ρ a w F
  refine wpIn_seq (wpIn_mono (h β ρ a w F) ?_)
  rintro e a' w' ⟨me, ρ', β', S', H1, rfl, F', rfl, hq⟩
  exact hq _ _ _ _ F'
/-- What must hold where a range over a function begins, and the heap that it leaves. -/
structure RC (P : Program) (og : Opd) (p : Nat) (ma mb : MCode) (S : List AV) (H H2 : AHeap) : Prop where
  ex : ∃ gf cap, rd S og = .fn gf cap ∧ AIter P gf cap H H2 (fun x H1 H2 => AW P ma (MX.then (AW P mb (fun e _ H' => e = .normal ∧ H' = H2)) (fun _ _ _ => False)) (S.set p x) H1)
theorem WF_range (hm : P.follows .mixedOrders = true) {fn : Func} {v : AV} {H' : AHeap} {R1 as bd : Code} {b p id d1 d2 x : Nat} {g : Operand} {og : Opd} {T t1 t2 : TypeId} {p1 p2 : String} {a1 a2 : Array Edge} {ma mb : MCode}
    (hres : fn.results = #[.tmp d2]) (hg : trOpd [] g = some og) (hta : trC P [] [] as = some ma) (htb : trC P [] [] bd = some mb) (oka : okR as = true) (okb : okR bd = true) (n2a : no2 ma = true) (n2b : no2 mb = true) (hs : tsize P T = some 1) (hag : tagg P T = some false)
    {S : List AV} {H : AHeap} (h : WC P n ρ0 H0 w0 R1 (fun e S1 H1 => e = .normal ∧ d1 < S1.length ∧ d2 < S1.length ∧ ∃ H2 v1, RC P og p ma mb S1 H1 H2 ∧ ldA 1 false (rd S1 (.s x)) H2 = some v1 ∧ GC H0 v1 H2 v H') S H)
    (hs0 : ∃ ρ', Sim ρ0 H0 w0 ∧ ρ' = ρ0) :
    WF P n ρ0 H0 w0 fn v H' (.seq (.seq R1 (.block b (.rangeFunc g #[p] as bd))) (.seq (.region id #[⟨some d1, .load T (.tmp x), t1, p1, a1, none⟩, ⟨some d2, .assign (.tmp d1), t2, p2, a2, none⟩] false) .ret)) S H := by
  intro β ρ a w F
  refine wpIn_seq (wpIn_seq (wpIn_mono (h β ρ a w F) ?_))
  rintro e a' w' ⟨me, ρ', β', S1, H1, rfl, F', rfl, l1, l2, H2, v1, ⟨gf, cap, hgv, hit⟩, hld, hgc⟩
  refine wpIn_block (wpIn_mono (range_sound hm F' hg hgv hta htb oka okb n2a n2b (fun _ _ _ h => h) hit) ?_)
  rintro e a2' w2 ⟨rfl, D, ρ2, rfl, F2, hD1, hD2, unD, hD⟩
  refine wpIn_seq (wpIn_mono (post_load F2 hld hs hag l1 l2 _) ?_)
  rintro e a3 w3 ⟨rfl, rfl, hds, hv3⟩
  refine wpIn_ret ?_
  show LeavesInM Fence.wide n P fn a3.tmps _ a3.defers .returning w3
  rw [hds]
  refine ⟨by simp, .inl ⟨D, _, rfl, run_takeDeferred hD, ?_⟩⟩
  refine ⟨_, results_tmp hres _ _ _, ?_⟩
  obtain ⟨_, hs0, _⟩ := hs0
  have sp := F2.sim.put unD (.deferred none)
  have st := F2.step.putNew hD1 (.deferred none)
  obtain ⟨ρ4, g1, g2, g3⟩ := hgc ρ0 w0 ρ2 _ _ hs0 sp st hv3
  exact ⟨ρ4, _, rfl, g1, g2, g3⟩
theorem acalls_wf {f : FuncId} {fn : Func} {c : Code} (hf : P.funcs[f]? = some fn) (hn : (fn.name == "runtime.NumGoroutine") = false) (hb : fn.body = some c) {args : List AV} {H H' : AHeap} {v : AV}
    (h : ∀ n ρ w, Sim ρ H w → WF P n ρ H w fn v H' c (args ++ List.replicate (fn.ntmps - args.length) .junk) H) : ACalls P f args H v H' := by
  refine ⟨⟨fn, hf, hn, by simp [hb]⟩, fun ρ w cargs hs hargs => ?_⟩
  have hlen : args.length = cargs.size := by simpa using hargs.1
  refine (callsIn_wide (n := 0)).1 (callsIn_of_wp_marks hf hb trivial ?_)
  have F := fr_init hs hargs (fn.ntmps - args.length)
  rw [hlen] at F
  exact h 0 ρ w hs _ _ _ _ (by rw [hlen]; exact F)
end
end Go.Eng

namespace Go.Eng
open Go
section
variable {P : Program}
/-- What yield does, abstractly: it always goes on. -/
def YOk2 (P : Program) (l : Nat) (ρ0 : Ren) (H0 : AHeap) (w0 : World) (Yd : AV → AV → AHeap → AHeap → Prop) : Prop :=
  ∀ x y H1 H2, Yd x y H1 H2 → ∀ ρ w cx cy, Sim ρ H1 w → Step ρ0 H0 w0 ρ H1 w → VR ρ x cx → VR ρ y cy → ∀ n, YieldAt Fence.wide n P l #[cx, cy] w (fun e w' => e = .returned (.bool true) ∧ ∃ ρ', Sim ρ' H2 w' ∧ Step ρ H1 w ρ' H2 w')
/-- The contract of a function that calls yield. -/
def AIter2 (P : Program) (gf : FuncId) (cap : List AV) (H H' : AHeap) (Yd : AV → AV → AHeap → AHeap → Prop) : Prop :=
  (∃ fn, P.funcs[gf]? = some fn ∧ (fn.name == "runtime.NumGoroutine") = false ∧ fn.body.isNone = false) ∧
  ∀ l ρ w (ccap : Array Value), Sim ρ H w → LR ρ cap ccap.toList → YOk2 P l ρ H w Yd → ∀ n, CallsIn Fence.wide n P gf (#[.func (.yield l) #[] #[]] ++ ccap) w (fun e w' => (∃ v, e = .returned v) ∧ ∃ ρ', Sim ρ' H' w' ∧ Step ρ H w ρ' H' w')
section
variable {ρ0 : Ren} {H0 : AHeap} {w0 : World} {β : Nat → Option Nat} {ρ : Ren} {S : List AV} {H : AHeap} {a : Act} {w : World}
theorem Fr.base_put2 (F : Fr ρ0 H0 w0 [] β ρ S H a w) {ρ' : Ren} {H' : AHeap} {w' : World} (hsub : Sub ρ ρ') (hs : Sim ρ' H' w') (p q : Nat) {x y : AV} {cx cy : Value} (hx : VR ρ' x cx) (hy : VR ρ' y cy) : Fr ρ' H' w' [] (fun _ => none) ρ' ((S.set p x).set q y) H' { tmps := (a.tmps.setIfInBounds p cx).setIfInBounds q cy, defers := [] } w' := by
  have h := (F.base_put hsub hs p hx).put (dst := some q) (v := y) (cv := cy) rfl hy
  exact ⟨h.sim, h.step, rfl, h.len, h.slots, h.boxes, h.priv⟩
theorem range_sound2 {n : Nat} {cs : List Nat} (hm : P.follows .mixedOrders = true) {g : Operand} {og : Opd} {p q : Nat} {as bd : Code} {ma mb : MCode} (F : Fr ρ0 H0 w0 [] β ρ S H a w) (hg : trOpd [] g = some og) {gf : FuncId} {cap : List AV} (hgv : rd S og = .fn gf cap)
    (hta : trC P [] cs as = some ma) (htb : trC P [] cs bd = some mb) (oka : okR as = true) (okb : okR bd = true) (n2a : no2 ma = true) (n2b : no2 mb = true) {Yd : AV → AV → AHeap → AHeap → Prop}
    (hY : ∀ x y H1 H2, Yd x y H1 H2 → AW P ma (MX.then (AW P mb (fun e _ H' => e = .normal ∧ H' = H2)) (fun _ _ _ => False)) ((S.set p x).set q y) H1) {H' : AHeap} (hit : AIter2 P gf cap H H' Yd) :
    (Code.rangeFunc g #[p, q] as bd).wpIn Fence.wide n P (AfterR ρ0 H0 w0 β S H' a) a w := by
  obtain ⟨hfn, hit⟩ := hit
  have hv := F.opd hg
  rw [hgv] at hv
  generalize hec : a.eval g = cv at hv
  cases hv with
  | fn _ _ lb hl1 hl2 =>
  refine wpIn_rangeFunc (fun fn _ => ?_)
  obtain ⟨rec, hrec⟩ : ∃ rec : LoopState → Option Code → Loop, rec = fun st pe => { state := st, pending := pe, fn, tmps := a.tmps, params := #[p, q], assign := as, body := bd, defers := w.heap.size } := ⟨_, rfl⟩
  obtain ⟨W1, hW1⟩ : ∃ W1, (w.alloc (.deferred (some []))).alloc (.loop (rec .ready none)) = W1 := ⟨_, rfl⟩
  have hsz : W1.heap.size = w.heap.size + 2 := by rw [← hW1]; simp
  have hL1 : W1.heap[w.heap.size + 1]? = some (.loop (rec .ready none)) := by
    rw [← hW1]; have := World.alloc_heap_new (w.alloc (.deferred (some []))) (.loop (rec .ready none)); rwa [World.size_alloc] at this
  have hK1 : W1.heap[w.heap.size]? = some (.deferred (some [])) := by
    rw [← hW1, heap_alloc_lt _ _ (by simp)]; exact heap_alloc_at w _
  have hs1 : Sim ρ H W1 := by rw [← hW1]; exact (F.sim.allocBox _).allocBox _
  have st1 : Step ρ H w ρ H W1 := by
    rw [← hW1]
    exact (Step.allocBox F.sim _).trans (Step.allocBox (F.sim.allocBox _) _)
  have F1 := F.go hs1 st1
  have hw0 : w0.heap.size ≤ w.heap.size := F.step.size
  have unD : ∀ n L, ρ n = some L → L.b ≠ w.heap.size := fun n L e => by have := (F.sim.dom n L e).2; omega
  have unL : ∀ n L, ρ n = some L → L.b ≠ w.heap.size + 1 := fun n L e => by have := (F.sim.dom n L e).2; omega
  refine ⟨w.heap.size + 1, [{ target := .collected w.heap.size, args := #[] }], W1, { target := .fn (.func gf) lb, args := #[.func (.yield (w.heap.size + 1)) #[] #[]] }, W1, gf,
    #[.func (.yield (w.heap.size + 1)) #[] #[]] ++ lb, W1, ?_, ?_, fun _ _ => trivial, ?_, fun e => by simp [Fence.wide] at e, ?_⟩
  · rw [← hW1, hrec]; exact run_enterLoop_outer _ _ _ _ _
  · simp only [resolve, hec]
    simp [go_sem]
  · rw [← run_callFunc (P := P) (w := W1) hfn]
    rfl
  have hYo : YOk2 P (w.heap.size + 1) ρ H W1 Yd := by
    intro x y H1 H2 hyd ρ1 w1 cx cy s1 sp hx hy0 k
    have hsub : Sub ρ ρ1 := sp.sub hs1
    have hl1' : w1.heap[w.heap.size + 1]? = some (.loop (rec .ready none)) := (sp.keep _ (by omega) (not_own unL)).trans hL1
    have hlt1 : w.heap.size + 1 < w1.heap.size := (Array.getElem?_eq_some_iff.1 hl1').1
    have un1 : ∀ n L, ρ1 n = some L → L.b ≠ w.heap.size + 1 := sp.unnamed (by omega) unL
    have hy : (Instr.yield (w.heap.size + 1) #[cx, cy]).run P w1 = .ok (.round (w.heap.size + 1) fn ((a.tmps.setIfInBounds p cx).setIfInBounds q cy) as bd) w1 := by
      have := run_yield (P := P) (args := #[cx, cy]) hl1' (by rw [hrec]; rfl)
      rw [hrec] at this
      simpa using this
    refine ⟨fn, _, as, bd, hy, roundIn_of_wpIn trivial ?_⟩
    have Fa := F1.base_put2 hsub s1 p q hx hy0
    refine wpIn_mono (code_rnd hm as oka hta n2a Fa (hY x y H1 H2 hyd)) ?_
    rintro e a2 w2 ⟨me, ρ2, β2, S2, H3, rfl, F2, hq⟩
    cases me with
    | exit id => exact hq.elim
    | ret => exact hq.elim
    | normal =>
      have hl2' : w2.heap[w.heap.size + 1]? = some (.loop (rec .ready none)) := (F2.step.keep _ hlt1 (not_own un1)).trans hl1'
      have hlt2 : w.heap.size + 1 < w2.heap.size := (Array.getElem?_eq_some_iff.1 hl2').1
      have un2 : ∀ n L, ρ2 n = some L → L.b ≠ w.heap.size + 1 := F2.step.unnamed hlt1 un1
      refine ⟨_, run_beginRound hl2' (by rw [hrec]), ?_⟩
      obtain ⟨ob, hob⟩ : ∃ ob, ob = Obj.loop { rec .ready none with state := .busy } := ⟨_, rfl⟩
      rw [← hob]
      have Fb := F2.base (Sub.refl _) (F2.sim.put un2 ob)
      refine wpIn_mono (code_rnd hm bd okb htb n2b Fb hq) ?_
      rintro e a4 w4 ⟨me, ρ4, β4, S4, H4, rfl, F4, rfl, rfl⟩
      have hlb : (w2.putObj (w.heap.size + 1) ob).heap[w.heap.size + 1]? = some ob := World.putObj_heap_same hlt2
      have hl4 : w4.heap[w.heap.size + 1]? = some ob := (F4.step.keep _ (by rw [World.putObj_size]; exact hlt2) (not_own un2)).trans hlb
      rw [hob] at hl4
      have hend := run_endRound (P := P) none hl4
      refine ⟨_, _, hend, rfl, ρ4, ?_, ?_⟩
      · exact F4.sim.put (F4.step.unnamed (by rw [World.putObj_size]; exact hlt2) un2) _
      · have := F2.step.round (o := .loop (rec .ready none)) (ob := ob) hl1' (not_own un1) F4.step
        have e1 : ({ { rec .ready none with state := .busy } with state := if (none : Option Code).isNone = true then .ready else .done, pending := none } : Loop) = rec .ready none := by rw [hrec]; rfl
        rw [e1]
        exact this
  refine (hit (w.heap.size + 1) ρ W1 lb hs1 ⟨by simpa using hl1, fun i x v hx hv => hl2 i x v hx (by simpa using hv)⟩ hYo _).mono ?_
  rintro e w' ⟨⟨v, rfl⟩, ρ', s', st'⟩
  have hl' : w'.heap[w.heap.size + 1]? = some (.loop (rec .ready none)) := (st'.keep _ (by omega) (not_own unL)).trans hL1
  have hD' : w'.heap[w.heap.size]? = some (.deferred (some [])) := (st'.keep _ (by omega) (not_own unD)).trans hK1
  have hlt' : w.heap.size + 1 < w'.heap.size := (Array.getElem?_eq_some_iff.1 hl').1
  have unL' := st'.unnamed (by omega : w.heap.size + 1 < W1.heap.size) unL
  have unD' := st'.unnamed (by omega : w.heap.size < W1.heap.size) unD
  have F' := F1.go s' st'
  have hend := run_endLoop (P := P) hl' (by rw [hrec]; simp)
  have hpend : (rec .ready none).pending = none := by rw [hrec]
  rw [hpend] at hend
  refine ⟨none, _, hend, rfl, w.heap.size, ρ', ?_, ?_, hw0, ?_, unD', ?_⟩
  · show ({ a with defers := [{ target := .collected w.heap.size, args := #[] }] ++ a.defers } : Act) = _
    rw [F.dfr]
    rfl
  · exact ⟨s'.put unL' _, F'.step.putNew (by omega) _, F'.dfr, F'.len, F'.slots, by simp, fun d b hb => by
      obtain ⟨h1, h2, h3, h4⟩ := F'.priv d b hb
      exact ⟨h1, by rw [World.putObj_size]; exact h2, h3, h4⟩⟩
  · rw [World.putObj_size]; omega
  · rw [World.putObj_heap_other (by omega)]; exact hD'
end
section
variable {n : Nat}
theorem rows_wd {row : String} {args : Array Value} {w : World} {R : Value → World → Prop} (h : Rows P row args w R) : RowsIn Fence.wide n P row args w R := by
  intro c cs _
  obtain ⟨v, w', h1, h2⟩ := h c cs
  exact ⟨v, w', h1, (stepsIn_wide.2 h2 : StepsIn (Machine.fenced P Fence.wide) P _ _)⟩
theorem oper_pre {o : Oper} (hd : ∀ c, o.op ≠ .defer c) {Q1 Q : Exit → Act → World → Prop} (hQ1 : ∀ e a w, Q1 e a w → e = .normal) {K K' : Act → World → Prop} (hK : ∀ a w, K a w → K' a w) {a : Act} {w : World} (h : o.wp P a w K Q1) : o.wpIn Fence.wide n P a w K' Q := by
  refine ⟨fun _ _ => trivial, ?_⟩
  rw [Oper.semAt_eq _ _ _ hd]
  unfold Oper.wp at h
  generalize (execOp a.eval o).run P w = r at *
  cases r with
  | ok x w' =>
    cases x <;> simp only [Oper.upon, Oper.uponIn] at h ⊢ <;>
      first
        | exact hK _ _ h
        | exact h.elim
        | exact ⟨fun e => by simp [Fence.wide] at e, CallsIn.mono (callsIn_wide.2 h) (fun e w'' he => by
            cases e
            · exact hK _ _ he
            · cases hQ1 _ _ _ he
            · obtain ⟨_, _, he⟩ := he; cases hQ1 _ _ _ he)⟩
        | exact ⟨fun e => by simp [Fence.wide] at e, RowsIn.mono (rows_wd h) (fun _ _ he => hK _ _ he)⟩
  | halt x w' => cases x <;> simp only [Oper.upon, Oper.uponIn] at h ⊢ <;> first | exact h.elim | (cases hQ1 _ _ _ h)
theorem ops_pre {ops all : List Oper} (hd : noDef ops = true) (hg : ops.all (fun o => o.guard.isNone) = true) {Q1 Q : Exit → Act → World → Prop} (hQ1 : ∀ e a w, Q1 e a w → e = .normal) {K' : Act → World → Prop} {L2 : List Nat} (hK : ∀ a w, Q1 .normal a w → wpOpsIn Fence.wide n P all.toArray Q L2 a w) :
    ∀ (L : List Nat), (∀ i ∈ L, i < ops.length ∧ all[i]? = ops[i]?) → ∀ {a : Act} {w : World}, wpOps P ops.toArray Q1 L a w → wpOpsIn Fence.wide n P all.toArray Q (L ++ L2) a w
  | [], _, a, w, h => hK a w h
  | i :: r, hi, a, w, h => by
    rw [wpOps_cons] at h
    show wpOpsIn Fence.wide n P all.toArray Q (i :: (r ++ L2)) a w
    rw [wpOpsIn_cons]
    obtain ⟨h1, h2⟩ := hi i (by simp)
    have ho : ops[i]? = some ops[i] := List.getElem?_eq_getElem h1
    have hgn : ops[i].guard = none := by
      have := List.all_eq_true.1 hg ops[i] (List.getElem_mem h1)
      simpa using this
    have wt : ∀ (l : Nat → Option Bool), Region.wanted ops[i] l = true := fun l => by simp [Region.wanted, hgn]
    unfold wpOp at h
    unfold wpOpIn
    have e1 : ops.toArray[i]? = some ops[i] := by rw [List.getElem?_toArray]; exact ho
    have e2 : all.toArray[i]? = some ops[i] := by simpa using h2.trans ho
    rw [e1] at h
    rw [e2]
    simp only [wt, if_true] at h ⊢
    rcases h with h | h
    · exact oper_pre (noDef_at hd e1) hQ1 (fun a w h => ops_pre hd hg hQ1 (K' := K') hK r (fun j hj => hi j (by simp [hj])) h) h
    · obtain ⟨_, _, he⟩ := h.2
      cases hQ1 _ _ _ he
/-- The region that calls yield with two values, at its end: it goes on. -/
theorem WC_yield2 {ρ0 : Ren} {H0 : AHeap} {w0 : World} {id d3 d4 y k v kk : Nat} {t3 t4 t5 : TypeId} {p3 p4 : String} {a3 a4 : Array Edge} {ts : Array TypeId} {l : Nat} {Yd : AV → AV → AHeap → AHeap → Prop} (hy : YOk2 P l ρ0 H0 w0 Yd) {ops : List Oper} {m : List MOp}
    (hm : trRegion P [] (ops.take kk) false = some m) (hd : noDef (ops.take kk) = true) (hg : (ops.take kk).all (fun o => o.guard.isNone) = true)
    (he : ops.drop kk = [⟨some d3, .call { callee := .value (.tmp y), args := #[.tmp k, .tmp v], argTypes := ts }, t3, p3, a3, none⟩, ⟨some d4, .unOp .not t5 (.tmp d3), t4, p4, a4, none⟩]) {S : List AV} {H : AHeap} {Q : Post}
    (hA : AW P (.ops m) (fun _ S1 H1 => rd S1 (.s y) = .yld l ∧ d3 < S1.length ∧ ∃ H2, Yd (rd S1 (.s k)) (rd S1 (.s v)) H1 H2 ∧ Q .normal ((S1.set d3 (B true)).set d4 (B false)) H2) S H) :
    WC P n ρ0 H0 w0 (.region id ops.toArray false) Q S H := by
  intro β ρ a w F
  obtain ⟨R, hedge, hind⟩ := region_facts hm
  have hkk : (ops.take kk).length + 2 = ops.length := by
    have := congrArg List.length he
    have h2 := List.length_take (i := kk) (l := ops)
    simp at this
    omega
  have hk2 : (ops.take kk).length = kk := by
    rw [List.length_take]
    have := congrArg List.length he
    simp at this
    omega
  refine wpIn_region ?_
  rw [List.size_toArray, ← hkk, List.range_eq_range', show List.range' 0 ((ops.take kk).length + 2) = List.range' 0 (ops.take kk).length ++ [kk, kk + 1] from by rw [hk2, ← List.range'_append_1]; simp [List.range'_succ]]
  have g0 : ops[kk]? = some ⟨some d3, .call { callee := .value (.tmp y), args := #[.tmp k, .tmp v], argTypes := ts }, t3, p3, a3, none⟩ := by
    have := congrArg (fun l => l[0]?) he
    simpa [List.getElem?_drop] using this
  have g1 : ops[kk + 1]? = some ⟨some d4, .unOp .not t5 (.tmp d3), t4, p4, a4, none⟩ := by
    have := congrArg (fun l => l[1]?) he
    simpa [List.getElem?_drop] using this
  refine ops_pre (n := n) (all := ops) hd hg (Q1 := fun e a' w' => e = .normal ∧ wpOpsIn Fence.wide n P ops.toArray (Conc ρ0 H0 w0 [] Q) [kk, kk + 1] a' w') (fun e _ _ h => h.1) (K' := fun _ _ => True) (fun a' w' h => h.2) _ (fun i hi => by
    have : i < (ops.take kk).length := by simpa using hi
    refine ⟨this, ?_⟩
    rw [List.getElem?_take, if_pos (by omega)]) ?_
  have R' : RegionOk P [] (ops.take kk) false (envOf P [] (ops.take kk) 0 []) m (fun i j => decide (j < i)) := by
    have e : prec false (masks (ops.take kk) []) = fun i j => decide (j < i) := by funext i j; simp [prec]
    rw [← e]; exact R
  refine region_text R' (Q := fun S1 H1 => rd S1 (.s y) = .yld l ∧ d3 < S1.length ∧ ∃ H2, Yd (rd S1 (.s k)) (rd S1 (.s v)) H1 H2 ∧ Q .normal ((S1.set d3 (B true)).set d4 (B false)) H2) ?_ (ops.take kk).length 0 (by simp) F (fun e _ hj => by simp at hj) hA
  rintro ρ1 β1 S1 H1 a1 w1 F1 ⟨hs, l3, H2, hYd, hq⟩
  refine ⟨rfl, ?_⟩
  have vy := F1.slots y (by simp)
  rw [hs] at vy
  generalize hyv : a1.tmps.getD y undef = cy at vy
  cases vy
  obtain ⟨fn, tmps, as, bd, hrun, hR⟩ := hy _ _ _ _ hYd ρ1 w1 _ _ F1.sim F1.step (F1.slots k (by simp)) (F1.slots v (by simp)) (n - 1)
  have wt : ∀ (o : Oper) (l : Nat → Option Bool), o.guard = none → Region.wanted o l = true := fun o l h => by simp [Region.wanted, h]
  have e0 : ops.toArray[kk]? = some ⟨some d3, .call { callee := .value (.tmp y), args := #[.tmp k, .tmp v], argTypes := ts }, t3, p3, a3, none⟩ := by simpa using g0
  have e00 : ops.toArray[kk + 1]? = some ⟨some d4, .unOp .not t5 (.tmp d3), t4, p4, a4, none⟩ := by simpa using g1
  rw [wpOpsIn_cons]
  unfold wpOpIn
  rw [e0]
  simp only []
  rw [if_pos (wt _ _ rfl)]
  refine ⟨fun _ _ => trivial, ?_⟩
  have hex : (execOp a1.eval ⟨some d3, .call { callee := .value (.tmp y), args := #[.tmp k, .tmp v], argTypes := ts }, t3, p3, a3, none⟩).run P w1 = (Instr.yield l #[a1.tmps.getD k undef, a1.tmps.getD v undef]).run P w1 := by
    have e2 : a1.eval (.tmp y) = .func (.yield l) #[] #[] := hyv
    have e3 : a1.eval (.tmp k) = a1.tmps.getD k undef := rfl
    have e4 : a1.eval (.tmp v) = a1.tmps.getD v undef := rfl
    simp only [execOp, resolve, e2, Sem.run_bind, Deferred.ofValue, invoke, e3, e4, List.map_toArray, List.map_cons, List.map_nil, Sem.run_pure, Result.andThen_ok]
    simp
  show Oper.uponIn _ _ _ _ _ _ _ ((execOp a1.eval ⟨some d3, .call { callee := .value (.tmp y), args := #[.tmp k, .tmp v], argTypes := ts }, t3, p3, a3, none⟩).run P w1)
  rw [hex.trans hrun, Oper.uponIn_round]
  refine ⟨fun e => by simp [Fence.wide] at e, hR.mono ?_⟩
  rintro e w' ⟨rfl, ρ', hs', st'⟩
  have F3 := (F1.go hs' st').put (dst := some d3) (v := B true) (cv := .bool true) rfl (.bool true)
  simp only []
  rw [wpOpsIn_cons]
  unfold wpOpIn
  rw [e00]
  simp only []
  rw [if_pos (wt _ _ rfl)]
  refine ⟨fun _ _ => trivial, ?_⟩
  have e3 : ∀ (b : Act), b.tmps.size = S1.length → (b.put (some d3) (.bool true)).tmps.getD d3 undef = .bool true := fun b hb => by
    rw [getD_put, if_pos ⟨rfl, by rw [hb]; exact l3⟩]
  have e4 := e3 _ F1.len.symm
  have F4 := F3.put (dst := some d4) (v := B false) (cv := .bool false) rfl (.bool false)
  have hex2 : ∀ (b : Act), b.tmps.getD d3 undef = .bool true → (execOp b.eval ⟨some d4, .unOp .not t5 (.tmp d3), t4, p4, a4, none⟩).run P w' = .ok (.value (.bool false)) w' := by
    intro b hb
    have e5 : b.eval (.tmp d3) = .bool true := hb
    simp [execOp, e5, Op.unary]
  show Oper.uponIn _ _ _ _ _ _ _ ((execOp (a1.put (some d3) (.bool true)).eval ⟨some d4, .unOp .not t5 (.tmp d3), t4, p4, a4, none⟩).run P w')
  rw [hex2 _ e4, Oper.uponIn_value]
  exact ⟨.normal, ρ', β1, _, H2, rfl, F4, hq⟩
end
/-- The contract of a function that calls yield, from its body. -/
theorem aiter_of2 {f : FuncId} {fn : Func} {c : Code} (hf : P.funcs[f]? = some fn) (hn : (fn.name == "runtime.NumGoroutine") = false) (hb : fn.body = some c) (hr : fn.results = #[]) {cap : List AV} {H H' : AHeap} {Yd : AV → AV → AHeap → AHeap → Prop}
    (h : ∀ n l ρ w, Sim ρ H w → YOk2 P l ρ H w Yd → WC P n ρ H w c (fun e _ H1 => (e = .normal ∨ e = .ret) ∧ GC H undefA H1 undefA H') ((.yld l :: cap) ++ List.replicate (fn.ntmps - (cap.length + 1)) .junk) H) : AIter2 P f cap H H' Yd := by
  refine ⟨⟨fn, hf, hn, by simp [hb]⟩, fun l ρ w ccap hs hc hy n => ?_⟩
  have hlen : cap.length = ccap.size := by simpa using hc.1
  have hsz : (#[Value.func (.yield l) #[] #[]] ++ ccap).size = cap.length + 1 := by simp; omega
  refine callsIn_of_wp hf hb trivial ?_
  rw [hsz]
  have F := fr_init hs (args := .yld l :: cap) (cargs := #[Value.func (.yield l) #[] #[]] ++ ccap) (by simpa using LR.cons (.yld l) hc) (fn.ntmps - (cap.length + 1))
  refine wpIn_mono (h n l ρ w hs hy _ _ _ _ F) ?_
  rintro e a' w' ⟨me, ρ', β', S', H1, rfl, F', hend, hgc⟩
  have hres : (results fn a'.tmps).run P w' = .ok (.tuple #[]) w' := by simp [results, hr]
  obtain ⟨ρ2, _, g2, g3⟩ := hgc ρ w ρ' w' undef hs F'.sim F'.step undef_ok
  rcases hend with rfl | rfl
  · exact ⟨F'.dfr, _, hres, ⟨_, rfl⟩, ρ2, g2, g3⟩
  · exact ⟨F'.dfr, _, hres, ⟨_, rfl⟩, ρ2, g2, g3⟩
section
variable {n : Nat} {ρ0 : Ren} {H0 : AHeap} {w0 : World}
/-- What is read behind a range: a load, and the result. -/
theorem post_load2 {id d1 d2 d3 x : Nat} {c3 : Int} {T t1 t2 t3 : TypeId} {p1 p2 p3 : String} {a1 a2 a3 : Array Edge} {β : Nat → Option Nat} {ρ : Ren} {S : List AV} {H : AHeap} {a : Act} {w : World} (F : Fr ρ0 H0 w0 [] β ρ S H a w) {v : AV} (hld : ldA 1 false (rd S (.s x)) H = some v)
    (hs : tsize P T = some 1) (hag : tagg P T = some false) (l1 : d1 < S.length) (l2 : d2 < S.length) (l3 : d3 < S.length) (h12 : d2 ≠ d3) (ds : List Deferred) :
    (Code.region id #[⟨some d1, .load T (.tmp x), t1, p1, a1, none⟩, ⟨some d2, .assign (.tmp d1), t2, p2, a2, none⟩, ⟨some d3, .assign (.const (.int .i64 c3)), t3, p3, a3, none⟩] false).wpIn Fence.wide n P (fun e a' w' => e = .normal ∧ w' = w ∧ a'.defers = ds ∧ VR ρ v (a'.tmps.getD d2 undef) ∧ VR ρ (.int .i64 c3) (a'.tmps.getD d3 undef)) (Act.wd a ds) w := by
  refine wpIn_region ?_
  have hl1 : d1 < a.tmps.size := by rw [← F.len]; exact l1
  have hl2 : d2 < a.tmps.size := by rw [← F.len]; exact l2
  have hl3 : d3 < a.tmps.size := by rw [← F.len]; exact l3
  have hx := F.opd (x := .tmp x) (o := .s x) rfl
  have hcv : ∃ cv, (Instr.loadAt T (a.eval (.tmp x))).run P w = .ok cv w ∧ VR ρ v cv := by
    unfold ldA at hld
    split at hld
    case h_2 => cases hld
    rename_i m off hpn
    split at hld
    case h_2 => cases hld
    rename_i rw l hl
    rw [hpn] at hx
    exact ok_ld (P := P) F.sim hs hag hx hl hld
  obtain ⟨cv, hrun, hvr⟩ := hcv
  have wt : ∀ (o : Oper) (l : Nat → Option Bool), o.guard = none → Region.wanted o l = true := fun o l h => by simp [Region.wanted, h]
  simp only [List.size_toArray, List.length_cons, List.length_nil, Nat.reduceAdd, List.range, List.range.loop]
  simp only [wpOpsIn, List.getElem?_toArray, List.getElem?_cons_zero, List.getElem?_cons_succ]
  rw [if_pos (wt _ _ rfl)]
  refine ⟨fun _ _ => trivial, ?_⟩
  show Oper.uponIn _ _ _ _ _ _ _ ((execOp a.eval ⟨some d1, .load T (.tmp x), t1, p1, a1, none⟩).run P w)
  rw [show (execOp a.eval ⟨some d1, .load T (.tmp x), t1, p1, a1, none⟩).run P w = .ok (.value cv) w from run_v hrun, Oper.uponIn_value]
  simp only []
  rw [if_pos (wt _ _ rfl)]
  refine ⟨fun _ _ => trivial, ?_⟩
  show Oper.uponIn _ _ _ _ _ _ _ (.ok (.value (((Act.wd a ds).put (some d1) cv).eval (.tmp d1))) w)
  rw [Oper.uponIn_value]
  simp only []
  rw [if_pos (wt _ _ rfl)]
  refine ⟨fun _ _ => trivial, ?_⟩
  show Oper.uponIn _ _ _ _ _ _ _ (.ok (.value (.int .i64 c3)) w)
  rw [Oper.uponIn_value]
  have e1 : ((Act.wd a ds).put (some d1) cv).eval (.tmp d1) = cv := by
    show ((Act.wd a ds).put (some d1) cv).tmps.getD d1 undef = cv
    rw [getD_put, if_pos ⟨rfl, hl1⟩]
  refine ⟨by first | trivial | rfl, by first | trivial | rfl, by first | trivial | rfl, ?_, ?_⟩
  · rw [e1, getD_put, if_neg (by rintro ⟨h, _⟩; exact h12 (by simpa using h.symm)), getD_put, if_pos ⟨rfl, by simpa [Act.put, Act.wd] using hl2⟩]
    exact hvr
  · rw [getD_put, if_pos ⟨rfl, by simpa [Act.put, Act.wd] using hl3⟩]
    exact .int _ _
end
section
variable {n : Nat} {ρ0 : Ren} {H0 : AHeap} {w0 : World}
def Pst (P : Program) (n : Nat) (fn : Func) (R : Ending → World → Prop) : List Code → Exit → Act → World → Prop
  | [], e, a, w => bodyPostM Fence.wide n P fn R e a w
  | k :: ks, .normal, a, w => k.wpIn Fence.wide n P (Pst P n fn R ks) a w
  | _ :: ks, e, a, w => Pst P n fn R ks e a w
theorem Pst_ret {fn : Func} {R : Ending → World → Prop} {a : Act} {w : World} : ∀ (ks : List Code), bodyPostM Fence.wide n P fn R .ret a w → Pst P n fn R ks .ret a w
  | [], h => h
  | _ :: ks, h => Pst_ret ks h
/-- The results of a function with two results. -/
def EndV (ρ0 : Ren) (H0 : AHeap) (w0 : World) (v : AV) (H' : AHeap) : Ending → World → Prop := fun e w' => ∃ ρ' cv, e = .returned cv ∧ VR ρ' v cv ∧ Sim ρ' H' w' ∧ Step ρ0 H0 w0 ρ' H' w'
/-- From an abstract state on: this code, and then those. -/
def WS (P : Program) (n : Nat) (ρ0 : Ren) (H0 : AHeap) (w0 : World) (fn : Func) (v : AV) (H' : AHeap) (c : Code) (ks : List Code) (S : List AV) (H : AHeap) : Prop :=
  ∀ β ρ a w, Fr ρ0 H0 w0 [] β ρ S H a w → c.wpIn Fence.wide n P (Pst P n fn (EndV ρ0 H0 w0 v H') ks) a w
theorem WS_seq {fn : Func} {v : AV} {H' : AHeap} {x y : Code} {ks : List Code} {S : List AV} {H : AHeap} (h : WS P n ρ0 H0 w0 fn v H' x (y :: ks) S H) : WS P n ρ0 H0 w0 fn v H' (.seq x y) ks S H := by
  intro β ρ a w F
  refine wpIn_seq (wpIn_mono (h β ρ a w F) ?_)
  intro e a' w' hq
  cases e <;> exact hq
theorem WS_forget {fn : Func} {v : AV} {H' : AHeap} {x : Code} {ks : List Code} {S S0 : List AV} {H : AHeap} (hf : Forget S S0) (h : WS P n ρ0 H0 w0 fn v H' x ks S0 H) : WS P n ρ0 H0 w0 fn v H' x ks S H :=
  fun β ρ a w F => h β ρ a w (F.forget hf)
theorem WS_pure (hm : P.follows .mixedOrders = true) {fn : Func} {v : AV} {H' : AHeap} {c : Code} {m : MCode} (h : trC P [] [] c = some m) {r1 r2 : Nat} (hres : fn.results = #[.tmp r1, .tmp r2]) (hs0 : Sim ρ0 H0 w0) {y : Code} {ks : List Code} {S : List AV} {H : AHeap}
    (hA : AW P m (fun e S1 H1 => (e = .normal ∧ WS P n ρ0 H0 w0 fn v H' y ks S1 H1) ∨ (e = .ret ∧ GC H0 (.tuple [rd S1 (.s r1), rd S1 (.s r2)]) H1 v H')) S H) : WS P n ρ0 H0 w0 fn v H' c (y :: ks) S H := by
  intro β ρ a w F
  refine wpIn_mono (wpIn_wide.2 (code_sound hm c h F hA)) ?_
  rintro e a' w' ⟨me, ρ', β', S', H1, rfl, F', h | h⟩
  · obtain ⟨rfl, h⟩ := h
    exact h _ _ _ _ F'
  · obtain ⟨rfl, hgc⟩ := h
    refine Pst_ret (y :: ks) ?_
    show LeavesInM Fence.wide n P fn a'.tmps _ a'.defers .returning w'
    rw [F'.dfr]
    refine ⟨_, results_tmp2 hres _ _ _, ?_⟩
    obtain ⟨ρ4, g1, g2, g3⟩ := hgc ρ0 w0 ρ' _ _ hs0 F'.sim F'.step ((VR.tuple_iff (vs := #[a'.tmps.getD r1 undef, a'.tmps.getD r2 undef])).2 (LR.cons (F'.slots r1 (by simp)) (LR.cons (F'.slots r2 (by simp)) LR.nil)))
    exact ⟨ρ4, _, rfl, g1, g2, g3⟩
theorem WS_range2 (hm : P.follows .mixedOrders = true) {fn : Func} {v : AV} {H' : AHeap} {as bd : Code} {b p q id d1 d2 d3 x : Nat} {c3 : Int} {g : Operand} {og : Opd} {T t1 t2 t3 : TypeId} {p1 p2 p3 : String} {a1 a2 a3 : Array Edge} {ma mb : MCode}
    (hres : fn.results = #[.tmp d2, .tmp d3]) (hg : trOpd [] g = some og) (hta : trC P [] [] as = some ma) (htb : trC P [] [] bd = some mb) (oka : okR as = true) (okb : okR bd = true) (n2a : no2 ma = true) (n2b : no2 mb = true) (hs : tsize P T = some 1) (hag : tagg P T = some false) (hs0 : Sim ρ0 H0 w0)
    {S1 : List AV} {H1 H2 : AHeap} {v1 : AV} (h12 : d2 ≠ d3) (l1 : d1 < S1.length) (l2 : d2 < S1.length) (l3 : d3 < S1.length) {gf : FuncId} {cap : List AV} (hgv : rd S1 og = .fn gf cap)
    (hit : AIter2 P gf cap H1 H2 (fun x y H1 H2 => AW P ma (MX.then (AW P mb (fun e _ H' => e = .normal ∧ H' = H2)) (fun _ _ _ => False)) ((S1.set p x).set q y) H1)) (hld : ldA 1 false (rd S1 (.s x)) H2 = some v1) (hgc : GC H0 (.tuple [v1, .int .i64 c3]) H2 v H') :
    WS P n ρ0 H0 w0 fn v H' (.block b (.rangeFunc g #[p, q] as bd)) [.seq (.region id #[⟨some d1, .load T (.tmp x), t1, p1, a1, none⟩, ⟨some d2, .assign (.tmp d1), t2, p2, a2, none⟩, ⟨some d3, .assign (.const (.int .i64 c3)), t3, p3, a3, none⟩] false) .ret] S1 H1 := by
  intro β ρ a w F'
  refine wpIn_block (wpIn_mono (range_sound2 hm F' hg hgv hta htb oka okb n2a n2b (fun _ _ _ _ h => h) hit) ?_)
  rintro e a2' w2 ⟨rfl, D, ρ2, rfl, F2, hD1, hD2, unD, hD⟩
  refine wpIn_seq (wpIn_mono (post_load2 (c3 := c3) F2 hld hs hag l1 l2 l3 h12 _) ?_)
  rintro e a3 w3 ⟨rfl, rfl, hds, hv3, hv4⟩
  refine wpIn_ret ?_
  show LeavesInM Fence.wide n P fn a3.tmps _ a3.defers .returning w3
  rw [hds]
  refine ⟨by simp, .inl ⟨D, _, rfl, run_takeDeferred hD, ?_⟩⟩
  refine ⟨_, results_tmp2 hres _ _ _, ?_⟩
  have sp := F2.sim.put unD (.deferred none)
  have st := F2.step.putNew hD1 (.deferred none)
  obtain ⟨ρ4, g1, g2, g3⟩ := hgc ρ0 w0 ρ2 _ _ hs0 sp st ((VR.tuple_iff (vs := #[a3.tmps.getD d2 undef, a3.tmps.getD d3 undef])).2 (LR.cons hv3 (LR.cons hv4 LR.nil)))
  exact ⟨ρ4, _, rfl, g1, g2, g3⟩
theorem acalls_ws {f : FuncId} {fn : Func} {x y : Code} (hf : P.funcs[f]? = some fn) (hn : (fn.name == "runtime.NumGoroutine") = false) (hb : fn.body = some (.seq x y)) {args : List AV} {H H' : AHeap} {v : AV}
    (h : ∀ n ρ w, Sim ρ H w → WS P n ρ H w fn v H' x [y] (args ++ List.replicate (fn.ntmps - args.length) .junk) H) : ACalls P f args H v H' := by
  refine ⟨⟨fn, hf, hn, by simp [hb]⟩, fun ρ w cargs hs hargs => ?_⟩
  have hlen : args.length = cargs.size := by simpa using hargs.1
  refine (callsIn_wide (n := 0)).1 (callsIn_of_wp_marks hf hb trivial ?_)
  have F := fr_init hs hargs (fn.ntmps - args.length)
  rw [hlen] at F
  exact WS_seq (h 0 ρ w hs) _ _ _ _ (by rw [hlen]; exact F)
end
end
end Go.Eng

