/- The abstract machine, part 14: a region, in the text's order and in any order that its edges allow. No conditions. -/
import Derived.Test.YtlmbobbefgcolaaEng12
import Derived.Test.YtlmbobbefgcolaaEng13
namespace Go.Eng
open Go

section
variable {P : Program} {ρ0 : Ren} {H0 : AHeap} {w0 : World} {bx : List Nat} {β : Nat → Option Nat} {ρ : Ren} {S : List AV} {H : AHeap} {a : Act} {w : World}

/-- A slot is left without a value. -/
theorem Fr.skip (F : Fr ρ0 H0 w0 bx β ρ S H a w) (d : Option Nat) : Fr ρ0 H0 w0 bx β ρ (putS S d (if isDst bx d then .junk else undefA)) H (a.put d undef) w := by
  cases d with
  | none => exact F
  | some d =>
    by_cases hd : bx.contains d = true
    · simp only [isDst, hd, if_true, putS]
      refine ⟨F.sim, F.step, F.dfr, by simp [Act.put, F.len], ?_, ?_, F.priv⟩
      · intro i hi
        have hne : d ≠ i := by rintro rfl; rw [hd] at hi; cases hi
        rw [rd_set, getD_put, if_neg (by simp [hne]), if_neg (by simp [hne])]
        exact F.slots i hi
      · intro d' hd'
        by_cases he : d = d'
        · subst he
          left
          rw [rd_set]
          split
          · rfl
          · rename_i h
            exact rd_out (by simpa using h)
        · have e1 : rd (S.set d .junk) (.s d') = rd S (.s d') := by rw [rd_set, if_neg (by simp [he])]
          have e2 : (a.put (some d) undef).tmps.getD d' undef = a.tmps.getD d' undef := by rw [getD_put, if_neg (by simp [he])]
          rw [e1, e2]
          exact F.boxes d' hd'
    · simp only [isDst, hd]
      exact F.put (dst := some d) (by simpa [isDst] using hd) undef_ok

theorem getD_some {a : Act} {d : Nat} {b : Bool} (h : a.tmps.getD d undef = .bool b) : a.tmps[d]? = some (.bool b) := by
  rw [Array.getD_eq_getD_getElem?] at h
  cases he : a.tmps[d]? with
  | none => rw [he] at h; simp [undef] at h
  | some v => rw [he] at h; simp at h; rw [h]

/-- The guard says the same. -/
theorem guard_ok (F : Fr ρ0 H0 w0 bx β ρ S H a w) {ops : List Oper} {o : Oper} {g : Option (Nat × Bool)} (hg : trGuard ops bx o = some g) {t : Bool} (ht : wantedA S g = some t) : Region.wanted o (yielded ops.toArray a.tmps) = t := by
  unfold trGuard at hg
  unfold Region.wanted
  split at hg
  · rename_i hog
    cases hg
    simp [wantedA] at ht
    subst ht
    rw [hog]
  · rename_i j want hog
    split at hg
    case h_2 => cases hg
    rename_i d hd
    split at hg
    · cases hg
    rename_i hbx
    cases hg
    rw [hog]
    simp only
    have hs := F.slots d (by simpa using hbx)
    have hy : yielded ops.toArray a.tmps j = (match a.tmps[d]? with | some (.bool b) => some b | _ => none) := by
      simp only [yielded, List.getElem?_toArray, hd, Option.bind_some]
      cases a.tmps[d]? with
      | none => rfl
      | some v => cases v <;> rfl
    rw [hy]
    simp only [wantedA] at ht
    split at ht
    · rename_i b hb
      rw [hb] at hs
      cases ht
      generalize hv : a.tmps.getD d undef = cv at hs
      cases hs
      rw [getD_some hv]
      cases b <;> cases want <;> rfl
    · rename_i hb
      cases ht
      rw [hb] at hs
      have hs' := hs
      generalize hv : a.tmps.getD d undef = cv at hs hs'
      cases hs with
      | tuple _ vs _ _ =>
        rw [Array.getD_eq_getD_getElem?] at hv
        cases he : a.tmps[d]? with
        | none => rfl
        | some u => rw [he] at hv; simp at hv; subst hv; rfl
    · cases ht

theorem trOp_some {E : BoxEnv} {ops : List Oper} {ext : Bool} {o : Oper} {m : MOp} (h : trOp P bx E ops ext o = some m) :
    ∃ g, trGuard ops bx o = some g ∧ dstOk bx o = true ∧ lactOk bx m.act = true ∧ m = { w := trW bx E o, sk := trSk bx E o, guard := g, ext := ext, act := (trAct P bx E o).getD (.pu .fail) } := by
  unfold trOp at h
  split at h
  · cases h
  rename_i g hg
  split at h
  case isFalse => cases h
  rename_i hd
  cases h
  simp only [Bool.and_eq_true] at hd
  exact ⟨g, hg, hd.1, hd.2, rfl⟩

theorem addrOk_of (F : Fr ρ0 H0 w0 bx β ρ S H a w) {m : MOp} (h : lactOk bx m.act = true) : addrOk m S H := by
  have dom : ∀ {p : Opd}, okAddr bx p = true → (∀ n off, rd S p = .ptr n off → n < H.length) ∧ (∀ n, rd S p = .mp n → n < H.length) := by
    intro p hp
    cases p with
    | s i =>
      have hx := F.slots i (by simpa [okAddr] using hp)
      refine ⟨fun n off h => ?_, fun n h => ?_⟩
      · rw [h] at hx
        generalize a.tmps.getD i undef = cv at hx
        cases hx with
        | ptr _ _ L hn => exact (F.sim.dom n L hn).1
      · rw [h] at hx
        generalize a.tmps.getD i undef = cv at hx
        cases hx with
        | mp _ L hn _ => exact (F.sim.dom n L hn).1
    | c v => exact ⟨fun n off h => by simp only [rd] at h; subst h; simp [okAddr] at hp, fun n h => by simp only [rd] at h; subst h; simp [okAddr] at hp⟩
  unfold addrOk
  unfold lactOk at h
  split <;> rename_i e <;> simp only [e] at h
  · exact (dom h).1
  · exact (dom h).2
  · exact (dom h).2
  · trivial

/-- What a region's translation has looked at. -/
structure RegionOk (P : Program) (bx : List Nat) (ops : List Oper) (draw : Bool) (E : BoxEnv) (l : List MOp) (pr : Nat → Nat → Bool) : Prop where
  len : l.length = ops.length
  op : ∀ (i : Nat) o, ops[i]? = some o → ∃ m ext, l[i]? = some m ∧ trOp P bx E ops ext o = some m
  once : ∀ (i j : Nat) o o' d, ops[i]? = some o → ops[j]? = some o' → o.dst = some d → o'.dst = some d → i = j
  used : ∀ (i : Nat) o j, ops[i]? = some o → j ∈ usesEnv bx E o → pr i j = true
  made : ∀ e ∈ E, ∀ (k : Nat) o, ops[k]? = some o → isBnew bx o = some e.2.2.1 → pr e.1 k = true
  entry : ∀ e ∈ E, ∃ o s x f q fd, ops[e.1]? = some o ∧ o.op = .fieldAddr s x f ∧ o.dst = some e.2.1 ∧ addrOf bx E x = some q ∧ fieldOf P s f = some fd ∧ e.2.2.1 = q.2.1 ∧ e.2.2.2 = q.2.2 + fd.offset

theorem skipS_eq (P : Program) (bx : List Nat) (E : BoxEnv) (S : List AV) {o : Oper} {m : MOp} {ops : List Oper} {ext : Bool} (h : trOp P bx E ops ext o = some m) :
    skipS S m = putS S o.dst (if isDst bx o.dst then .junk else undefA) ∨ (o.dst = none ∧ skipS S m = S) := by
  obtain ⟨g, _, hd, _, rfl⟩ := trOp_some h
  simp only [skipS]
  unfold trSk trW
  cases hop : o.op <;> try (left; rfl)
  case store t x y =>
    simp only
    have hn : o.dst = none := by simpa [dstOk, hop] using hd
    cases ha : addrOf bx E x with
    | some q => right; exact ⟨hn, rfl⟩
    | none => right; rw [hn]; exact ⟨rfl, rfl⟩

/-- One operation of a region comes up. -/
theorem region_step {ops : List Oper} {draw : Bool} {E : BoxEnv} {l : List MOp} {pr : Nat → Nat → Bool} (R : RegionOk P bx ops draw E l pr) (F : Fr ρ0 H0 w0 bx β ρ S H a w) {D : List Nat} (hEnv : EnvOk bx E β S a D) (hcl : ∀ j ∈ D, ∀ k, pr j k = true → k ∈ D) {i : Nat} {o : Oper} {m : MOp} (ho : ops[i]? = some o) (hm : l[i]? = some m)
    (hi : i ∉ D) (hpr : ∀ j, pr i j = true → j ∈ D) {r : List MOp} {Q : List AV → AHeap → Prop} (hA : AOps P (m :: r) Q S H) {K : Act → World → Prop} {Q' : Exit → Act → World → Prop}
    (hK : ∀ ρ' β' S' H' a' w', Fr ρ0 H0 w0 bx β' ρ' S' H' a' w' → EnvOk bx E β' S' a' (i :: D) → AOps P r Q S' H' → K a' w') : wpOp P ops.toArray Q' i K a w := by
  obtain ⟨m', ext, hm', htr⟩ := R.op i o ho
  rw [hm] at hm'; cases hm'
  obtain ⟨g, hg, hd, hla, hmeq⟩ := trOp_some htr
  have hlt : i < ops.length := (List.getElem?_eq_some_iff.1 ho).1
  unfold wpOp
  simp only [List.getElem?_toArray, ho]
  simp only [AOps] at hA
  -- the slots of the addresses that are known are not written
  have keepE : ∀ e ∈ E, e.1 ∈ D → o.dst ≠ some e.2.1 ∧ trW bx E o ≠ some e.2.1 := by
    intro e he hje
    obtain ⟨o', s, x, f, q, fd, h1, h2, h3, h4, h5, _⟩ := R.entry e he
    have hne : o.dst ≠ some e.2.1 := fun h => hi ((R.once i e.1 o o' e.2.1 ho h1 h h3) ▸ hje)
    refine ⟨hne, ?_⟩
    unfold trW
    cases hop : o.op <;> try exact hne
    rename_i t y z
    simp only
    cases hy : addrOf bx E y with
    | none => exact hne
    | some q' =>
      simp only
      intro hb
      have hb : q'.2.1 = e.2.1 := by simpa using hb
      rw [← hb] at h3
      -- the store's box is the slot: but that slot is no box
      obtain ⟨m2, ext2, _, htr2⟩ := R.op e.1 o' h1
      obtain ⟨_, _, hd2, _⟩ := trOp_some htr2
      have hnb : bx.contains q'.2.1 = false := by
        have : dstOk bx o' = true := hd2
        simp only [dstOk, h2, h3, isDst] at this
        simpa using this
      have hbox : bx.contains q'.2.1 = true := by
        cases y with
        | tmp t' =>
          simp only [addrOf] at hy
          split at hy
          · cases hy; assumption
          · simp only [Option.map_eq_some_iff] at hy
            obtain ⟨e', he', rfl⟩ := hy
            have := List.find?_some he'
            simp only [Bool.and_eq_true] at this
            exact this.2
        | _ => simp [addrOf] at hy
      rw [hnb] at hbox
      cases hbox
  split at hA
  · exact hA.elim
  rename_i t ht
  rw [hmeq] at ht
  have hwant := guard_ok F hg ht
  cases t with
  | true =>
    simp only [if_true] at hA
    obtain ⟨v, H', hout, _, hA⟩ := hA
    rw [if_pos hwant]
    left
    cases htr' : trAct P bx E o with
    | none =>
      rw [hmeq, htr'] at hout
      exact absurd hout.1 (by simp [pval])
    | some act =>
      rw [hmeq, htr'] at hout hA
      simp only [Option.getD_some] at hout hA
      refine op_sound F htr' hd ?_ hout ?_
      · intro e he hju hadr hbox
        exact hEnv e he (hpr _ (R.used i o e.1 ho hju)) hadr hbox
      · intro ρ' β' a' w' F' htm hβ hfa
        refine hK ρ' β' _ H' a' w' F' ?_ hA
        intro e he hj hadr hbox
        simp only [List.mem_cons] at hj
        by_cases hei : e.1 = i
        · obtain ⟨o', s, x, f, q, fd, h1, h2, h3, h4, h5, h6, h7⟩ := R.entry e he
          rw [hei, ho] at h1; cases h1
          obtain ⟨blk, k1, k2⟩ := hfa s x f q fd h2 h4 h5
          rw [h6, h7]
          refine ⟨blk, k1, k2 e.2.1 h3 ?_⟩
          refine Decidable.by_contra fun hge => ?_
          have hout : ¬ e.2.1 < (putS S (trW bx E o) v).length := by
            have : (putS S (trW bx E o) v).length = S.length := by
              cases trW bx E o <;> simp [putS]
            rw [this]; exact hge
          rw [rd_out hout] at hadr
          cases hadr
        · have hjD : e.1 ∈ D := by rcases hj with h | h; exact absurd h hei; exact h
          obtain ⟨k1, k2⟩ := keepE e he hjD
          rw [rd_putS k2] at hadr
          obtain ⟨blk, g1, g2⟩ := hEnv e he hjD hadr hbox
          refine ⟨blk, ?_, ?_⟩
          · rw [hβ e.2.2.1 (fun hb => hi (hcl e.1 hjD i (R.made e he i o ho hb)))]; exact g1
          · rw [htm e.2.1 k1]; exact g2
  | false =>
    simp only [Bool.false_eq_true, if_false] at hA
    rw [if_neg (by rw [hwant]; simp)]
    have F' := F.skip o.dst
    have hsk : skipS S m = putS S o.dst (if isDst bx o.dst then .junk else undefA) := by
      rcases skipS_eq P bx E S htr with h | ⟨h1, h2⟩
      · exact h
      · rw [h2, h1]; rfl
    rw [hsk] at hA
    refine hK ρ β _ H _ w F' ?_ hA
    intro e he hj hadr hbox
    simp only [List.mem_cons] at hj
    by_cases hei : e.1 = i
    · exfalso
      obtain ⟨o', s, x, f, q, fd, h1, h2, h3, h4, h5, h6, h7⟩ := R.entry e he
      rw [hei, ho] at h1; cases h1
      have hnd : isDst bx o.dst = false := by simpa [dstOk, h2] using hd
      rw [hnd, h3] at hadr
      simp only [putS, rd_set] at hadr
      split at hadr
      · simp [isAdr] at hadr
      · rename_i hx
        rw [rd_out (by simpa using hx)] at hadr
        cases hadr
    · have hjD : e.1 ∈ D := by rcases hj with h | h; exact absurd h hei; exact h
      obtain ⟨k1, k2⟩ := keepE e he hjD
      rw [rd_putS k1] at hadr
      obtain ⟨blk, g1, g2⟩ := hEnv e he hjD hadr hbox
      exact ⟨blk, g1, by rw [put_other e.2.1 k1]; exact g2⟩

end
end Go.Eng
namespace Go.Eng
open Go

section
variable {P : Program} {ρ0 : Ren} {H0 : AHeap} {w0 : World} {bx : List Nat}

/-- The text's order. -/
theorem region_text {ops : List Oper} {draw : Bool} {E : BoxEnv} {l : List MOp} (R : RegionOk P bx ops draw E l (fun i j => decide (j < i))) {Q : List AV → AHeap → Prop} {Q' : Exit → Act → World → Prop}
    (hQ : ∀ ρ' β' S' H' a' w', Fr ρ0 H0 w0 bx β' ρ' S' H' a' w' → Q S' H' → Q' .normal a' w') : ∀ (n k : Nat) {β : Nat → Option Nat} {ρ : Ren} {S : List AV} {H : AHeap} {a : Act} {w : World}, k + n = ops.length → Fr ρ0 H0 w0 bx β ρ S H a w →
      EnvOk bx E β S a (List.range k) → AOps P (l.drop k) Q S H → wpOps P ops.toArray Q' (List.range' k n) a w
  | 0, k, β, ρ, S, H, a, w, hk, F, hE, h => by
    have : l.drop k = [] := List.drop_eq_nil_of_le (by rw [R.len]; omega)
    rw [this] at h
    exact hQ ρ β S H a w F h
  | n + 1, k, β, ρ, S, H, a, w, hk, F, hE, h => by
    have hlt : k < ops.length := by omega
    have hlt' : k < l.length := by rw [R.len]; exact hlt
    rw [List.range'_succ, wpOps_cons]
    rw [List.drop_eq_getElem_cons hlt'] at h
    refine region_step R F (D := List.range k) hE (fun j hj i hi => ?_) (i := k) (o := ops[k]) (m := l[k]) (by simp [hlt]) (by simp [hlt']) (by simp) (fun j hj => ?_) h ?_
    · have h1 : j < k := by simpa using hj
      have h2 : i < j := by simpa using hi
      simp; omega
    · have : j < k := by simpa using hj
      simpa using this
    · intro ρ' β' S' H' a' w' F' hE' hA'
      refine region_text R hQ n (k + 1) (by omega) F' (fun e he hj => hE' e he ?_) hA'
      have : e.1 < k + 1 := by simpa using hj
      simp; omega

theorem fm_congr {α β : Type} {f g : α → Option β} : ∀ {l : List α}, (∀ x ∈ l, f x = g x) → l.filterMap f = l.filterMap g
  | [], _ => rfl
  | x :: l, h => by simp only [List.filterMap_cons]; rw [h x (by simp), fm_congr fun y hy => h y (by simp [hy])]

/-- Those that have not come up. -/
def rest (l : List MOp) (listed : Array Bool) : List MOp := l.zipIdx.filterMap fun p => if listed.getD p.2 true then none else some p.1

theorem rest_split : ∀ (l : List MOp) (k : Nat) (listed : Array Bool) (i : Nat) (m : MOp), l[i]? = some m → listed.getD (k + i) true = false →
    ∃ L1 L2, ((l.zipIdx k).filterMap fun p => if listed.getD p.2 true then none else some p.1) = L1 ++ m :: L2 ∧ ((l.zipIdx k).filterMap fun p => if (listed.setIfInBounds (k + i) true).getD p.2 true then none else some p.1) = L1 ++ L2 ∧
      ∀ x ∈ L1, ∃ j, j < i ∧ l[j]? = some x ∧ listed.getD (k + j) true = false
  | [], _, _, _, _, h, _ => by simp at h
  | y :: l, k, listed, i, m, h, hl => by
    have gd : ∀ j, j ≠ k + i → (listed.setIfInBounds (k + i) true).getD j true = listed.getD j true := by
      intro j hj
      simp only [Array.getD_eq_getD_getElem?, Array.getElem?_setIfInBounds]
      rw [if_neg (Ne.symm hj)]
    have gs : (listed.setIfInBounds (k + i) true).getD (k + i) true = true := by
      simp only [Array.getD_eq_getD_getElem?, Array.getElem?_setIfInBounds]
      by_cases hh : k + i < listed.size <;> simp [hh]
    cases i with
    | zero =>
      simp at h
      subst h
      refine ⟨[], (l.zipIdx (k + 1)).filterMap fun p => if listed.getD p.2 true then none else some p.1, ?_, ?_, by simp⟩
      · simp only [List.zipIdx_cons, List.filterMap_cons]
        simp only [Nat.add_zero] at hl
        simp [hl]
      · simp only [List.zipIdx_cons, List.filterMap_cons]
        simp only [Nat.add_zero] at gs
        simp only [Nat.add_zero, gs, if_true, List.nil_append]
        refine fm_congr fun p hp => ?_
        have h1 := (List.mem_zipIdx hp).1
        have := gd p.2 (by omega)
        simp only [Nat.add_zero] at this ⊢
        simp only [this]
    | succ i =>
      obtain ⟨L1, L2, h1, h2, h3⟩ := rest_split l (k + 1) listed i m (by simpa using h) (by rw [show k + 1 + i = k + (i + 1) by omega]; exact hl)
      have e2 : k + 1 + i = k + (i + 1) := by omega
      rw [e2] at h2
      by_cases hy : listed.getD k true = true
      · refine ⟨L1, L2, ?_, ?_, fun x hx => ?_⟩
        · simp only [List.zipIdx_cons, List.filterMap_cons, hy, if_true]; exact h1
        · simp only [List.zipIdx_cons, List.filterMap_cons]
          rw [gd k (by omega)]
          simp only [hy, if_true]; exact h2
        · obtain ⟨j, hj, hx1, hx2⟩ := h3 x hx
          exact ⟨j + 1, by omega, by simpa using hx1, by rw [show k + (j + 1) = k + 1 + j by omega]; exact hx2⟩
      · refine ⟨y :: L1, L2, ?_, ?_, fun x hx => ?_⟩
        · simp only [List.zipIdx_cons, List.filterMap_cons, hy]
          simp only [Bool.false_eq_true, if_false, List.cons_append]
          rw [h1]
        · simp only [List.zipIdx_cons, List.filterMap_cons]
          rw [gd k (by omega)]
          simp only [hy, Bool.false_eq_true, if_false, List.cons_append]
          rw [h2]
        · simp only [List.mem_cons] at hx
          rcases hx with rfl | hx
          · exact ⟨0, by omega, by simp, by simpa using hy⟩
          · obtain ⟨j, hj, hx1, hx2⟩ := h3 x hx
            exact ⟨j + 1, by omega, by simpa using hx1, by rw [show k + (j + 1) = k + 1 + j by omega]; exact hx2⟩

def listedIds (listed : Array Bool) : List Nat := (List.range listed.size).filter fun i => listed.getD i true

theorem mem_listed {listed : Array Bool} {i : Nat} : i ∈ listedIds listed ↔ i < listed.size ∧ listed.getD i true = true := by
  simp [listedIds]

/-- Any order that the edges allow. -/
theorem region_any {ops : List Oper} {draw : Bool} {E : BoxEnv} {l : List MOp} {pr : Nat → Nat → Bool} (R : RegionOk P bx ops draw E l pr) {Q : List AV → AHeap → Prop} {Q' : Exit → Act → World → Prop}
    (hQ : ∀ ρ' β' S' H' a' w', Fr ρ0 H0 w0 bx β' ρ' S' H' a' w' → Q S' H' → Q' .normal a' w')
    (hedge : ∀ (i : Nat) o, ops[i]? = some o → ∀ e ∈ o.after, Region.binds .any e = true → e.on < i)
    (hpr : ∀ (listed : Array Bool), listed.size = ops.length → (∀ (i : Nat) o, ops[i]? = some o → listed.getD i true = true → ∀ e ∈ o.after, Region.binds .any e = true → listed.getD e.on false = true) →
      ∀ (i : Nat) o, ops[i]? = some o → (∀ e ∈ o.after, Region.binds .any e = true → listed.getD e.on false = true) → ∀ j, pr i j = true → j < ops.length ∧ listed.getD j true = true)
    (hind : ∀ (i j : Nat) a b, l[i]? = some b → l[j]? = some a → j < i → pr i j = true ∨ indep a b = true) :
    ∀ (fuel : Nat) (listed : Array Bool) {β : Nat → Option Nat} {ρ : Ren} {S : List AV} {H : AHeap} {a : Act} {w : World}, listed.size = ops.length →
      (∀ (i : Nat) o, ops[i]? = some o → listed.getD i true = true → ∀ e ∈ o.after, Region.binds .any e = true → listed.getD e.on false = true) → (rest l listed).length ≤ fuel →
      Fr ρ0 H0 w0 bx β ρ S H a w → EnvOk bx E β S a (listedIds listed) → AOps P (rest l listed) Q S H → wpAny P .any ops.toArray Q' fuel listed a w := by
  have gd : ∀ (listed : Array Bool) (i : Nat), i < listed.size → listed.getD i true = listed.getD i false := by
    intro listed i h
    simp [Array.getD_eq_getD_getElem?, h]
  -- where nothing is ready, nothing is left
  have done : ∀ (listed : Array Bool), listed.size = ops.length → Region.ready .any ops.toArray listed = [] → ∀ i, i < ops.length → listed.getD i true = true := by
    intro listed hsz hr i
    induction i using Nat.strongRecOn with
    | _ i ih =>
      intro hi
      refine Decidable.by_contra fun hn => ?_
      have hn : listed.getD i true = false := by simpa using hn
      have hmem : i ∈ Region.ready .any ops.toArray listed := by
        rw [mem_ready]
        refine ⟨hn, ops[i], by simp [hi], fun e he hb => ?_⟩
        have hlt := hedge i ops[i] (by simp [hi]) e he hb
        rw [← gd listed e.on (by omega)]
        exact ih e.on hlt (by omega)
      rw [hr] at hmem
      cases hmem
  have nil : ∀ (listed : Array Bool), (∀ i, i < ops.length → listed.getD i true = true) → rest l listed = [] := by
    intro listed h
    rw [rest, List.filterMap_eq_nil_iff]
    intro p hp
    have h1 := (List.mem_zipIdx hp).2.1
    simp only [Nat.zero_add, R.len] at h1
    rw [if_pos (h p.2 h1)]
  intro fuel
  induction fuel with
  | zero =>
    intro listed β ρ S H a w hsz hcl hlen F hE hA
    have hr0 : rest l listed = [] := List.eq_nil_of_length_eq_zero (by omega)
    rw [hr0] at hA
    refine ⟨?_, hQ ρ β S H a w F hA⟩
    refine List.eq_nil_iff_forall_not_mem.2 fun i hi => ?_
    rw [mem_ready] at hi
    obtain ⟨h1, o, ho, _⟩ := hi
    have ho' : ops[i]? = some o := by simpa using ho
    obtain ⟨m, _, hm, _⟩ := R.op i o ho'
    obtain ⟨L1, L2, h2, _⟩ := rest_split l 0 listed i m hm (by simpa using h1)
    have : rest l listed = L1 ++ m :: L2 := h2
    rw [hr0] at this
    simp at this
  | succ fuel ih =>
    intro listed β ρ S H a w hsz hcl hlen F hE hA
    refine ⟨fun hr => ?_, fun i hi => ?_⟩
    · rw [nil listed (done listed hsz hr)] at hA
      exact hQ ρ β S H a w F hA
    · rw [mem_ready] at hi
      obtain ⟨h1, o, ho, hready⟩ := hi
      have ho' : ops[i]? = some o := by simpa using ho
      have hlt : i < ops.length := (List.getElem?_eq_some_iff.1 ho').1
      obtain ⟨m, ext, hm, htr⟩ := R.op i o ho'
      obtain ⟨L1, L2, h2, h3, h4⟩ := rest_split l 0 listed i m hm (by simpa using h1)
      have e1 : rest l listed = L1 ++ m :: L2 := h2
      have e2 : rest l (listed.setIfInBounds i true) = L1 ++ L2 := by simpa [rest] using h3
      rw [e1] at hA
      obtain ⟨_, _, _, hla, _⟩ := trOp_some htr
      have hA' := AOps_first L1 (fun x hx => ?_) (addrOk_of F hla) hA
      · have hin : ∀ (j : Nat) o', ops[j]? = some o' → (∀ e ∈ o'.after, Region.binds .any e = true → listed.getD e.on false = true) → ∀ k, pr j k = true → k ∈ listedIds listed := by
          intro j o' hj he k hk
          obtain ⟨g1, g2⟩ := hpr listed hsz hcl j o' hj he k hk
          exact mem_listed.2 ⟨by omega, g2⟩
        refine region_step R F hE (fun j hj k hk => ?_) ho' hm (fun hi' => ?_) (hin i o ho' hready) hA' ?_
        · obtain ⟨g1, g2⟩ := mem_listed.1 hj
          have hj' : ops[j]? = some ops[j] := by simp [show j < ops.length by omega]
          exact hin j _ hj' (hcl j _ hj' g2) k hk
        · have := (mem_listed.1 hi').2
          rw [h1] at this; cases this
        · intro ρ' β' S' H' a' w' F' hE' hA''
          have gset : ∀ j, (listed.setIfInBounds i true).getD j true = if j = i then true else listed.getD j true := by
            intro j
            simp only [Array.getD_eq_getD_getElem?, Array.getElem?_setIfInBounds]
            by_cases hji : i = j
            · subst hji; simp [hsz, hlt]
            · rw [if_neg hji, if_neg (Ne.symm hji)]
          have gsetf : ∀ j, listed.getD j false = true → (listed.setIfInBounds i true).getD j false = true := by
            intro j hj
            simp only [Array.getD_eq_getD_getElem?, Array.getElem?_setIfInBounds] at hj ⊢
            by_cases hji : i = j
            · subst hji; simp [hsz, hlt]
            · rw [if_neg hji]; exact hj
          refine ih (listed.setIfInBounds i true) (by simpa using hsz) ?_ ?_ F' ?_ ?_
          · intro j o' hj hlj e he hb
            rw [gset j] at hlj
            split at hlj
            · rename_i hji
              subst hji
              rw [ho'] at hj; cases hj
              exact gsetf _ (hready e he hb)
            · exact gsetf _ (hcl j o' hj hlj e he hb)
          · rw [e2]
            rw [e1] at hlen
            simp at hlen ⊢
            omega
          · intro e he hj hadr hbox
            refine hE' e he ?_ hadr hbox
            obtain ⟨g1, g2⟩ := mem_listed.1 hj
            rw [gset] at g2
            simp only [List.mem_cons]
            split at g2
            · left; assumption
            · right; exact mem_listed.2 ⟨by simpa using g1, g2⟩
          · rw [e2]; exact hA''
      · obtain ⟨j, hj, hx1, hx2⟩ := h4 x hx
        rcases hind i j x m hm hx1 hj with h | h
        · exfalso
          obtain ⟨_, g2⟩ := hpr listed hsz hcl i o ho' hready j h
          rw [Nat.zero_add] at hx2
          rw [hx2] at g2; cases g2
        · exact h

end
end Go.Eng
