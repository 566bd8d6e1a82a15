/- The abstract machine, part 18: equations for numbers, and lists in memory. No conditions. -/
import Derived.Test.YtlmbobbefgcolaaEng17
namespace Go.Eng
open Go

/-! Numbers. -/
theorem bin_add (k : IntKind) (a b : Int) : binI .add (.int k a) (.int k b) = some (.int k (k.wrap (a + b))) := by cases k <;> rfl
theorem bin_sub (k : IntKind) (a b : Int) : binI .sub (.int k a) (.int k b) = some (.int k (k.wrap (a - b))) := by cases k <;> rfl
theorem bin_mul (k : IntKind) (a b : Int) : binI .mul (.int k a) (.int k b) = some (.int k (k.wrap (a * b))) := by cases k <;> rfl
theorem bin_quo (k : IntKind) (a b : Int) : binI .quo (.int k a) (.int k b) = if b = 0 then none else some (.int k (k.wrap (a.tdiv b))) := by cases k <;> rfl
theorem bin_rem (k : IntKind) (a b : Int) : binI .rem (.int k a) (.int k b) = if b = 0 then none else some (.int k (a.tmod b)) := by cases k <;> rfl
theorem bin_eql (k : IntKind) (a b : Int) : binI .eql (.int k a) (.int k b) = some (.bool (decide (a = b))) := by
  have : binI .eql (.int k a) (.int k b) = some (.bool (a == b)) := by cases k <;> rfl
  rw [this]; congr 1
theorem bin_neq (k : IntKind) (a b : Int) : binI .neq (.int k a) (.int k b) = some (.bool (decide (¬ a = b))) := by
  have : binI .neq (.int k a) (.int k b) = some (.bool (a != b)) := by cases k <;> rfl
  rw [this]; congr 2; rw [Bool.eq_iff_iff]; simp
theorem bin_lss (k : IntKind) (a b : Int) : binI .lss (.int k a) (.int k b) = some (.bool (decide (a < b))) := by cases k <;> rfl
theorem bin_leq (k : IntKind) (a b : Int) : binI .leq (.int k a) (.int k b) = some (.bool (decide (a ≤ b))) := by cases k <;> rfl
theorem bin_gtr (k : IntKind) (a b : Int) : binI .gtr (.int k a) (.int k b) = some (.bool (decide (b < a))) := by cases k <;> rfl
theorem bin_geq (k : IntKind) (a b : Int) : binI .geq (.int k a) (.int k b) = some (.bool (decide (b ≤ a))) := by cases k <;> rfl

theorem w64 (n : Int) (h0 : -9223372036854775808 ≤ n) (h1 : n < 9223372036854775808) : IntKind.i64.wrap n = n := by
  have e : IntKind.i64.wrap n = if n % 18446744073709551616 ≥ 9223372036854775808 then n % 18446744073709551616 - 18446744073709551616 else n % 18446744073709551616 := by
    simp [IntKind.wrap, IntKind.bits, IntKind.signed]
  rw [e]
  split <;> omega

theorem mm_max (a b : Int) : mmA true (.int .i64 a) [.int .i64 b] = some (I (max a b)) := rfl
theorem mm_min (a b : Int) : mmA false (.int .i64 a) [.int .i64 b] = some (I (min a b)) := rfl

/-! The same equations, with proofs that 'simp' keeps: its congruence rules want them. -/
theorem map_c {α β : Type} (f : α → β) (x : α) (xs : List α) : List.map f (x :: xs) = f x :: List.map f xs := by simp
theorem map_n {α β : Type} (f : α → β) : List.map f [] = [] := by simp
theorem rd_S (S : List AV) (i : Nat) : rd S (.s i) = (S[i]?).getD .junk := by simp [rd]
theorem rd_C (S : List AV) (v : AV) : rd S (.c v) = v := by simp [rd]
theorem put_S (S : List AV) (d : Nat) (v : AV) : putS S (some d) v = S.set d v := by simp [putS]
def LoopK (P : Program) (a : MCode) (Q : Post) (S : List AV) (H : AHeap) (_ : Lk a) (_ : Lk Q) : Prop := AW P (.loop a) Q S H
def CutK (P : Program) (a : MCode) (Q : Post) (S : List AV) (H : AHeap) (_ : Lk a) (_ : Lk Q) : Prop := AW P (.cut a) Q S H
theorem AW_toLoop {P : Program} {a : MCode} {Q : Post} {S : List AV} {H : AHeap} : AW P (.loop a) Q S H = LoopK P a Q S H ⟨⟩ ⟨⟩ := rfl
theorem AW_toCut {P : Program} {a : MCode} {Q : Post} {S : List AV} {H : AHeap} : AW P (.cut a) Q S H = CutK P a Q S H ⟨⟩ ⟨⟩ := rfl
theorem LoopK.by {P : Program} {α : Type} {a : MCode} {Q : Post} {S : List AV} {H : AHeap} {d : Lk a} {d' : Lk Q} (n : Nat) (inv : α → Prop) (L : α → List (Nat × AV)) (hp : α → AHeap) (μ : α → Nat) (x0 : α) (h0 : inv x0) (hn : S.length = n) (hL : Has S (L x0)) (hH : H = hp x0)
    (hstep : ∀ x, inv x → AW P a (MX.then (fun S' H' => ∃ y, inv y ∧ S'.length = n ∧ Has S' (L y) ∧ H' = hp y ∧ μ y < μ x) Q) (mk n (L x)) (hp x)) : LoopK P a Q S H d d' := AW_loop n inv L hp μ x0 h0 hn hL hH hstep
theorem CutK.by {P : Program} {m : MCode} {Q : Post} {S : List AV} {H : AHeap} {d : Lk m} {d' : Lk Q} (n : Nat) (L : List (Nat × AV)) (hn : S.length = n) (h : Has S L) (k : AW P m Q (mk n L) H) : CutK P m Q S H d d' := AW_join n L hn h k

/-! Lists in memory. -/
def nm : AV → Nat
  | .sl _ n _ _ _ => n
  | _ => 0
def of : AV → Nat
  | .sl _ _ off _ _ => off
  | _ => 0

/-- 'v' is, in 'H', the list 'xs', each element in 'es' cells as 'e' says. -/
structure Ls {α : Type} (es : Nat) (e : α → List AV) (H : AHeap) (v : AV) (xs : List α) : Prop where
  he : ∀ x, (e x).length = es
  hc : slCells es H v = some (xs.length, xs.flatMap e)

theorem flatMap_length {α : Type} {es : Nat} {e : α → List AV} (he : ∀ x, (e x).length = es) (xs : List α) : (xs.flatMap e).length = xs.length * es := by
  induction xs with
  | nil => simp
  | cons x xs ih => simp [ih, he, Nat.add_mul, Nat.add_comm]

theorem flatMap_at {α : Type} {es : Nat} {e : α → List AV} (he : ∀ x, (e x).length = es) : ∀ (xs : List α) (i : Nat) (x : α), xs[i]? = some x → ((xs.flatMap e).drop (i * es)).take es = e x := by
  intro xs
  induction xs with
  | nil => intro i x h; simp at h
  | cons y ys ih =>
    intro i x h
    cases i with
    | zero =>
      simp at h; subst h
      simp [← he y]
    | succ i =>
      have := ih i x (by simpa using h)
      rw [List.flatMap_cons, Nat.add_mul, Nat.one_mul, Nat.add_comm, ← List.drop_drop]
      conv => lhs; arg 2; arg 2; rw [← he y]
      rw [List.drop_left]; exact this

section
variable {α : Type} {es : Nat} {e : α → List AV} {H : AHeap} {v : AV} {xs : List α}

theorem cells_some {H : AHeap} {n off cnt : Nat} {c : List AV} (h : cellsAt H n off cnt = some c) : ∃ rw l, H[n]? = some (.cells rw l) ∧ off + cnt ≤ l.length ∧ (l.drop off).take cnt = c := by
  unfold cellsAt at h
  split at h
  · rename_i rw l h1
    split at h
    · rename_i h2; exact ⟨rw, l, h1, h2, by simpa using h⟩
    · cases h
  · cases h

theorem Ls.inv (h : Ls es e H v xs) : (v = .nilS ∧ xs = []) ∨ ∃ n off full rw l, v = .sl es n off xs.length full ∧ H[n]? = some (.cells rw l) ∧ off + xs.length * es ≤ l.length ∧ (l.drop off).take (xs.length * es) = xs.flatMap e := by
  have hc := h.hc
  unfold slCells at hc
  split at hc
  · left; refine ⟨rfl, ?_⟩
    simp at hc
    cases xs with
    | nil => rfl
    | cons x xs => simp at hc
  · rename_i es' n off len full
    right
    split at hc
    · rename_i he; subst he
      cases hcc : cellsAt H n off (len * es') with
      | none => rw [hcc] at hc; cases hc
      | some l =>
        rw [hcc] at hc
        simp at hc
        obtain ⟨rfl, rfl⟩ := hc
        obtain ⟨rw, l, h1, h2, h3⟩ := cells_some hcc
        exact ⟨n, off, full, rw, l, rfl, h1, h2, h3⟩
    · cases hc
  · cases hc

theorem Ls.len (h : Ls es e H v xs) : lenA v = some (I xs.length) := by
  rcases h.inv with ⟨rfl, rfl⟩ | ⟨n, off, full, rw, l, rfl, _⟩ <;> rfl

theorem Ls.mono (h : Ls es e H v xs) {H' : AHeap} (hp : H <+: H') : Ls es e H' v xs := by
  refine ⟨h.he, ?_⟩
  rcases h.inv with ⟨rfl, rfl⟩ | ⟨n, off, full, rw, l, rfl, h1, h2, h3⟩
  · rfl
  · have : H'[n]? = some (.cells rw l) := by
      obtain ⟨t, rfl⟩ := hp
      rw [List.getElem?_append_left (List.getElem?_eq_some_iff.1 h1).1]; exact h1
    simp [slCells, cellsAt, this, h2, h3]

theorem Ls.idx (h : Ls es e H v xs) {k : IntKind} {i : Nat} (hi : i < xs.length) : idxA es v (.int k i) = some (.ptr (nm v) (of v + i * es)) := by
  rcases h.inv with ⟨rfl, rfl⟩ | ⟨n, off, full, rw, l, rfl, _⟩
  · simp at hi
  · simp only [idxA, nm, of]
    rw [if_pos ⟨by omega, by omega⟩]
    simp

/-- By a number that may be below 0 or too great. -/
theorem Ls.idxI (h : Ls es e H v xs) {k : IntKind} {i : Int} (h0 : 0 ≤ i) (hi : i < xs.length) : idxA es v (.int k i) = some (.ptr (nm v) (of v + i.toNat * es)) := by
  have := h.idx (k := k) (i := i.toNat) (by omega)
  rwa [show ((i.toNat : Nat) : Int) = i by omega] at this

theorem Ls.ld (h : Ls es e H v xs) {i : Nat} {x : α} (hx : xs[i]? = some x) (sz fo : Nat) (ag : Bool) (hf : fo + sz ≤ es) : ldA sz ag (.ptr (nm v) (of v + i * es + fo)) H = partA (e x) fo sz ag := by
  have hi : i < xs.length := (List.getElem?_eq_some_iff.1 hx).1
  rcases h.inv with ⟨rfl, rfl⟩ | ⟨n, off, full, rw, l, rfl, h1, h2, h3⟩
  · simp at hi
  · have h4 := flatMap_at h.he xs i x hx
    rw [← h3] at h4
    have hle : i * es + es ≤ xs.length * es := by
      rw [← Nat.succ_mul]; exact Nat.mul_le_mul_right _ hi
    have h5 : (l.drop (off + i * es)).take es = e x := by
      rw [List.drop_take, List.drop_drop, List.take_take] at h4
      rw [← h4]; congr 1; omega
    simp only [ldA, nm, of, h1]
    have hl := h.he x
    have e0 : partA (e x) fo sz ag = if ag then some (.agg (((e x).drop fo).take sz)) else (if sz = 1 then (e x)[fo]? else none) := by
      unfold partA; rw [if_pos (by omega)]
    rw [e0, ← h5]
    unfold partA
    rw [if_pos (by omega)]
    have e1 : (l.drop (off + i * es + fo)).take sz = (((l.drop (off + i * es)).take es).drop fo).take sz := by
      rw [List.drop_take, List.drop_drop, List.take_take]; congr 1; omega
    rw [e1]
    by_cases ha : ag = true
    · rw [if_pos ha, if_pos ha]
    · rw [if_neg ha, if_neg ha]
      by_cases hs : sz = 1
      · rw [if_pos hs, if_pos hs, List.getElem?_take, if_pos (by omega), List.getElem?_drop]
      · rw [if_neg hs, if_neg hs]

theorem Ls.ld0 (h : Ls es e H v xs) {i : Nat} {x : α} (hx : xs[i]? = some x) (sz : Nat) (ag : Bool) (hf : sz ≤ es) : ldA sz ag (.ptr (nm v) (of v + i * es)) H = partA (e x) 0 sz ag :=
  h.ld hx sz 0 ag (by omega)

end

def e1 (x : Int) : List AV := [I x]
def e2 (x : Int × Int) : List AV := [I x.1, I x.2]
abbrev L1 := Ls 1 e1
abbrev L2 := Ls 2 e2

theorem e1_len (x : Int) : (e1 x).length = 1 := rfl
theorem e2_len (x : Int × Int) : (e2 x).length = 2 := rfl

theorem part_e2 (x : Int × Int) : partA (e2 x) 0 2 true = some (.agg [I x.1, I x.2]) := rfl
theorem part_e20 (x : Int × Int) : partA (e2 x) 0 1 false = some (I x.1) := rfl
theorem part_e21 (x : Int × Int) : partA (e2 x) 1 1 false = some (I x.2) := rfl
theorem part_e1 (x : Int) : partA (e1 x) 0 1 false = some (I x) := rfl

/-! Lists that grow: what 'append' makes in a function whose heap was 'H' at first. -/
def Acc (es : Nat) (H H1 : AHeap) (v : AV) (cs : List AV) (k : Nat) : Prop :=
  H <+: H1 ∧ cs.length = k * es ∧ ((k = 0 ∧ v = .nilS) ∨ (0 < k ∧ ∃ n, v = .sl es n 0 k false ∧ H.length ≤ n ∧ H1[n]? = some (.cells true cs)))

theorem Acc.nil (es : Nat) {H H1 : AHeap} (h : H <+: H1) : Acc es H H1 .nilS [] 0 := ⟨h, by simp, .inl ⟨rfl, rfl⟩⟩

theorem pre_trans {H H1 H2 : AHeap} (h : H <+: H1) (k : H1 <+: H2) : H <+: H2 := h.trans k
theorem pre_app (H : AHeap) (l : List AObj) : H <+: H ++ l := ⟨l, rfl⟩
theorem pre_get {H H1 : AHeap} (h : H <+: H1) {n : Nat} {o : AObj} (hn : H[n]? = some o) : H1[n]? = some o := by
  obtain ⟨t, rfl⟩ := h
  rw [List.getElem?_append_left (List.getElem?_eq_some_iff.1 hn).1]; exact hn
theorem pre_set {H H1 : AHeap} (h : H <+: H1) {n : Nat} (hn : H.length ≤ n) (o : AObj) : H <+: H1.set n o := by
  obtain ⟨t, rfl⟩ := h
  rw [List.set_append_right (h := hn)]
  exact ⟨_, rfl⟩

theorem Acc.mono {es : Nat} {H H1 H2 : AHeap} {v : AV} {cs : List AV} {k : Nat} (h : Acc es H H1 v cs k) (hp : H1 <+: H2) : Acc es H H2 v cs k := by
  obtain ⟨h1, h2, h3⟩ := h
  refine ⟨h1.trans hp, h2, ?_⟩
  rcases h3 with h | ⟨h0, n, h4, h5, h6⟩
  · exact .inl h
  · exact .inr ⟨h0, n, h4, h5, pre_get hp h6⟩

/-- What stands in an object that is older is not touched by what is appended to a younger one. -/
theorem Acc.app {es : Nat} {H H1 : AHeap} {v : AV} {cs : List AV} {k : Nat} (h : Acc es H H1 v cs k) {y : AV} {j : Nat} {new : List AV} (hy : slCells es H1 y = some (j, new)) (hn : new.length = j * es) (hl : k + j ≤ lim) :
    ∃ v' H2, appA es H1 v y = some (v', H2) ∧ Acc es H H2 v' (cs ++ new) (k + j) ∧ (∀ m, v' = .sl es m 0 (k + j) false → H.length ≤ m) := by
  obtain ⟨h1, h2, h3⟩ := h
  rcases h3 with ⟨rfl, rfl⟩ | ⟨h0, n, rfl, h5, h6⟩
  · have hcs : cs = [] := by simpa using h2
    subst hcs
    by_cases hj : j = 0
    · subst hj
      have hnn : new = [] := by simpa using hn
      subst hnn
      exact ⟨.nilS, H1, by simp [appA, hy], ⟨h1, by simp, .inl ⟨rfl, rfl⟩⟩, by simp⟩
    · refine ⟨.sl es H1.length 0 j false, H1 ++ [.cells true new], by simp [appA, hy, hj]; omega, ⟨h1.trans (pre_app _ _), by simp [hn], .inr ⟨by omega, H1.length, by simp, h1.length_le, by simp⟩⟩, ?_⟩
      intro m hm; simp at hm; rw [← hm]; exact h1.length_le
  · by_cases hj : j = 0
    · subst hj
      have hnn : new = [] := by simpa using hn
      subst hnn
      rw [List.append_nil, Nat.add_zero]
      refine ⟨.sl es n 0 k false, H1, by simp [appA, hy], ⟨h1, h2, .inr ⟨h0, n, rfl, h5, h6⟩⟩, ?_⟩
      intro m hm; simp at hm; omega
    · refine ⟨.sl es H1.length 0 (k + j) false, H1.set n .dead ++ [.cells true (cs ++ new)], ?_, ⟨(pre_set h1 h5 _).trans (pre_app _ _), by simp [hn, h2, Nat.add_mul], .inr ⟨by omega, H1.length, by simp, h1.length_le, by simp⟩⟩, ?_⟩
      · simp only [appA, hy, if_neg hj]
        have h7 : k + j ≤ lim := hl
        have h8 : k * es ≤ cs.length := by omega
        have h9 : cs.take (k * es) = cs := by rw [← h2, List.take_length]
        simp [h7, h6, h8, h9]
      · intro m hm; simp at hm; rw [← hm]; exact h1.length_le

/-- A list that a function returns. -/
def outV (es : Nat) (H : AHeap) (k : Nat) : AV := if k = 0 then .nilS else .sl es H.length 0 k false
def outH (H : AHeap) (cs : List AV) (k : Nat) : AHeap := if k = 0 then H else H ++ [.cells true cs]

/-- Cells in which nothing points anywhere. -/
def flat : AV → Bool
  | .int .. | .bool _ | .nilS | .nilP | .nilF | .nilM => true
  | _ => false

theorem ren_flat (f : Nat → Option Nat) (d : Nat) (x : AV) (h : flat x = true) : ren f (d + 1) x = x := by
  cases x <;> simp [flat] at h <;> rfl
theorem ren_flats (f : Nat → Option Nat) (d : Nat) (cs : List AV) (h : ∀ x ∈ cs, flat x = true) : cs.map (ren f (d + 1)) = cs := by
  induction cs with
  | nil => rfl
  | cons x xs ih =>
    rw [List.map_cons, ren_flat f d x (h x (by simp)), ih (fun y hy => h y (by simp [hy]))]

end Go.Eng
