/- Stores into a part of an element; a list that grows is a list that may be written. No conditions. -/
import Derived.Test.YtnnbggcckabhdaaS0
namespace Go.Proofs.Ytnnbggcckabhdaa
open Go Go.Eng

section
variable {α : Type} {es : Nat} {e : α → List AV} {A H : AHeap} {v : AV} {xs : List α}

theorem AccL_ol (h : AccL es e A H v xs) (he : ∀ x, (e x).length = es) (h0 : 0 < xs.length) : ∃ n, OL es e A H n v xs ∧ v = .sl es n 0 xs.length false := by
  obtain ⟨h1, h2, h3⟩ := h
  rcases h3 with ⟨h4, _⟩ | ⟨_, n, rfl, h5, h6⟩
  · omega
  · exact ⟨n, ⟨he, h1, h5, h6, false, rfl⟩, rfl⟩

theorem splice_part {l c : List AV} {es fo p : Nat} (hf : fo + c.length ≤ es) (hp : p + es ≤ l.length) : splice l (p + fo) c = splice l p (splice ((l.drop p).take es) fo c) := by
  unfold splice
  have h1 : ((l.drop p).take es).take fo = (l.drop p).take fo := by rw [List.take_take]; congr 1; omega
  have h2 : ((l.drop p).take es).drop (fo + c.length) = (l.drop (p + fo + c.length)).take (es - (fo + c.length)) := by
    rw [List.drop_take, List.drop_drop]; congr 2; omega
  rw [h1, h2]
  have h3 : ((l.drop p).take fo ++ c ++ (l.drop (p + fo + c.length)).take (es - (fo + c.length))).length = es := by
    simp only [List.length_append, List.length_take, List.length_drop]; omega
  rw [h3, List.take_add]
  have h4 : l.drop (p + fo + c.length) = (l.drop (p + fo + c.length)).take (es - (fo + c.length)) ++ l.drop (p + es) := by
    conv => lhs; rw [← List.take_append_drop (es - (fo + c.length)) (l.drop (p + fo + c.length))]
    rw [List.drop_drop]; congr 2; omega
  rw [h4]
  simp only [List.append_assoc]
  congr 3
  rw [List.take_append_of_le_length (by simp only [List.length_take, List.length_drop]; omega), List.take_take, Nat.min_self]

theorem OL_stF {n : Nat} (h : OL es e A H n v xs) {i : Nat} (hi : i < xs.length) (fo sz : Nat) (x : AV) (c : List AV) (z : α) (hx : x.cells? = some c) (hc : c.length = sz) (hfo : fo + sz ≤ es) (hz : splice (e xs[i]) fo c = e z) :
    stA sz (.ptr (nm v) (of v + i * es + fo)) x H = some (H.set n (.cells true ((xs.set i z).flatMap e))) := by
  obtain ⟨he, h1, h2, h3, full, rfl⟩ := h
  have hl := flatMap_length he xs
  have hle : i * es + es ≤ xs.length * es := by
    rw [← Nat.succ_mul]; exact Nat.mul_le_mul_right _ hi
  have hat := flatMap_at he xs i xs[i] (List.getElem?_eq_getElem hi)
  simp only [stA, nm, of, hx, h3, Nat.zero_add]
  rw [if_pos ⟨hc, by omega⟩, splice_part (es := es) (by omega) (by omega), hat, hz, splice_flat he hi z]

/-- A store into a part of an element of a list that grows. -/
theorem AccL_stF (h : AccL es e A H v xs) (he : ∀ x, (e x).length = es) {i : Nat} (hi : i < xs.length) (fo sz : Nat) (x : AV) (c : List AV) (z : α) (hx : x.cells? = some c) (hc : c.length = sz) (hfo : fo + sz ≤ es) (hz : splice (e xs[i]) fo c = e z) :
    ∃ H2, stA sz (.ptr (nm v) (of v + i * es + fo)) x H = some H2 ∧ AccL es e A H2 v (xs.set i z) := by
  obtain ⟨n, h1, rfl⟩ := AccL_ol h he (by omega)
  refine ⟨_, OL_stF h1 hi fo sz x c z hx hc hfo hz, ?_⟩
  have h2 := (h1.set i z).acc (by simp; omega)
  simpa using h2

theorem OL_st0 {n : Nat} (h : OL es e A H n v xs) {i : Nat} (hi : i < xs.length) (sz : Nat) (x : AV) (c : List AV) (z : α) (hx : x.cells? = some c) (hc : c.length = sz) (hfo : sz ≤ es) (hz : splice (e xs[i]) 0 c = e z) :
    stA sz (.ptr (nm v) (of v + i * es)) x H = some (H.set n (.cells true ((xs.set i z).flatMap e))) :=
  OL_stF h hi 0 sz x c z hx hc (by omega) hz

theorem AccL_st0 (h : AccL es e A H v xs) (he : ∀ x, (e x).length = es) {i : Nat} (hi : i < xs.length) (sz : Nat) (x : AV) (c : List AV) (z : α) (hx : x.cells? = some c) (hc : c.length = sz) (hfo : sz ≤ es) (hz : splice (e xs[i]) 0 c = e z) :
    ∃ H2, stA sz (.ptr (nm v) (of v + i * es)) x H = some H2 ∧ AccL es e A H2 v (xs.set i z) :=
  AccL_stF h he hi 0 sz x c z hx hc (by omega) hz

end

/-- All that was there before stays. -/
theorem OL.old {α : Type} {es : Nat} {e : α → List AV} {A H : AHeap} {n : Nat} {v : AV} {xs : List α} (h : OL es e A H n v xs) (o : AObj) : A <+: H.set n o := pre_set h.pre h.new o

/-- What is appended to an empty list that has just been made. -/
theorem app_new {α : Type} {es : Nat} {e : α → List AV} {A : AHeap} {y : AV} {ys : List α} (hy : Ls es e A y ys) (hl : ys.length ≤ lim) :
    ∃ v' n H2, appA es (A ++ [.cells true []]) (.sl es A.length 0 0 true) y = some (v', H2) ∧ OL es e A H2 n v' ys := by
  have hc := (hy.mono (pre_app A [.cells true []])).hc
  by_cases h0 : ys.length = 0
  · have : ys = [] := List.eq_nil_of_length_eq_zero h0
    subst this
    refine ⟨.sl es A.length 0 0 true, A.length, A ++ [.cells true []], ?_, hy.he, pre_app _ _, Nat.le_refl _, by simp, true, rfl⟩
    unfold appA
    rw [hc]
    simp
  · refine ⟨.sl es (A ++ [AObj.cells true []]).length 0 ys.length false, (A ++ [AObj.cells true []]).length, A ++ [AObj.cells true []] ++ [.cells true (ys.flatMap e)], ?_, hy.he, (pre_app A _).trans (pre_app _ _), by simp, by simp, false, rfl⟩
    unfold appA
    rw [hc]
    simp [h0, hl]

/-- A list that a call has returned may be written. -/
theorem OL_out {α : Type} {es : Nat} {e : α → List AV} (he : ∀ x, (e x).length = es) (A : AHeap) (xs : List α) (h0 : 0 < xs.length) : OL es e A (outH A (xs.flatMap e) xs.length) A.length (outV es A xs.length) xs := by
  unfold outV outH
  rw [if_neg (by omega), if_neg (by omega)]
  exact OL.new_mk he A xs false

theorem Ls_nn {α : Type} {es : Nat} {e : α → List AV} {A : AHeap} {v : AV} {xs : List α} (h : Ls es e A v xs) (h0 : 0 < xs.length) : v ≠ .nilS := by
  rintro rfl
  have := h.hc
  simp [slCells] at this
  omega

theorem LR_flat {ρ ρ' : Ren} {cs : List AV} {vs : List Value} (hf : ∀ x ∈ cs, flat x = true) (h : LR ρ cs vs) : LR ρ' cs vs := by
  refine ⟨h.1, fun i x v hx hv => ?_⟩
  have h1 := h.2 i x v hx hv
  have hx' := hf x (List.mem_of_getElem? hx)
  cases h1 <;> simp [flat] at hx' <;> constructor

/-- Nothing is kept but what was there, of which some lists may have turned. -/
theorem keep_mod {H H1 H' : AHeap} (hl : H'.length = H.length) (hp : H' <+: H1) (hm : ∀ n, n < H.length → H'[n]? = H[n]? ∨ (live H n ∧ ∃ rw cs, H'[n]? = some (.cells rw cs) ∧ ∀ x ∈ cs, flat x = true)) :
    Keep H H1 (fun n => if n < H.length then some n else none) H' := by
  intro ρ0 w0 ρ1 w1 s0 s1 st
  have hsub := st.sub s0
  have get : ∀ n, n < H.length → H1[n]? = H'[n]? := fun n hn => by
    obtain ⟨t, rfl⟩ := hp
    rw [List.getElem?_append_left (by omega)]
  have lv : ∀ n, n < H.length → live H' n → live H n := fun n hn h => by
    rcases hm n hn with e | ⟨e, _⟩
    · unfold live at *; rw [← e]; exact h
    · exact e
  refine ⟨ρ0, ⟨fun n L e => ⟨by rw [hl]; exact (s0.dom n L e).1, Nat.lt_of_lt_of_le (s0.dom n L e).2 st.size⟩, fun n L o e ho => ?_, fun n m L M hn hm' hne l1 l2 => s0.sep n m L M hn hm' hne (lv n (s0.dom n L hn).1 l1) (lv m (s0.dom m M hm').1 l2)⟩,
    ⟨fun _ _ => rfl, by omega, st.os, st.tape, st.out, st.size, st.keep, fun b ⟨n, L, h1, h2, h3, h4⟩ => .inr ⟨n, L, h1, h2, h3, lv n (s0.dom n L h1).1 h4⟩, fun n L e => .inl (s0.dom n L e).1⟩, ?_, ?_⟩
  · have hn := (s0.dom n L e).1
    have h1 := s1.obj n L o (hsub n L e) (by rw [get n hn]; exact ho)
    rcases hm n hn with e1 | ⟨_, rw, cs, e1, hf⟩
    · rw [e1] at ho
      have h0 := s0.obj n L o e ho
      cases o with
      | dead => trivial
      | cells rw l =>
        cases hb0 : w0.heap[L.b]? with
        | none => rw [hb0] at h0; exact h0.elim
        | some b0 =>
          rw [hb0] at h0
          cases b0 <;> try exact h0.elim
          cases hb : w1.heap[L.b]? with
          | none => rw [hb] at h1; exact h1.elim
          | some b =>
            rw [hb] at h1
            cases b <;> first | exact h1.elim | exact ⟨h1.1, h1.2.1, LR.back hsub h0.2.2.1 h1.2.2.1, h1.2.2.2⟩
      | mp l =>
        cases hb0 : w0.heap[L.b]? with
        | none => rw [hb0] at h0; exact h0.elim
        | some b0 =>
          rw [hb0] at h0
          cases b0 <;> try exact h0.elim
          cases hb : w1.heap[L.b]? with
          | none => rw [hb] at h1; exact h1.elim
          | some b =>
            rw [hb] at h1
            cases b <;> first | exact h1.elim | exact ⟨h1.1, LR.back hsub h0.2.1 h1.2.1, LR.back hsub h0.2.2 h1.2.2⟩
    · rw [e1] at ho
      cases ho
      cases hb : w1.heap[L.b]? with
      | none => rw [hb] at h1; exact h1.elim
      | some b =>
        rw [hb] at h1
        cases b <;> first | exact h1.elim | exact ⟨h1.1, h1.2.1, LR_flat hf h1.2.2.1, h1.2.2.2⟩
  · intro n m L hf hn
    simp only at hf
    split at hf
    · rename_i hlt
      cases hf
      rw [← st.old n hlt]; exact hn
    · cases hf
  · intro m L e
    have hm' := (s0.dom m L e).1
    refine ⟨m, by simp [hm'], hsub m L e, fun h => ?_⟩
    unfold live at *
    rw [get m hm']; exact h

/-- One list has turned, and all that is new is dropped. -/
theorem gc_set {H H1 : AHeap} {n : Nat} {cs cs' : List AV} {rw : Bool} (hn : H[n]? = some (.cells rw cs)) (hf : ∀ x ∈ cs', flat x = true) (hp : H.set n (.cells rw cs') <+: H1) {v : AV} (hv : ∀ f, ren f 4 v = v) : GC H v H1 v (H.set n (.cells rw cs')) := by
  have hlt := (List.getElem?_eq_some_iff.1 hn).1
  refine gc_keep (keep_mod (by simp) hp (fun k hk => ?_)) (hv _)
  by_cases h : k = n
  · subst h
    exact .inr ⟨⟨_, hn, by simp⟩, rw, cs', by rw [List.getElem?_set_self hlt], hf⟩
  · exact .inl (by rw [List.getElem?_set_ne (Ne.symm h)])

theorem set_same {α : Type} {l : List α} {n : Nat} {x : α} (h : l[n]? = some x) : l.set n x = l := by
  have hlt := (List.getElem?_eq_some_iff.1 h).1
  have hx := (List.getElem?_eq_some_iff.1 h).2
  rw [← hx]
  exact List.set_getElem_self hlt

theorem flats {α : Type} {e : α → List AV} (hf : ∀ x, ∀ y ∈ e x, flat y = true) (xs : List α) : ∀ y ∈ xs.flatMap e, flat y = true := fun y hy => by
  obtain ⟨x, _, hx⟩ := List.mem_flatMap.1 hy
  exact hf x y hx

/-- A list that grows, when another object is written. -/
theorem AccL_other {α : Type} {es : Nat} {e : α → List AV} {A H : AHeap} {v : AV} {xs : List α} (h : AccL es e A H v xs) {m : Nat} (hm : A.length ≤ m) (hne : ∀ n len, v = .sl es n 0 len false → n ≠ m) (o : AObj) : AccL es e A (H.set m o) v xs := by
  obtain ⟨h1, h2, h3⟩ := h
  refine ⟨pre_set h1 hm o, h2, ?_⟩
  rcases h3 with h4 | ⟨h0, n, h4, h5, h6⟩
  · exact .inl h4
  · exact .inr ⟨h0, n, h4, h5, by rw [List.getElem?_set_ne (Ne.symm (hne n _ h4))]; exact h6⟩

theorem gc_old2 {A H : AHeap} (h : A <+: H) {a b : AV} (ha : flat a = true) (hb : flat b = true) : GC A (.tuple [a, b]) H (.tuple [a, b]) A := gc_val h (by simp [ren, ren_flat _ 2 a ha, ren_flat _ 2 b hb])

end Go.Proofs.Ytnnbggcckabhdaa
