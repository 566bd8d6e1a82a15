/- Copies, and what a call hands back. No conditions. -/
import Derived.Test.YtlmbobbefgcolaaS2
namespace Go.Proofs.Ytlmbobbefgcolaa
open Go Go.Eng

theorem flat_take {α : Type} {es : Nat} {e : α → List AV} (he : ∀ x, (e x).length = es) (xs : List α) (m : Nat) (hm : m ≤ xs.length) : (xs.flatMap e).take (m * es) = (xs.take m).flatMap e := by
  have h1 := flatMap_length he (xs.take m)
  rw [List.length_take, Nat.min_eq_left hm] at h1
  conv => lhs; rw [← List.take_append_drop m xs, List.flatMap_append]
  rw [← h1, List.take_left]
theorem flat_drop {α : Type} {es : Nat} {e : α → List AV} (he : ∀ x, (e x).length = es) (xs : List α) (m : Nat) (hm : m ≤ xs.length) : (xs.flatMap e).drop (m * es) = (xs.drop m).flatMap e := by
  have h1 := flatMap_length he (xs.take m)
  rw [List.length_take, Nat.min_eq_left hm] at h1
  conv => lhs; rw [← List.take_append_drop m xs, List.flatMap_append]
  rw [← h1, List.drop_left]

/-- A copy into a list that the call has made. -/
theorem OL_cpy {α : Type} {es : Nat} {e : α → List AV} {A H : AHeap} {n : Nat} {v : AV} {xs ys : List α} (h : OL es e A H n v xs) {y : AV} (hy : Ls es e H y ys) (m : Nat) (hm : m ≤ xs.length) (full : Bool) :
    cpA es (.sl es n (m * es) (xs.length - m) full) y H = some (I ((min ys.length (xs.length - m) : Nat) : Int), H.set n (.cells true ((xs.take m ++ ys.take (min ys.length (xs.length - m)) ++ xs.drop (m + min ys.length (xs.length - m))).flatMap e))) := by
  have hl := flatMap_length h.he xs
  have hs : (xs.length - m) * es = xs.length * es - m * es := Nat.sub_mul _ _ _
  have hmm : m * es ≤ xs.length * es := Nat.mul_le_mul_right _ hm
  have hk : min ys.length (xs.length - m) ≤ ys.length := Nat.min_le_left _ _
  have hk2 : m + min ys.length (xs.length - m) ≤ xs.length := by omega
  unfold cpA
  simp only [hy.hc, h.ob, if_true]
  rw [if_pos (by omega)]
  congr 2
  congr 2
  unfold splice
  rw [flat_take h.he xs m hm, flat_take h.he ys _ hk]
  have h3 := flatMap_length h.he (ys.take (min ys.length (xs.length - m)))
  rw [List.length_take, Nat.min_eq_left hk] at h3
  rw [h3, ← Nat.add_mul, flat_drop h.he xs _ hk2]
  simp only [List.flatMap_append]

theorem OL_setAll {α : Type} {es : Nat} {e : α → List AV} {A H : AHeap} {n : Nat} {v : AV} {xs : List α} (h : OL es e A H n v xs) (xs' : List α) (hl : xs'.length = xs.length) : OL es e A (H.set n (.cells true (xs'.flatMap e))) n v xs' := by
  have hn := h.lt
  obtain ⟨he, h1, h2, h3, full, rfl⟩ := h
  exact ⟨he, pre_set h1 h2 _, h2, by rw [List.getElem?_set_self hn], full, by rw [hl]⟩

/-- A call that looks at nothing in the heap, with two results. -/
theorem ACalls_lift2 {P : Program} {f : FuncId} {args : List AV} {a b : AV} {H' : AHeap} (h : ACalls P f args [] (.tuple [a, b]) H') (ha : ∀ x ∈ args, flat x = true) (h1 : flat a = true) (h2 : flat b = true) (H : AHeap) : ACalls P f args H (.tuple [a, b]) H := by
  refine ⟨h.1, fun ρ w cargs hs hargs => ?_⟩
  have s0 : Sim (fun _ => none) [] w := ⟨fun _ _ e => (by cases e), fun _ _ _ e => (by cases e), fun _ _ _ _ e => (by cases e)⟩
  have fl : ∀ {ρ ρ' : Ren} {x : AV} {u : Value}, flat x = true → VR ρ x u → VR ρ' x u := by
    intro ρ ρ' x u hx hr
    cases hr <;> simp [flat] at hx <;> constructor
  have a0 : LR (fun _ => none) args cargs.toList := ⟨hargs.1, fun i x u hx hu => fl (ha x (List.mem_of_getElem? hx)) (hargs.2 i x u hx hu)⟩
  refine (h.2 _ w cargs s0 a0).mono ?_
  rintro e w' ⟨ρ', cv, rfl, hv, _, h3⟩
  have hk : ∀ b, b < w.heap.size → w'.heap[b]? = w.heap[b]? := fun b hb => h3.keep b hb (fun ⟨n, L, e, _⟩ => (by cases e))
  have hv' : VR ρ (.tuple [a, b]) cv := by
    cases hv with
    | tuple _ vs hl hh =>
      refine .tuple _ _ hl (fun i x u hx hu => ?_)
      match i with
      | 0 => simp at hx; subst hx; exact fl h1 (hh 0 _ u rfl hu)
      | 1 => simp at hx; subst hx; exact fl h2 (hh 1 _ u rfl hu)
      | i + 2 => simp at hx
  refine ⟨ρ, cv, rfl, hv', hs.world h3.size (fun n L e => hk _ (hs.dom n L e).2), ⟨fun _ _ => rfl, Nat.le_refl _, h3.os, h3.tape, h3.out, h3.size, fun b hb _ => hk b hb, fun _ h => .inr h, fun n L e => .inl (hs.dom n L e).1⟩⟩

theorem u64w (n : Int) (h0 : 0 ≤ n) (h1 : n < 9223372036854775808) : IntKind.u64.wrap n = n := by
  have e : IntKind.u64.wrap n = n % 18446744073709551616 := by simp [IntKind.wrap, IntKind.bits, IntKind.signed]
  rw [e]; omega

theorem OL_gcS {α : Type} {es : Nat} {e : α → List AV} {A H : AHeap} {n : Nat} {v : AV} {xs : List α} (h : OL es e A H n v xs) (hf : ∀ x, ∀ y ∈ e x, flat y = true) : GC A v H (.sl es A.length 0 xs.length false) (A ++ [.cells true (xs.flatMap e)]) := by
  obtain ⟨he, h1, h2, h3, full, rfl⟩ := h
  have hfl : ∀ y ∈ xs.flatMap e, flat y = true := fun y hy => by
    obtain ⟨x, _, hx⟩ := List.mem_flatMap.1 hy
    exact hf x y hx
  refine gc_weak (fun ρ c => VR.unfull) ?_
  have hk := Keep.add (keep_old h1) (n := n) (o := .cells true (xs.flatMap e)) h2 (by simp; omega) h3
  simp only [renO, ren_flats _ 3 _ hfl] at hk
  exact gc_keep hk (by simp [ren])

theorem rep_step {α : Type} (r z : α) {n m : Nat} (hm : m ≤ n) :
    (List.replicate m r ++ List.replicate (n - m) z).take m ++ ((List.replicate m r ++ List.replicate (n - m) z).take m).take (min m (n - m)) ++ (List.replicate m r ++ List.replicate (n - m) z).drop (m + min m (n - m)) = List.replicate (m + min m (n - m)) r ++ List.replicate (n - (m + min m (n - m))) z := by
  have h1 : (List.replicate m r ++ List.replicate (n - m) z).take m = List.replicate m r := by
    rw [List.take_append_of_le_length (by simp), List.take_of_length_le (by simp)]
  rw [h1, List.take_replicate, List.drop_append]
  simp only [List.length_replicate, List.drop_replicate]
  rw [show min (min m (n - m)) m = min m (n - m) by omega, show m - (m + min m (n - m)) = 0 by omega, show m + min m (n - m) - m = min m (n - m) by omega, show n - m - min m (n - m) = n - (m + min m (n - m)) by omega]
  rw [List.replicate_zero, List.nil_append, List.replicate_append_replicate]

theorem AccL_out {α : Type} {es : Nat} {e : α → List AV} {A H : AHeap} (hp : A <+: H) (he : ∀ x, (e x).length = es) (xs : List α) : AccL es e A (outH H (xs.flatMap e) xs.length) (outV es H xs.length) xs := by
  refine ⟨hp.trans (pre_out _ _ _), flatMap_length he xs, ?_⟩
  unfold outV outH
  by_cases h : xs.length = 0
  · rw [if_pos h, if_pos h]; exact .inl ⟨h, rfl⟩
  · rw [if_neg h, if_neg h]
    exact .inr ⟨by omega, H.length, rfl, hp.length_le, by simp⟩


theorem LR_flat {ρ ρ' : Ren} {cs : List AV} {vs : List Value} (hf : ∀ x ∈ cs, flat x = true) (h : LR ρ cs vs) : LR ρ' cs vs := by
  refine ⟨h.1, fun i x v hx hv => ?_⟩
  have h1 := h.2 i x v hx hv
  have hx' := hf x (List.mem_of_getElem? hx)
  cases h1 <;> simp [flat] at hx' <;> constructor

/-- Nothing is kept but what was there, of which some lists may have turned. -/
theorem keep_mod {H H1 H' : AHeap} (hl : H'.length = H.length) (hp : H' <+: H1) (hm : ∀ n, n < H.length → H'[n]? = H[n]? ∨ (live H n ∧ ∃ rw cs, H'[n]? = some (.cells rw cs) ∧ ∀ x ∈ cs, flat x = true)) :
    Keep H H1 (fun n => if n < H.length then some n else none) H' := by
  intro ρ0 w0 ρ1 w1 s0 s1 st
  have hsub := st.sub s0
  have get : ∀ n, n < H.length → H1[n]? = H'[n]? := fun n hn => by
    obtain ⟨t, rfl⟩ := hp
    rw [List.getElem?_append_left (by omega)]
  have lv : ∀ n, n < H.length → live H' n → live H n := fun n hn h => by
    rcases hm n hn with e | ⟨e, _⟩
    · unfold live at *; rw [← e]; exact h
    · exact e
  refine ⟨ρ0, ⟨fun n L e => ⟨by rw [hl]; exact (s0.dom n L e).1, Nat.lt_of_lt_of_le (s0.dom n L e).2 st.size⟩, fun n L o e ho => ?_, fun n m L M hn hm' hne l1 l2 => s0.sep n m L M hn hm' hne (lv n (s0.dom n L hn).1 l1) (lv m (s0.dom m M hm').1 l2)⟩,
    ⟨fun _ _ => rfl, by omega, st.os, st.tape, st.out, st.size, st.keep, fun b ⟨n, L, h1, h2, h3, h4⟩ => .inr ⟨n, L, h1, h2, h3, lv n (s0.dom n L h1).1 h4⟩, fun n L e => .inl (s0.dom n L e).1⟩, ?_, ?_⟩
  · have hn := (s0.dom n L e).1
    have h1 := s1.obj n L o (hsub n L e) (by rw [get n hn]; exact ho)
    rcases hm n hn with e1 | ⟨_, rw, cs, e1, hf⟩
    · rw [e1] at ho
      have h0 := s0.obj n L o e ho
      cases o with
      | dead => trivial
      | cells rw l =>
        cases hb0 : w0.heap[L.b]? with
        | none => rw [hb0] at h0; exact h0.elim
        | some b0 =>
          rw [hb0] at h0
          cases b0 <;> try exact h0.elim
          cases hb : w1.heap[L.b]? with
          | none => rw [hb] at h1; exact h1.elim
          | some b =>
            rw [hb] at h1
            cases b <;> first | exact h1.elim | exact ⟨h1.1, h1.2.1, LR.back hsub h0.2.2.1 h1.2.2.1, h1.2.2.2⟩
      | mp l =>
        cases hb0 : w0.heap[L.b]? with
        | none => rw [hb0] at h0; exact h0.elim
        | some b0 =>
          rw [hb0] at h0
          cases b0 <;> try exact h0.elim
          cases hb : w1.heap[L.b]? with
          | none => rw [hb] at h1; exact h1.elim
          | some b =>
            rw [hb] at h1
            cases b <;> first | exact h1.elim | exact ⟨h1.1, LR.back hsub h0.2.1 h1.2.1, LR.back hsub h0.2.2 h1.2.2⟩
    · rw [e1] at ho
      cases ho
      cases hb : w1.heap[L.b]? with
      | none => rw [hb] at h1; exact h1.elim
      | some b =>
        rw [hb] at h1
        cases b <;> first | exact h1.elim | exact ⟨h1.1, h1.2.1, LR_flat hf h1.2.2.1, h1.2.2.2⟩
  · intro n m L hf hn
    simp only at hf
    split at hf
    · rename_i hlt
      cases hf
      rw [← st.old n hlt]; exact hn
    · cases hf
  · intro m L e
    have hm' := (s0.dom m L e).1
    refine ⟨m, by simp [hm'], hsub m L e, fun h => ?_⟩
    unfold live at *
    rw [get m hm']; exact h

/-- One list has turned, and all that is new is dropped. -/
theorem gc_set {H H1 : AHeap} {n : Nat} {cs cs' : List AV} {rw : Bool} (hn : H[n]? = some (.cells rw cs)) (hf : ∀ x ∈ cs', flat x = true) (hp : H.set n (.cells rw cs') <+: H1) {v : AV} (hv : flat v = true) : GC H v H1 v (H.set n (.cells rw cs')) := by
  have hlt := (List.getElem?_eq_some_iff.1 hn).1
  refine gc_keep (keep_mod (by simp) hp (fun k hk => ?_)) (ren_flat _ 3 v hv)
  by_cases h : k = n
  · subst h
    exact .inr ⟨⟨_, hn, by simp⟩, rw, cs', by rw [List.getElem?_set_self hlt], hf⟩
  · exact .inl (by rw [List.getElem?_set_ne (Ne.symm h)])

theorem set_same {α : Type} {l : List α} {n : Nat} {x : α} (h : l[n]? = some x) : l.set n x = l := by
  have hlt := (List.getElem?_eq_some_iff.1 h).1
  have hx := (List.getElem?_eq_some_iff.1 h).2
  rw [← hx]
  exact List.set_getElem_self hlt

end Go.Proofs.Ytlmbobbefgcolaa
