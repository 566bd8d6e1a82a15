/- The abstract machine, part 21: lists that are made, and lists that are given. No conditions. -/
import Derived.Test.YtlmbobbefgcolaaEng20
namespace Go.Eng
open Go

/-- A list in the making, element by element. -/
def AccL {α : Type} (es : Nat) (e : α → List AV) (H H1 : AHeap) (v : AV) (xs : List α) : Prop := Acc es H H1 v (xs.flatMap e) xs.length

section
variable {α : Type} {es : Nat} {e : α → List AV} {H H1 : AHeap} {v : AV} {xs : List α}

theorem AccL.nil (h : H <+: H1) : AccL es e H H1 .nilS ([] : List α) := Acc.nil es h
theorem AccL.pre (h : AccL es e H H1 v xs) : H <+: H1 := h.1

theorem slCells_new (H1 : AHeap) (new : List AV) (hn : new.length = es) : slCells es (H1 ++ [.cells true new]) (.sl es H1.length 0 1 true) = some (1, new) := by
  simp [slCells, cellsAt, hn]
  rw [← hn, List.take_length]

theorem AccL.push (h : AccL es e H H1 v xs) (he : ∀ x, (e x).length = es) (x : α) (hl : xs.length + 1 ≤ lim) :
    ∃ v' H2, appA es (H1 ++ [.cells true (e x)]) v (.sl es H1.length 0 1 true) = some (v', H2) ∧ AccL es e H H2 v' (xs ++ [x]) := by
  obtain ⟨v', H2, h1, h2, _⟩ := (Acc.mono h (pre_app H1 [.cells true (e x)])).app (slCells_new H1 (e x) (he x)) (by rw [he x, Nat.one_mul]) hl
  refine ⟨v', H2, h1, ?_⟩
  unfold AccL
  rw [List.flatMap_append, List.length_append]
  simpa using h2

/-- A whole list is added. -/
theorem AccL.pushes (h : AccL es e H H1 v xs) {y : AV} {ys : List α} (hy : Ls es e H1 y ys) (hl : xs.length + ys.length ≤ lim) :
    ∃ v' H2, appA es H1 v y = some (v', H2) ∧ AccL es e H H2 v' (xs ++ ys) := by
  obtain ⟨v', H2, h1, h2, _⟩ := Acc.app h hy.hc (flatMap_length hy.he ys) hl
  refine ⟨v', H2, h1, ?_⟩
  unfold AccL
  rw [List.flatMap_append, List.length_append]
  exact h2

theorem AccL.mono (h : AccL es e H H1 v xs) {H2 : AHeap} (hp : H1 <+: H2) : AccL es e H H2 v xs := Acc.mono h hp

theorem Acc.keep {cs : List AV} {k : Nat} (h : Acc es H H1 v cs k) (hf : ∀ x ∈ cs, flat x = true) : ∃ f, Keep H H1 f (outH H cs k) ∧ ∀ d, ren f (d + 1) v = outV es H k := by
  obtain ⟨h1, h2, h3⟩ := h
  rcases h3 with ⟨rfl, rfl⟩ | ⟨h0, n, rfl, h5, h6⟩
  · exact ⟨_, keep_old h1, fun d => rfl⟩
  · have hk := Keep.add (keep_old h1) (n := n) (o := .cells true cs) h5 (by simp; omega) h6
    simp only [renO, ren_flats _ 3 cs hf] at hk
    have ho : outH H cs k = H ++ [.cells true cs] := by rw [outH, if_neg (by omega)]
    rw [ho]
    exact ⟨_, hk, fun d => by simp [ren, outV, show k ≠ 0 by omega]⟩

theorem AccL.gc (h : AccL es e H H1 v xs) (hf : ∀ x, ∀ y ∈ e x, flat y = true) : GC H v H1 (outV es H xs.length) (outH H (xs.flatMap e) xs.length) := by
  obtain ⟨f, h1, h2⟩ := Acc.keep h (fun y hy => by
    obtain ⟨x, _, hx⟩ := List.mem_flatMap.1 hy
    exact hf x y hx)
  exact gc_keep h1 (h2 3)

/-- A list with a number beside it. -/
theorem AccL.gc2 (h : AccL es e H H1 v xs) (hf : ∀ x, ∀ y ∈ e x, flat y = true) (c : AV) (hc : flat c = true) : GC H (.tuple [v, c]) H1 (.tuple [outV es H xs.length, c]) (outH H (xs.flatMap e) xs.length) := by
  obtain ⟨f, h1, h2⟩ := Acc.keep h (fun y hy => by
    obtain ⟨x, _, hx⟩ := List.mem_flatMap.1 hy
    exact hf x y hx)
  refine gc_keep h1 ?_
  simp [ren, h2 2, ren_flat f 2 c hc]

theorem pre_out (H : AHeap) (cs : List AV) (k : Nat) : H <+: outH H cs k := by
  unfold outH; split
  · exact List.prefix_refl _
  · exact pre_app _ _

theorem Ls_out (H : AHeap) (he : ∀ x, (e x).length = es) (xs : List α) : Ls es e (outH H (xs.flatMap e) xs.length) (outV es H xs.length) xs := by
  refine ⟨he, ?_⟩
  unfold outV outH
  by_cases h : xs.length = 0
  · rw [if_pos h, if_pos h]
    have : xs = [] := List.eq_nil_of_length_eq_zero h
    subst this; rfl
  · rw [if_neg h, if_neg h]
    simp [slCells, cellsAt, flatMap_length he]
    rw [← flatMap_length he xs, List.take_length]

/-- What points nowhere stays. -/
theorem gc_old (h : H <+: H1) (hv : ∀ f, ren f 4 v = v) : GC H v H1 v H := gc_val h (hv _)

end

theorem flat_e1 (x : Int) : ∀ y ∈ e1 x, flat y = true := by simp [e1, flat]
theorem flat_e2 (x : Int × Int) : ∀ y ∈ e2 x, flat y = true := by simp [e2, flat]

/-! What the arguments of a law are. -/

theorem wf64 {n : Int} (h : (Lit.int .i64 n).wf = true) : -9223372036854775808 ≤ n ∧ n ≤ 9223372036854775807 := by
  simp only [Lit.wf, Bool.and_eq_true, decide_eq_true_eq, IntKind.min, IntKind.max, IntKind.signed, IntKind.bits] at h
  simp at h
  omega

theorem AOK.int_inv {H : AHeap} {k : IntKind} {v : AV} (h : AOK H (.int k) v) : ∃ n, v = .int k n ∧ (Lit.int k n).wf = true := by
  cases h with
  | int _ n h => exact ⟨n, rfl, h⟩

theorem AOK.ints {H : AHeap} {v : AV} (h : AOK H (.sl 1 [.int .i64]) v) : ∃ xs : List Int, L1 H v xs ∧ xs.length ≤ maxLen ∧ ∀ x ∈ xs, -9223372036854775808 ≤ x ∧ x ≤ 9223372036854775807 := by
  cases h with
  | nil => exact ⟨[], ⟨e1_len, rfl⟩, by simp, by simp⟩
  | sl _ _ n len l h1 h2 h3 _ h5 =>
    have key : ∀ (l : List AV), (∀ x ∈ l, ∃ n, x = I n ∧ -9223372036854775808 ≤ n ∧ n ≤ 9223372036854775807) → ∃ xs : List Int, l = xs.flatMap e1 ∧ xs.length = l.length ∧ ∀ x ∈ xs, -9223372036854775808 ≤ x ∧ x ≤ 9223372036854775807 := by
      intro l
      induction l with
      | nil => intro _; exact ⟨[], rfl, rfl, by simp⟩
      | cons a l ih =>
        intro h
        obtain ⟨xs, g1, g2, g3⟩ := ih (fun x hx => h x (by simp [hx]))
        obtain ⟨n, rfl, hn⟩ := h a (by simp)
        refine ⟨n :: xs, by simp [g1, e1], by simp [g2], fun x hx => ?_⟩
        rcases List.mem_cons.1 hx with rfl | hx
        · exact hn
        · exact g3 x hx
    obtain ⟨xs, g1, g2, g3⟩ := key l (fun x hx => by
      obtain ⟨i, hi, hie⟩ := List.mem_iff_getElem.1 hx
      have := h5 i 0 x (.int .i64) (by omega) (by omega) (by simp [← hie, List.getElem?_eq_getElem hi]) rfl
      obtain ⟨n, rfl, hn⟩ := this.int_inv
      exact ⟨n, rfl, wf64 hn⟩)
    have hlen : xs.length = len := by omega
    refine ⟨xs, ⟨e1_len, ?_⟩, by omega, g3⟩
    simp only [slCells, cellsAt, h2, if_true, Nat.zero_add]
    rw [if_pos (by omega)]
    simp only [← g1, ← h3, List.drop_zero, List.take_length, Option.map_some, hlen]

/-- Pairs of numbers. -/
theorem AOK.pairs {H : AHeap} {v : AV} (h : AOK H (.sl 2 [.int .i64, .int .i64]) v) : ∃ xs : List (Int × Int), L2 H v xs ∧ xs.length ≤ maxLen ∧ ∀ x ∈ xs, (-9223372036854775808 ≤ x.1 ∧ x.1 ≤ 9223372036854775807) ∧ (-9223372036854775808 ≤ x.2 ∧ x.2 ≤ 9223372036854775807) := by
  cases h with
  | nil => exact ⟨[], ⟨e2_len, rfl⟩, by simp, by simp⟩
  | sl _ _ n len l h1 h2 h3 _ h5 =>
    have key : ∀ (k : Nat) (l : List AV), l.length = k * 2 → (∀ x ∈ l, ∃ n, x = I n ∧ -9223372036854775808 ≤ n ∧ n ≤ 9223372036854775807) → ∃ xs : List (Int × Int), l = xs.flatMap e2 ∧ xs.length = k ∧ ∀ x ∈ xs, (-9223372036854775808 ≤ x.1 ∧ x.1 ≤ 9223372036854775807) ∧ (-9223372036854775808 ≤ x.2 ∧ x.2 ≤ 9223372036854775807) := by
      intro k
      induction k with
      | zero => intro l hl _; exact ⟨[], by simpa using hl, rfl, by simp⟩
      | succ k ih =>
        intro l hl h
        match l, hl with
        | a :: b :: l, hl =>
          obtain ⟨xs, g1, g2, g3⟩ := ih l (by simp at hl; omega) (fun x hx => h x (by simp [hx]))
          obtain ⟨n, rfl, hn⟩ := h a (by simp)
          obtain ⟨m, rfl, hm⟩ := h b (by simp)
          refine ⟨(n, m) :: xs, by simp [g1, e2], by simp [g2], fun x hx => ?_⟩
          rcases List.mem_cons.1 hx with rfl | hx
          · exact ⟨hn, hm⟩
          · exact g3 x hx
        | [], hl => simp at hl
        | [_], hl => simp at hl; omega
    obtain ⟨xs, g1, g2, g3⟩ := key len l h3 (fun x hx => by
      obtain ⟨i, hi, hie⟩ := List.mem_iff_getElem.1 hx
      have hxi : l[i / 2 * 2 + i % 2]? = some x := by rw [Nat.div_add_mod', List.getElem?_eq_getElem hi, hie]
      have hk : ([CK.int .i64, CK.int .i64] : List CK)[i % 2]? = some (.int .i64) := by
        rcases Nat.mod_two_eq_zero_or_one i with h | h <;> rw [h] <;> rfl
      have := h5 (i / 2) (i % 2) x (.int .i64) (by omega) (by omega) hxi hk
      obtain ⟨n, rfl, hn⟩ := this.int_inv
      exact ⟨n, rfl, wf64 hn⟩)
    refine ⟨xs, ⟨e2_len, ?_⟩, by omega, g3⟩
    simp only [slCells, cellsAt, h2, if_true, Nat.zero_add]
    rw [if_pos (by omega)]
    simp [g2, ← g1, ← h3, List.take_length]

theorem ArgA.pair {H : AHeap} {v : AV} (h : ArgA H (true, [.int .i64, .int .i64]) v) : ∃ a b : Int, v = .agg [I a, I b] ∧ (-9223372036854775808 ≤ a ∧ a ≤ 9223372036854775807) ∧ (-9223372036854775808 ≤ b ∧ b ≤ 9223372036854775807) := by
  obtain ⟨l, rfl, hl, h⟩ := h
  match l, hl with
  | [x, y], _ =>
    obtain ⟨a, rfl, ha⟩ := (h 0 _ x rfl rfl).int_inv
    obtain ⟨b, rfl, hb⟩ := (h 1 _ y rfl rfl).int_inv
    exact ⟨a, b, rfl, wf64 ha, wf64 hb⟩

theorem ArgA.quad {H : AHeap} {v : AV} (h : ArgA H (true, [.int .i64, .int .i64, .int .i64, .int .i64]) v) : ∃ a b c d : Int, v = .agg [I a, I b, I c, I d] ∧ (-9223372036854775808 ≤ a ∧ a ≤ 9223372036854775807) ∧ (-9223372036854775808 ≤ b ∧ b ≤ 9223372036854775807) ∧ (-9223372036854775808 ≤ c ∧ c ≤ 9223372036854775807) ∧ (-9223372036854775808 ≤ d ∧ d ≤ 9223372036854775807) := by
  obtain ⟨l, rfl, hl, h⟩ := h
  match l, hl with
  | [x, y, z, w], _ =>
    obtain ⟨a, rfl, ha⟩ := (h 0 _ x rfl rfl).int_inv
    obtain ⟨b, rfl, hb⟩ := (h 1 _ y rfl rfl).int_inv
    obtain ⟨c, rfl, hc⟩ := (h 2 _ z rfl rfl).int_inv
    obtain ⟨d, rfl, hd⟩ := (h 3 _ w rfl rfl).int_inv
    exact ⟨a, b, c, d, rfl, wf64 ha, wf64 hb, wf64 hc, wf64 hd⟩

theorem ArgA.num {H : AHeap} {v : AV} (h : ArgA H (false, [.int .i64]) v) : ∃ a : Int, v = I a ∧ (-9223372036854775808 ≤ a ∧ a ≤ 9223372036854775807) := by
  obtain ⟨k, hk, h⟩ := h
  cases hk
  obtain ⟨a, rfl, ha⟩ := h.int_inv
  exact ⟨a, rfl, wf64 ha⟩

theorem ArgA.ints {H : AHeap} {v : AV} (h : ArgA H (false, [.sl 1 [.int .i64]]) v) : ∃ xs : List Int, L1 H v xs ∧ xs.length ≤ maxLen ∧ ∀ x ∈ xs, -9223372036854775808 ≤ x ∧ x ≤ 9223372036854775807 := by
  obtain ⟨k, hk, h⟩ := h
  cases hk
  exact h.ints

theorem ArgA.pairs {H : AHeap} {v : AV} (h : ArgA H (false, [.sl 2 [.int .i64, .int .i64]]) v) : ∃ xs : List (Int × Int), L2 H v xs ∧ xs.length ≤ maxLen ∧ ∀ x ∈ xs, (-9223372036854775808 ≤ x.1 ∧ x.1 ≤ 9223372036854775807) ∧ (-9223372036854775808 ≤ x.2 ∧ x.2 ≤ 9223372036854775807) := by
  obtain ⟨k, hk, h⟩ := h
  cases hk
  exact h.pairs

end Go.Eng
