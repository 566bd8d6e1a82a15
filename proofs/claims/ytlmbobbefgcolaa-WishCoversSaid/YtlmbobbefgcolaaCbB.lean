/- What the law's proof rests on, part 4: for all that is said in each line. No conditions. -/
import Derived.Test.YtlmbobbefgcolaaRows
import Derived.Test.YtlmbobbefgcolaaCbA
namespace Go.Proofs.Ytlmbobbefgcolaa
open Go Go.Eng
/-- How many bits. -/
def pc (s : Nat) : Nat := if h : s = 0 then 0 else s % 2 + pc (s / 2)
termination_by s
theorem pc_0 : pc 0 = 0 := by unfold pc; simp
theorem pc_eq (s : Nat) : pc s = s % 2 + pc (s / 2) := by
  by_cases h : s = 0
  · subst h; simp [pc_0]
  · conv => lhs; unfold pc
    rw [dif_neg h]
theorem tb_succ (x i : Nat) : x.testBit (i + 1) = (x / 2).testBit i := Nat.testBit_succ x i
theorem tb_zero (x : Nat) : x.testBit 0 = decide (x % 2 = 1) := Nat.testBit_zero x
theorem pc_add : ∀ (p s : Nat), s.testBit p = false → pc (s + 2 ^ p) = pc s + 1
  | 0, s, h => by
    rw [tb_zero, decide_eq_false_iff_not] at h
    rw [pc_eq (s + 2 ^ 0), pc_eq s]
    have : (s + 2 ^ 0) / 2 = s / 2 := by omega
    rw [this]; omega
  | p + 1, s, h => by
    rw [tb_succ] at h
    have ih := pc_add p (s / 2) h
    rw [pc_eq (s + 2 ^ (p + 1)), pc_eq s]
    have h1 : (s + 2 ^ (p + 1)) / 2 = s / 2 + 2 ^ p := by rw [Nat.pow_succ]; omega
    have h2 : (s + 2 ^ (p + 1)) % 2 = s % 2 := by rw [Nat.pow_succ]; omega
    rw [h1, h2, ih]; omega
theorem tb_add : ∀ (p s q : Nat), s.testBit p = false → (s + 2 ^ p).testBit q = (s.testBit q || decide (q = p))
  | 0, s, q, h => by
    rw [tb_zero, decide_eq_false_iff_not] at h
    cases q with
    | zero => rw [tb_zero, tb_zero]; simp; omega
    | succ q =>
      rw [tb_succ, tb_succ]
      have : (s + 2 ^ 0) / 2 = s / 2 := by omega
      rw [this]; simp
  | p + 1, s, q, h => by
    rw [tb_succ] at h
    have h1 : (s + 2 ^ (p + 1)) / 2 = s / 2 + 2 ^ p := by rw [Nat.pow_succ]; omega
    have h2 : (s + 2 ^ (p + 1)) % 2 = s % 2 := by rw [Nat.pow_succ]; omega
    cases q with
    | zero => rw [tb_zero, tb_zero, h2]; simp
    | succ q => rw [tb_succ, tb_succ, h1, tb_add p (s / 2) q h]; simp
theorem tb_sub : ∀ (p t : Nat), t.testBit p = true → ∃ s, s.testBit p = false ∧ t = s + 2 ^ p
  | 0, t, h => by
    rw [tb_zero, decide_eq_true_eq] at h
    exact ⟨t - 1, by rw [tb_zero]; simp; omega, by omega⟩
  | p + 1, t, h => by
    rw [tb_succ] at h
    obtain ⟨s, h1, h2⟩ := tb_sub p (t / 2) h
    refine ⟨2 * s + t % 2, ?_, by rw [Nat.pow_succ]; omega⟩
    rw [tb_succ, show (2 * s + t % 2) / 2 = s by omega]
    exact h1
/-- The sets that can be given, owner after owner; one owner is left out. -/
def cb (f : Nat → Bool) (l : List Int) (t : Nat) : Bool := f t || l.any (fun p => t.testBit p.toNat && f (t - 2 ^ p.toNat))
def cF (ls : List (List Int)) (wo : Int) : Nat → Nat → Bool
  | 0, t => t == 0
  | i + 1, t => if (i : Int) = wo then cF ls wo i t else cb (cF ls wo i) (lst ls i) t
/-- The places that are given, as bits. -/
def mask (g : List Int) : Nat := ((given g).map (fun p => 2 ^ p.toNat)).sum
/-- A giving to the first owners. -/
structure Pre (ls : List (List Int)) (wo : Int) (i : Nat) (g : List Int) : Prop where
  len : g.length = i
  low : ∀ k, k < i → -1 ≤ has g k
  wish : ∀ k, k < i → 0 ≤ has g k → has g k ∈ lst ls k ∧ (k : Int) ≠ wo
  inj : ∀ a b, a < i → b < i → 0 ≤ has g a → has g a = has g b → a = b
theorem given_append (g : List Int) (x : Int) : given (g ++ [x]) = given g ++ if 0 ≤ x then [x] else [] := by
  unfold given
  rw [List.filter_append]
  simp [List.filter_cons]
theorem mask_append (g : List Int) (x : Int) : mask (g ++ [x]) = mask g + if 0 ≤ x then 2 ^ x.toNat else 0 := by
  unfold mask
  rw [given_append]
  split <;> simp
theorem srv_append (g : List Int) (x : Int) : srv (g ++ [x]) = srv g + if 0 ≤ x then 1 else 0 := by
  unfold srv
  rw [List.countP_append]
  simp [List.countP_cons]
theorem has_append {g : List Int} {x : Int} {k : Nat} : has (g ++ [x]) k = if k < g.length then has g k else if k = g.length then x else -1 := by
  unfold has
  by_cases h : k < g.length
  · rw [if_pos h, List.getElem?_append_left h]
  · rw [if_neg h, List.getElem?_append_right (by omega)]
    by_cases h2 : k = g.length
    · subst h2; simp
    · rw [if_neg h2]
      have : ([x] : List Int)[k - g.length]? = none := by rw [List.getElem?_eq_none]; simp; omega
      rw [this]; rfl
/-- The bits of a mask are the places that are given. -/
theorem mask_bits {ls : List (List Int)} {wo : Int} : ∀ (i : Nat) (g : List Int), Pre ls wo i g → (∀ q : Nat, (mask g).testBit q = true ↔ (q : Int) ∈ g) ∧ pc (mask g) = srv g
  | 0, g, h => by
    have : g = [] := List.eq_nil_of_length_eq_zero h.len
    subst this
    refine ⟨fun q => ?_, ?_⟩
    · simp [mask, given]
    · simp [mask, given, srv, pc_0]
  | i + 1, g, h => by
    obtain ⟨g0, x, rfl⟩ : ∃ g0 x, g = g0 ++ [x] := ⟨g.dropLast, g.getLast (by intro e; have := h.len; rw [e] at this; cases this), (List.dropLast_concat_getLast _).symm⟩
    have hl : g0.length = i := by have := h.len; simp at this; exact this
    have h0 : Pre ls wo i g0 := by
      have e : ∀ k, k < i → has (g0 ++ [x]) k = has g0 k := fun k hk => by rw [has_append, if_pos (by omega)]
      refine ⟨hl, fun k hk => by rw [← e k hk]; exact h.low k (by omega), fun k hk h1 => by rw [← e k hk] at *; exact h.wish k (by omega) h1, fun a b ha hb h1 h2 => h.inj a b (by omega) (by omega) (by rw [e a ha]; exact h1) (by rw [e a ha, e b hb]; exact h2)⟩
    obtain ⟨m1, m2⟩ := mask_bits i g0 h0
    have hx : has (g0 ++ [x]) i = x := by rw [has_append, if_neg (by omega), if_pos (by omega)]
    by_cases hx0 : 0 ≤ x
    · have hnot : x ∉ g0 := fun hm => by
        obtain ⟨k, hk, e⟩ := List.mem_iff_getElem.1 hm
        have hh : has (g0 ++ [x]) k = x := by rw [has_append, if_pos hk, has_get (List.getElem?_eq_getElem hk), e]
        have := h.inj k i (by omega) (by omega) (by rw [hh]; exact hx0) (by rw [hh, hx])
        omega
      have hbit : (mask g0).testBit x.toNat = false := by
        cases hb : (mask g0).testBit x.toNat with
        | false => rfl
        | true => exact absurd (by have := (m1 _).1 hb; rwa [Int.toNat_of_nonneg hx0] at this) hnot
      rw [mask_append, srv_append, if_pos hx0, if_pos hx0]
      refine ⟨fun q => ?_, by rw [pc_add _ _ hbit, m2]⟩
      rw [tb_add _ _ _ hbit, Bool.or_eq_true, m1 q, decide_eq_true_eq, List.mem_append]
      constructor
      · rintro (h1 | h1)
        · exact .inl h1
        · exact .inr (by simp; omega)
      · rintro (h1 | h1)
        · exact .inl h1
        · exact .inr (by simp at h1; omega)
    · rw [mask_append, srv_append, if_neg hx0, if_neg hx0]
      refine ⟨fun q => ?_, by simpa using m2⟩
      rw [Nat.add_zero, m1 q, List.mem_append]
      constructor
      · exact .inl
      · rintro (h1 | h1)
        · exact h1
        · simp at h1; omega
theorem cF_iff {ls : List (List Int)} {wo : Int} (hls : ∀ l ∈ ls, ∀ p ∈ l, 0 ≤ p) : ∀ (i t : Nat), cF ls wo i t = true ↔ ∃ g, Pre ls wo i g ∧ mask g = t
  | 0, t => by
    rw [cF, beq_iff_eq]
    constructor
    · rintro rfl
      exact ⟨[], ⟨rfl, fun k h => by omega, fun k h => by omega, fun a b h => by omega⟩, rfl⟩
    · rintro ⟨g, hg, rfl⟩
      have : g = [] := List.eq_nil_of_length_eq_zero hg.len
      subst this; rfl
  | i + 1, t => by
    have hin : ∀ (k : Nat) p, p ∈ lst ls k → 0 ≤ p := fun k p hp => by
      rw [lst_nat] at hp
      cases hl : ls[k]? with
      | none => rw [hl] at hp; simp at hp
      | some l => rw [hl] at hp; exact hls l (List.mem_of_getElem? hl) p hp
    have ext : ∀ g x, Pre ls wo i g → (x = -1 ∨ (0 ≤ x ∧ x ∈ lst ls i ∧ (i : Int) ≠ wo ∧ x ∉ g)) → Pre ls wo (i + 1) (g ++ [x]) := fun g x hg hx => by
      have e : ∀ k, k < i → has (g ++ [x]) k = has g k := fun k hk => by rw [has_append, if_pos (by have := hg.len; omega)]
      have e2 : has (g ++ [x]) i = x := by rw [has_append, if_neg (by have := hg.len; omega), if_pos (by have := hg.len; omega)]
      refine ⟨by simp [hg.len], fun k hk => ?_, fun k hk h1 => ?_, fun a b ha hb h1 h2 => ?_⟩
      · by_cases hki : k = i
        · subst hki; rw [e2]; omega
        · rw [e k (by omega)]; exact hg.low k (by omega)
      · by_cases hki : k = i
        · subst hki
          rw [e2] at h1 ⊢
          rcases hx with hx | hx
          · omega
          · exact ⟨hx.2.1, hx.2.2.1⟩
        · rw [e k (by omega)] at *; exact hg.wish k (by omega) h1
      · have notin : ∀ k, k < i → 0 ≤ x → has g k ≠ x := fun k hk h0 he => by
          rcases hx with rfl | hx
          · omega
          · exact hx.2.2.2 (by rw [← he]; exact has_mem (by have := hg.len; omega))
        by_cases hai : a = i
        · by_cases hbi : b = i
          · omega
          · rw [hai, e2] at h1 h2
            rw [e b (by omega)] at h2
            exact absurd h2.symm (notin b (by omega) h1)
        · by_cases hbi : b = i
          · rw [e a (by omega)] at h1 h2
            rw [hbi, e2] at h2
            exact absurd h2 (notin a (by omega) (by omega))
          · rw [e a (by omega)] at h1 h2
            rw [e b (by omega)] at h2
            exact hg.inj a b (by omega) (by omega) h1 h2
    have split : ∀ g, Pre ls wo (i + 1) g → ∃ g0 x, g = g0 ++ [x] ∧ Pre ls wo i g0 ∧ (x = -1 ∨ (0 ≤ x ∧ x ∈ lst ls i ∧ (i : Int) ≠ wo ∧ x ∉ g0)) := fun g h => by
      obtain ⟨g0, x, rfl⟩ : ∃ g0 x, g = g0 ++ [x] := ⟨g.dropLast, g.getLast (by intro e; have := h.len; rw [e] at this; cases this), (List.dropLast_concat_getLast _).symm⟩
      have hl : g0.length = i := by have := h.len; simp at this; exact this
      have e : ∀ k, k < i → has (g0 ++ [x]) k = has g0 k := fun k hk => by rw [has_append, if_pos (by omega)]
      have hx : has (g0 ++ [x]) i = x := by rw [has_append, if_neg (by omega), if_pos (by omega)]
      refine ⟨g0, x, rfl, ⟨hl, fun k hk => by rw [← e k hk]; exact h.low k (by omega), fun k hk h1 => by rw [← e k hk] at *; exact h.wish k (by omega) h1, fun a b ha hb h1 h2 => h.inj a b (by omega) (by omega) (by rw [e a ha]; exact h1) (by rw [e a ha, e b hb]; exact h2)⟩, ?_⟩
      by_cases hx0 : 0 ≤ x
      · have hw := h.wish i (by omega) (by rw [hx]; exact hx0)
        rw [hx] at hw
        refine .inr ⟨hx0, hw.1, hw.2, fun hm => ?_⟩
        obtain ⟨k, hk, ek⟩ := List.mem_iff_getElem.1 hm
        have hh : has (g0 ++ [x]) k = x := by rw [has_append, if_pos hk, has_get (List.getElem?_eq_getElem hk), ek]
        have := h.inj k i (by omega) (by omega) (by rw [hh]; exact hx0) (by rw [hh, hx])
        omega
      · have := h.low i (by omega)
        rw [hx] at this
        exact .inl (by omega)
    rw [cF]
    by_cases hwo : (i : Int) = wo
    · rw [if_pos hwo, cF_iff hls i t]
      constructor
      · rintro ⟨g, hg, rfl⟩
        exact ⟨g ++ [-1], ext g (-1) hg (.inl rfl), by rw [mask_append]; simp⟩
      · rintro ⟨g, hg, rfl⟩
        obtain ⟨g0, x, rfl, h0, hx⟩ := split g hg
        rcases hx with rfl | hx
        · exact ⟨g0, h0, by rw [mask_append]; simp⟩
        · exact absurd hwo hx.2.2.1
    · rw [if_neg hwo, cb, Bool.or_eq_true, cF_iff hls i t, List.any_eq_true]
      constructor
      · rintro (⟨g, hg, rfl⟩ | ⟨p, hp, h⟩)
        · exact ⟨g ++ [-1], ext g (-1) hg (.inl rfl), by rw [mask_append]; simp⟩
        · rw [Bool.and_eq_true, cF_iff hls i] at h
          obtain ⟨h1, g, hg, hm⟩ := h
          have hp0 := hin i p hp
          obtain ⟨s, s1, s2⟩ := tb_sub _ _ h1
          have hms : mask g = s := by omega
          have hnot : p ∉ g := fun hmem => by
            have := (mask_bits i g hg).1 p.toNat |>.2 (by rw [Int.toNat_of_nonneg hp0]; exact hmem)
            rw [hms, s1] at this; cases this
          exact ⟨g ++ [p], ext g p hg (.inr ⟨hp0, hp, hwo, hnot⟩), by rw [mask_append, if_pos hp0, hms, ← s2]⟩
      · rintro ⟨g, hg, rfl⟩
        obtain ⟨g0, x, rfl, h0, hx⟩ := split g hg
        rcases hx with rfl | ⟨x0, x1, x2, x3⟩
        · exact .inl ⟨g0, h0, by rw [mask_append]; simp⟩
        · refine .inr ⟨x, x1, ?_⟩
          have hb : (mask g0).testBit x.toNat = false := by
            cases hb : (mask g0).testBit x.toNat with
            | false => rfl
            | true => exact absurd (by have := ((mask_bits i g0 h0).1 _).1 hb; rwa [Int.toNat_of_nonneg x0] at this) x3
          rw [mask_append, if_pos x0, Bool.and_eq_true, cF_iff hls i, tb_add _ _ _ hb]
          exact ⟨by simp, g0, h0, by omega⟩
/-- The greatest number of bits of those that can be given. -/
def mb (f : Nat → Bool) : Nat → Nat
  | 0 => 0
  | s + 1 => if f s = true then max (mb f s) (pc s) else mb f s
theorem mb_le (f : Nat → Bool) : ∀ n s, s < n → f s = true → pc s ≤ mb f n
  | n + 1, s, h, hf => by
    rw [mb]
    by_cases hs : s = n
    · subst hs; rw [if_pos hf]; omega
    · have := mb_le f n s (by omega) hf
      split <;> omega
theorem mb_ex (f : Nat → Bool) : ∀ n, mb f n = 0 ∨ ∃ s, s < n ∧ f s = true ∧ pc s = mb f n
  | 0 => .inl rfl
  | n + 1 => by
    rw [mb]
    by_cases hf : f n = true
    · rw [if_pos hf]
      rcases Nat.le_total (mb f n) (pc n) with h | h
      · exact .inr ⟨n, by omega, hf, by omega⟩
      · rcases mb_ex f n with h1 | ⟨s, h1, h2, h3⟩
        · exact .inl (by omega)
        · exact .inr ⟨s, by omega, h2, by omega⟩
    · rw [if_neg hf]
      rcases mb_ex f n with h1 | ⟨s, h1, h2, h3⟩
      · exact .inl h1
      · exact .inr ⟨s, by omega, h2, h3⟩
/-- The wishes without an owner's. -/
def drp (ls : List (List Int)) (wo : Int) : List (List Int) := if 0 ≤ wo then ls.set wo.toNat [] else ls
theorem drp_len (ls : List (List Int)) (wo : Int) : (drp ls wo).length = ls.length := by unfold drp; split <;> simp
theorem drp_lst {ls : List (List Int)} {wo : Int} {k : Nat} (hk : k < ls.length) : lst (drp ls wo) k = if (k : Int) = wo then [] else lst ls k := by
  rw [lst_nat, lst_nat]
  unfold drp
  by_cases h : 0 ≤ wo
  · rw [if_pos h, List.getElem?_set]
    by_cases h2 : (k : Int) = wo
    · rw [if_pos h2, if_pos (by omega)]
      by_cases h3 : wo.toNat < ls.length <;> simp [h3]
    · rw [if_neg h2, if_neg (by omega)]
  · rw [if_neg h, if_neg (by omega)]
theorem pre_good {P : Int} {ls : List (List Int)} (hls : ∀ l ∈ ls, ∀ p ∈ l, inP P p) (hP : 0 ≤ P) {wo : Int} {g : List Int} : Pre ls wo ls.length g ↔ Good P (drp ls wo) g := by
  constructor
  · intro h
    refine ⟨by rw [drp_len]; exact h.len, fun k hk => ?_, fun k hk h0 => ?_, fun a b ha hb => ?_⟩
    · rw [drp_len] at hk
      refine ⟨h.low k hk, ?_⟩
      by_cases h0 : 0 ≤ has g k
      · exact (lst_in hls (h.wish k hk h0).1).2
      · omega
    · rw [drp_len] at hk
      have := h.wish k hk h0
      rw [drp_lst hk, if_neg this.2]
      exact this.1
    · rw [drp_len] at ha hb; exact h.inj a b ha hb
  · intro h
    have hl := h.len
    rw [drp_len] at hl
    refine ⟨hl, fun k hk => (h.rng k (by rw [drp_len]; exact hk)).1, fun k hk h0 => ?_, fun a b ha hb => h.inj a b (by rw [drp_len]; exact ha) (by rw [drp_len]; exact hb)⟩
    have := h.wish k (by rw [drp_len]; exact hk) h0
    rw [drp_lst hk] at this
    split at this
    · simp at this
    · rename_i h2; exact ⟨this, h2⟩
theorem drp_in {P : Int} {ls : List (List Int)} (hls : ∀ l ∈ ls, ∀ p ∈ l, inP P p) (wo : Int) : ∀ l ∈ drp ls wo, ∀ p ∈ l, inP P p := by
  intro l hl p hp
  unfold drp at hl
  split at hl
  · rcases List.mem_or_eq_of_mem_set hl with h | rfl
    · exact hls l h p hp
    · simp at hp
  · exact hls l hl p hp
theorem mask_lt {P : Int} {ls : List (List Int)} (hls : ∀ l ∈ ls, ∀ p ∈ l, inP P p) {wo : Int} {g : List Int} (h : Pre ls wo ls.length g) : mask g < 2 ^ P.toNat := by
  refine Nat.lt_pow_two_of_testBit _ (fun q hq => ?_)
  cases hb : (mask g).testBit q with
  | false => rfl
  | true =>
    have := ((mask_bits _ g h).1 q).1 hb
    obtain ⟨k, hk, e⟩ := List.mem_iff_getElem.1 this
    have hkl : k < ls.length := by rw [← h.len]; exact hk
    have hh : has g k = (q : Int) := by rw [has_get (List.getElem?_eq_getElem hk), e]
    have := lst_in hls (h.wish k hkl (by rw [hh]; omega)).1
    rw [hh] at this
    have := this.2
    omega
/-- The document's most is the most. -/
theorem mb_most {P : Int} (hP : 0 ≤ P) {ls : List (List Int)} (hls : ∀ l ∈ ls, ∀ p ∈ l, inP P p) (wo : Int) : mb (cF ls wo ls.length) (2 ^ P.toNat) = most P (drp ls wo) := by
  have h0 : ∀ l ∈ ls, ∀ p ∈ l, 0 ≤ p := fun l hl p hp => (hls l hl p hp).1
  refine (most_eq hP (drp_in hls wo) ?_ ?_).symm
  · rcases mb_ex (cF ls wo ls.length) (2 ^ P.toNat) with h | ⟨s, h1, h2, h3⟩
    · refine ⟨List.replicate (drp ls wo).length (-1), good_none P hP _, ?_⟩
      rw [h]
      simp [srv]
    · obtain ⟨g, hg, rfl⟩ := (cF_iff h0 _ _).1 h2
      exact ⟨g, (pre_good hls hP).1 hg, by rw [← h3, (mask_bits _ g hg).2]⟩
  · intro g hg
    have hp := (pre_good hls hP).2 hg
    rw [← (mask_bits _ g hp).2]
    exact mb_le _ _ _ (mask_lt hls hp) ((cF_iff h0 _ _).2 ⟨g, hp, rfl⟩)
end Go.Proofs.Ytlmbobbefgcolaa

namespace Go.Proofs.Ytlmbobbefgcolaa
open Go Go.Eng
/-- selion/selionlaw07.WishSures [] -/
def m3 : MFun := ⟨55, [1], [.mov (.s 2)],
 .seq (.ops [⟨(some 1), some (.junk), none, false, .pu (.bnew (.s 0))⟩,
   ⟨(some 2), some undefA, none, false, .pu (.mov (.c (.bool false)))⟩])
 (.seq (.seq (.ops [⟨(some 11), some undefA, none, false, .pu (.bget none 1 0 2 true)⟩,
   ⟨(some 12), some undefA, none, false, .call 17 [(.s 11)]⟩])
 (.cond (.s 12) (.seq (.ops [⟨(some 13), some undefA, none, false, .call 18 []⟩,
    ⟨(some 2), some undefA, none, false, .pu (.mov (.s 13))⟩])
  (.ret))
 (.skip)))
 (.seq (.ops [⟨(some 15), some undefA, none, false, .pu (.bget none 1 0 2 true)⟩,
   ⟨(some 16), some undefA, none, false, .call 19 [(.s 15)]⟩,
   ⟨(some 14), some undefA, none, false, .pu (.mov (.s 16))⟩,
   ⟨(some 17), some undefA, none, false, .pu (.extr 0 (.s 14))⟩,
   ⟨(some 18), some undefA, none, false, .pu (.extr 1 (.s 14))⟩,
   ⟨(some 3), some undefA, none, false, .pu (.mov (.s 17))⟩,
   ⟨(some 4), some undefA, none, false, .pu (.mov (.s 18))⟩])
 (.seq (.ops [⟨(some 20), some undefA, none, false, .pu (.bget none 1 0 2 true)⟩,
   ⟨(some 21), some undefA, none, false, .call 20 [(.s 20)]⟩,
   ⟨(some 19), some undefA, none, false, .pu (.mov (.s 21))⟩,
   ⟨(some 22), some undefA, none, false, .pu (.extr 0 (.s 19))⟩,
   ⟨(some 23), some undefA, none, false, .pu (.extr 1 (.s 19))⟩,
   ⟨(some 5), some undefA, none, false, .pu (.mov (.s 22))⟩,
   ⟨(some 6), some undefA, none, false, .pu (.mov (.s 23))⟩])
 (.seq (.ops [⟨(some 25), some undefA, none, false, .pu (.bget none 1 0 2 true)⟩,
   ⟨(some 26), some undefA, none, false, .call 21 [(.s 25)]⟩,
   ⟨(some 24), some undefA, none, false, .pu (.mov (.s 26))⟩,
   ⟨(some 27), some undefA, none, false, .pu (.extr 0 (.s 24))⟩,
   ⟨(some 28), some undefA, none, false, .pu (.extr 1 (.s 24))⟩,
   ⟨(some 7), some undefA, none, false, .pu (.mov (.s 27))⟩,
   ⟨(some 8), some undefA, none, false, .pu (.mov (.s 28))⟩])
 (.seq (.ops [⟨(some 30), some undefA, none, false, .pu (.bget none 1 0 2 true)⟩,
   ⟨(some 31), some undefA, none, false, .call 22 [(.s 30)]⟩,
   ⟨(some 29), some undefA, none, false, .pu (.mov (.s 31))⟩,
   ⟨(some 32), some undefA, none, false, .pu (.extr 0 (.s 29))⟩,
   ⟨(some 33), some undefA, none, false, .pu (.extr 1 (.s 29))⟩,
   ⟨(some 9), some undefA, none, false, .pu (.mov (.s 32))⟩,
   ⟨(some 10), some undefA, none, false, .pu (.mov (.s 33))⟩])
 (.seq (.ops [⟨(some 34), some undefA, none, false, .pu (.mov (.s 3))⟩,
   ⟨(some 35), some undefA, none, false, .pu (.mov (.s 5))⟩,
   ⟨(some 36), some undefA, none, false, .call 23 [(.s 34), (.s 35)]⟩,
   ⟨(some 37), some undefA, none, false, .pu (.mov (.s 36))⟩,
   ⟨(some 38), some undefA, (some (37, true)), false, .pu (.mov (.s 4))⟩,
   ⟨(some 39), some undefA, (some (37, true)), false, .pu (.mov (.s 6))⟩,
   ⟨(some 40), some undefA, (some (37, true)), false, .pu (.bin .eql (.s 38) (.s 39))⟩,
   ⟨(some 41), some undefA, none, false, .pu (.pick (.s 37) (.s 40) (.c (.bool false)))⟩,
   ⟨(some 42), some undefA, none, false, .pu (.mov (.s 41))⟩,
   ⟨(some 43), some undefA, (some (42, true)), false, .pu (.mov (.s 7))⟩,
   ⟨(some 44), some undefA, (some (42, true)), false, .pu (.mov (.s 9))⟩,
   ⟨(some 45), some undefA, (some (42, true)), false, .call 23 [(.s 43), (.s 44)]⟩,
   ⟨(some 46), some undefA, none, false, .pu (.pick (.s 42) (.s 45) (.c (.bool false)))⟩,
   ⟨(some 47), some undefA, none, false, .pu (.mov (.s 46))⟩,
   ⟨(some 48), some undefA, (some (47, true)), false, .pu (.mov (.s 8))⟩,
   ⟨(some 49), some undefA, (some (47, true)), false, .pu (.mov (.s 10))⟩,
   ⟨(some 50), some undefA, (some (47, true)), false, .pu (.bin .eql (.s 48) (.s 49))⟩,
   ⟨(some 51), some undefA, none, false, .pu (.pick (.s 47) (.s 50) (.c (.bool false)))⟩,
   ⟨(some 52), some undefA, none, false, .pu (.mov (.s 51))⟩,
   ⟨(some 53), some undefA, (some (52, true)), false, .call 18 []⟩,
   ⟨(some 54), some undefA, none, false, .pu (.pick (.s 52) (.s 53) (.c (.bool false)))⟩,
   ⟨(some 2), some undefA, none, false, .pu (.mov (.s 54))⟩])
 (.ret)))))))⟩
theorem t3 : trF Try.prog [1] [] Try.f3 = some m3 := by kernel_rfl
/-- selion/selionlaw07.WishCovers [] -/
def m14 : MFun := ⟨106, [3], [.mov (.s 6)],
 .seq (.ops [⟨(some 3), some (.junk), none, false, .pu (.bnew (.s 0))⟩,
   ⟨(some 6), some undefA, none, false, .pu (.mov (.c (.bool false)))⟩])
 (.seq (.seq (.ops [⟨(some 18), some undefA, none, false, .pu (.bget none 3 0 2 true)⟩,
   ⟨(some 19), some undefA, none, false, .call 17 [(.s 18)]⟩,
   ⟨(some 20), some undefA, none, false, .pu (.mov (.s 19))⟩,
   ⟨(some 21), some undefA, (some (20, false)), false, .pu (.mov (.s 1))⟩,
   ⟨(some 22), some undefA, (some (20, false)), false, .call 32 [(.s 21)]⟩,
   ⟨(some 23), some undefA, none, false, .pu (.pick (.s 20) (.c (.bool true)) (.s 22))⟩,
   ⟨(some 24), some undefA, none, false, .pu (.mov (.s 23))⟩,
   ⟨(some 25), some undefA, (some (24, false)), false, .pu (.mov (.s 2))⟩,
   ⟨(some 26), some undefA, (some (24, false)), false, .call 32 [(.s 25)]⟩,
   ⟨(some 27), some undefA, none, false, .pu (.pick (.s 24) (.c (.bool true)) (.s 26))⟩])
 (.cond (.s 27) (.seq (.ops [⟨(some 28), some undefA, none, false, .call 18 []⟩,
    ⟨(some 6), some undefA, none, false, .pu (.mov (.s 28))⟩])
  (.ret))
 (.skip)))
 (.seq (.ops [⟨(some 30), some undefA, none, false, .pu (.bget none 3 0 2 true)⟩,
   ⟨(some 31), some undefA, none, false, .pu (.mov (.s 1))⟩,
   ⟨(some 32), some undefA, none, false, .pu (.mov (.s 2))⟩,
   ⟨(some 33), some undefA, none, false, .call 46 [(.s 30), (.s 31), (.s 32)]⟩,
   ⟨(some 29), some undefA, none, false, .pu (.mov (.s 33))⟩,
   ⟨(some 34), some undefA, none, false, .pu (.extr 0 (.s 29))⟩,
   ⟨(some 35), some undefA, none, false, .pu (.extr 1 (.s 29))⟩,
   ⟨(some 7), some undefA, none, false, .pu (.mov (.s 34))⟩,
   ⟨(some 8), some undefA, none, false, .pu (.mov (.s 35))⟩])
 (.seq (.ops [⟨(some 37), some undefA, none, false, .pu (.bget none 3 0 2 true)⟩,
   ⟨(some 38), some undefA, none, false, .pu (.mov (.s 1))⟩,
   ⟨(some 39), some undefA, none, false, .pu (.mov (.s 2))⟩,
   ⟨(some 40), some undefA, none, false, .call 50 [(.s 37), (.s 38), (.s 39)]⟩,
   ⟨(some 36), some undefA, none, false, .pu (.mov (.s 40))⟩,
   ⟨(some 41), some undefA, none, false, .pu (.extr 0 (.s 36))⟩,
   ⟨(some 42), some undefA, none, false, .pu (.extr 1 (.s 36))⟩,
   ⟨(some 9), some undefA, none, false, .pu (.mov (.s 41))⟩,
   ⟨(some 10), some undefA, none, false, .pu (.mov (.s 42))⟩])
 (.seq (.ops [⟨(some 44), some undefA, none, false, .pu (.bget none 3 0 2 true)⟩,
   ⟨(some 45), some undefA, none, false, .call 51 [(.s 44)]⟩,
   ⟨(some 43), some undefA, none, false, .pu (.mov (.s 45))⟩,
   ⟨(some 46), some undefA, none, false, .pu (.extr 0 (.s 43))⟩,
   ⟨(some 47), some undefA, none, false, .pu (.extr 1 (.s 43))⟩,
   ⟨(some 48), some undefA, none, false, .pu (.extr 2 (.s 43))⟩,
   ⟨(some 11), some undefA, none, false, .pu (.mov (.s 46))⟩,
   ⟨(some 12), some undefA, none, false, .pu (.mov (.s 47))⟩,
   ⟨(some 13), some undefA, none, false, .pu (.mov (.s 48))⟩])
 (.seq (.ops [⟨(some 50), some undefA, none, false, .pu (.bget none 3 0 2 true)⟩,
   ⟨(some 51), some undefA, none, false, .call 25 [(.s 50)]⟩,
   ⟨(some 49), some undefA, none, false, .pu (.mov (.s 51))⟩,
   ⟨(some 52), some undefA, none, false, .pu (.extr 0 (.s 49))⟩,
   ⟨(some 53), some undefA, none, false, .pu (.extr 1 (.s 49))⟩,
   ⟨(some 14), some undefA, none, false, .pu (.mov (.s 52))⟩,
   ⟨(some 15), some undefA, none, false, .pu (.mov (.s 53))⟩])
 (.seq (.seq (.ops [⟨(some 54), some undefA, none, false, .pu (.mov (.s 7))⟩,
   ⟨(some 55), some undefA, none, false, .pu (.mov (.s 9))⟩,
   ⟨(some 56), some undefA, none, false, .pu (.bin .neq (.s 54) (.s 55))⟩,
   ⟨(some 57), some undefA, none, false, .pu (.mov (.s 56))⟩,
   ⟨(some 58), some undefA, (some (57, false)), false, .pu (.mov (.s 8))⟩,
   ⟨(some 59), some undefA, (some (57, false)), false, .pu (.mov (.s 10))⟩,
   ⟨(some 60), some undefA, (some (57, false)), false, .pu (.bin .neq (.s 58) (.s 59))⟩,
   ⟨(some 61), some undefA, none, false, .pu (.pick (.s 57) (.c (.bool true)) (.s 60))⟩,
   ⟨(some 62), some undefA, none, false, .pu (.mov (.s 61))⟩,
   ⟨(some 63), some undefA, (some (62, false)), false, .pu (.mov (.s 13))⟩,
   ⟨(some 64), some undefA, (some (62, false)), false, .pu (.mov (.s 15))⟩,
   ⟨(some 65), some undefA, (some (62, false)), false, .pu (.bin .neq (.s 63) (.s 64))⟩,
   ⟨(some 66), some undefA, none, false, .pu (.pick (.s 62) (.c (.bool true)) (.s 65))⟩])
 (.cond (.s 66) (.seq (.ops [⟨(some 6), some undefA, none, false, .pu (.mov (.c (.bool false)))⟩])
  (.ret))
 (.skip)))
 (.seq (.seq (.ops [⟨(some 67), some undefA, none, false, .pu (.mov (.s 13))⟩,
   ⟨(some 68), some undefA, none, false, .pu (.bin .neq (.s 67) (.c (.int .i64 0)))⟩])
 (.cond (.s 68) (.seq (.ops [⟨(some 69), some undefA, none, false, .pu (.mov (.s 11))⟩,
    ⟨(some 70), some undefA, none, false, .pu (.len (.s 69))⟩,
    ⟨(some 71), some undefA, none, false, .pu (.bin .eql (.s 70) (.c (.int .i64 0)))⟩,
    ⟨(some 72), some undefA, none, false, .pu (.mov (.s 71))⟩,
    ⟨(some 73), some undefA, (some (72, true)), false, .pu (.mov (.s 12))⟩,
    ⟨(some 74), some undefA, (some (72, true)), false, .pu (.len (.s 73))⟩,
    ⟨(some 75), some undefA, (some (72, true)), false, .pu (.bin .eql (.s 74) (.c (.int .i64 0)))⟩,
    ⟨(some 76), some undefA, none, false, .pu (.pick (.s 72) (.s 75) (.c (.bool false)))⟩,
    ⟨(some 77), some undefA, none, false, .pu (.mov (.s 76))⟩,
    ⟨(some 78), some undefA, (some (77, true)), false, .call 18 []⟩,
    ⟨(some 79), some undefA, none, false, .pu (.pick (.s 77) (.s 78) (.c (.bool false)))⟩,
    ⟨(some 6), some undefA, none, false, .pu (.mov (.s 79))⟩])
  (.ret))
 (.skip)))
 (.seq (.ops [⟨(some 81), some undefA, none, false, .pu (.bget none 3 0 2 true)⟩,
   ⟨(some 82), some undefA, none, false, .pu (.mov (.s 11))⟩,
   ⟨(some 83), some undefA, none, false, .pu (.mov (.s 12))⟩,
   ⟨(some 84), some undefA, none, false, .call 50 [(.s 81), (.s 82), (.s 83)]⟩,
   ⟨(some 80), some undefA, none, false, .pu (.mov (.s 84))⟩,
   ⟨(some 85), some undefA, none, false, .pu (.extr 0 (.s 80))⟩,
   ⟨(some 86), some undefA, none, false, .pu (.extr 1 (.s 80))⟩,
   ⟨(some 16), some undefA, none, false, .pu (.mov (.s 85))⟩,
   ⟨(some 17), some undefA, none, false, .pu (.mov (.s 86))⟩])
 (.seq (.ops [⟨(some 87), some undefA, none, false, .pu (.mov (.s 17))⟩,
   ⟨(some 88), some undefA, none, false, .pu (.bin .eql (.s 87) (.c (.int .i64 0)))⟩,
   ⟨(some 89), some undefA, none, false, .pu (.mov (.s 88))⟩,
   ⟨(some 90), some undefA, (some (89, true)), false, .pu (.mov (.s 16))⟩,
   ⟨(some 91), some undefA, (some (89, true)), false, .pu (.mov (.s 14))⟩,
   ⟨(some 92), some undefA, (some (89, true)), false, .pu (.bin .eql (.s 90) (.s 91))⟩,
   ⟨(some 93), some undefA, none, false, .pu (.pick (.s 89) (.s 92) (.c (.bool false)))⟩,
   ⟨(some 94), some undefA, none, false, .pu (.mov (.s 93))⟩,
   ⟨(some 95), some undefA, (some (94, true)), false, .pu (.mov (.s 8))⟩,
   ⟨(some 96), some undefA, (some (94, true)), false, .pu (.bin .neq (.s 95) (.c (.int .i64 0)))⟩,
   ⟨(some 97), some undefA, (some (94, true)), false, .pu (.mov (.s 96))⟩,
   ⟨(some 98), some undefA, (some (97, false)), false, .pu (.mov (.s 7))⟩,
   ⟨(some 99), some undefA, (some (97, false)), false, .pu (.mov (.s 14))⟩,
   ⟨(some 100), some undefA, (some (97, false)), false, .pu (.bin .geq (.s 98) (.s 99))⟩,
   ⟨(some 101), some undefA, (some (94, true)), false, .pu (.pick (.s 97) (.c (.bool true)) (.s 100))⟩,
   ⟨(some 102), some undefA, none, false, .pu (.pick (.s 94) (.s 101) (.c (.bool false)))⟩,
   ⟨(some 103), some undefA, none, false, .pu (.mov (.s 102))⟩,
   ⟨(some 104), some undefA, (some (103, true)), false, .call 18 []⟩,
   ⟨(some 105), some undefA, none, false, .pu (.pick (.s 103) (.s 104) (.c (.bool false)))⟩,
   ⟨(some 6), some undefA, none, false, .pu (.mov (.s 105))⟩])
 (.ret))))))))))⟩
theorem t14 : trF Try.prog [3] [] Try.f14 = some m14 := by kernel_rfl
end Go.Proofs.Ytlmbobbefgcolaa

namespace Go.Proofs.Ytlmbobbefgcolaa
open Go Go.Eng
end Go.Proofs.Ytlmbobbefgcolaa

namespace Go.Proofs.Ytlmbobbefgcolaa
open Go Go.Eng
theorem lsE_all {P : Int} : ∀ {ls : List (List Int)}, lsE P ls = 0 → ∀ l ∈ ls, lE P l = 0
  | [], _, _, h => by simp at h
  | a :: ls, h, l, hl => by
    rw [lsE] at h
    split at h
    · rename_i h1
      rcases List.mem_cons.1 hl with rfl | hl
      · exact h1
      · exact lsE_all h l hl
    · rename_i h1; exact absurd h h1
theorem lE_0 {P : Int} {l : List Int} (h : lE P l = 0) : (∀ p ∈ l, inP P p) ∧ l.Nodup := by
  unfold lE at h
  split at h
  · rename_i h1
    split at h
    · rename_i h2; exact ⟨h1, h2⟩
    · cases h
  · cases h
/-- What valid wishes are. -/
structure Val (P : Int) (ls : List (List Int)) : Prop where
  hP : 1 ≤ P ∧ P ≤ 7
  n : ls.length ≤ 7
  l : ∀ l ∈ ls, (∀ p ∈ l, inP P p) ∧ l.Nodup
theorem val_of {P : Int} {ls : List (List Int)} (h : vW P ls = 0) : Val P ls := by
  have hP := vW_P7 h
  have hn : ¬ 7 < ls.length := fun h1 => by rw [vW_n hP h1] at h; cases h
  rw [vW_l hP hn] at h
  exact ⟨hP, by omega, fun l hl => lE_0 (lsE_all h l hl)⟩
theorem len_le {P : Int} {l : List Int} (hP : 0 ≤ P) (h : (∀ p ∈ l, inP P p) ∧ l.Nodup) : (l.length : Int) ≤ P := by
  have := nodup_len h.2 (m := nums P.toNat) (fun p hp => mem_nums.2 ⟨(h.1 p hp).1, by have := (h.1 p hp).2; omega⟩)
  simp only [nums, List.length_map, List.length_range] at this
  omega
theorem Val.len {P : Int} {ls : List (List Int)} (h : Val P ls) {l : List Int} (hl : l ∈ ls) : (l.length : Int) ≤ P := len_le (by have := h.hP; omega) (h.l l hl)
def cstep (c : List Int) (x : Int × List Int) : List Int := if 0 ≤ x.1 then c.set (fpos (fun y => decide (x.1 = y)) x.2).toNat ((c[(fpos (fun y => decide (x.1 = y)) x.2).toNat]?).getD 0 + 1) else c
def cnt (P : Int) (zs : List (Int × List Int)) : List Int := zs.foldl cstep (List.replicate P.toNat 0)
theorem repl_zero (n : Nat) : repl [AV.int .i64 0] n = (List.replicate n (0 : Int)).flatMap Go.Eng.e1 := by
  induction n with
  | zero => rfl
  | succ n ih => rw [repl, ih, List.replicate_succ, List.flatMap_cons]; rfl
end Go.Proofs.Ytlmbobbefgcolaa

namespace Go.Proofs.Ytlmbobbefgcolaa
open Go Go.Eng
def eb (b : Bool) : List AV := [B b]
theorem eb_len (b : Bool) : (eb b).length = 1 := rfl
abbrev Lb := Ls 1 eb
/-- Where a chain stands: the wishes' box, the box of what was seen, the chain's own box, what was seen, the giving. -/
structure Ctx (P : Int) (A H : AHeap) (v : AV) (nw ns nc na ng n : Nat) (fa fg : Bool) : Prop where
  pre : A <+: H
  la : A.length ≤ na
  lg : A.length ≤ ng
  ne : na ≠ ng
  hna : na < H.length
  hng : ng < H.length
  w : ∃ rw, H[nw]? = some (.cells rw [I P, v, .sl 1 ng 0 n fg])
  s : ∃ rw, H[ns]? = some (.cells rw [.sl 1 na 0 P.toNat fa])
  c : ∃ rw, H[nc]? = some (.cells rw [.fn 101 [.ptr nw 0, .ptr ns 0, .ptr nc 0]])
  w1 : nw ≠ na
  w2 : nw ≠ ng
  s1 : ns ≠ na
  s2 : ns ≠ ng
  c1 : nc ≠ na
  c2 : nc ≠ ng
def hpS (H : AHeap) (na ng : Nat) (s : St) : AHeap := (H.set na (.cells true (s.1.flatMap eb))).set ng (.cells true (s.2.flatMap e1))
section
variable {P : Int} {A H : AHeap} {v : AV} {nw ns nc na ng n : Nat} {fa fg : Bool}
theorem Ctx.get (c : Ctx P A H v nw ns nc na ng n fa fg) (s : St) {k : Nat} (h1 : k ≠ na) (h2 : k ≠ ng) : (hpS H na ng s)[k]? = H[k]? := by
  unfold hpS
  rw [List.getElem?_set_ne (Ne.symm h2), List.getElem?_set_ne (Ne.symm h1)]
theorem Ctx.getA (c : Ctx P A H v nw ns nc na ng n fa fg) (s : St) : (hpS H na ng s)[na]? = some (.cells true (s.1.flatMap eb)) := by
  unfold hpS
  rw [List.getElem?_set_ne (Ne.symm c.ne), List.getElem?_set_self c.hna]
theorem Ctx.getG (c : Ctx P A H v nw ns nc na ng n fa fg) (s : St) : (hpS H na ng s)[ng]? = some (.cells true (s.2.flatMap e1)) := by
  unfold hpS
  rw [List.getElem?_set_self (by rw [List.length_set]; exact c.hng)]
theorem Ctx.setA (c : Ctx P A H v nw ns nc na ng n fa fg) (s : St) (b : List Bool) : (hpS H na ng s).set na (.cells true (b.flatMap eb)) = hpS H na ng (b, s.2) := by
  unfold hpS
  rw [List.set_comm _ _ (Ne.symm c.ne), List.set_set]
theorem Ctx.setG (c : Ctx P A H v nw ns nc na ng n fa fg) (s : St) (g : List Int) : (hpS H na ng s).set ng (.cells true (g.flatMap e1)) = hpS H na ng (s.1, g) := by
  unfold hpS
  rw [List.set_set]
theorem Ctx.preS (c : Ctx P A H v nw ns nc na ng n fa fg) (s : St) : A <+: hpS H na ng s := pre_set (pre_set c.pre c.la _) c.lg _
theorem Ctx.ola (c : Ctx P A H v nw ns nc na ng n fa fg) (s : St) (hl : s.1.length = P.toNat) : OL 1 eb A (hpS H na ng s) na (.sl 1 na 0 P.toNat fa) s.1 := ⟨eb_len, c.preS s, c.la, c.getA s, fa, by rw [hl]⟩
theorem Ctx.olg (c : Ctx P A H v nw ns nc na ng n fa fg) (s : St) (hl : s.2.length = n) : OL 1 e1 A (hpS H na ng s) ng (.sl 1 ng 0 n fg) s.2 := ⟨e1_len, c.preS s, c.lg, c.getG s, fg, by rw [hl]⟩
theorem Ctx.ldw (c : Ctx P A H v nw ns nc na ng n fa fg) (s : St) : ldA 1 false (.ptr nw 1) (hpS H na ng s) = some v ∧ ldA 1 false (.ptr nw 2) (hpS H na ng s) = some (.sl 1 ng 0 n fg) ∧ ldA 3 true (.ptr nw 0) (hpS H na ng s) = some (.agg [I P, v, .sl 1 ng 0 n fg]) := by
  obtain ⟨rw, h⟩ := c.w
  have := c.get s c.w1 c.w2
  rw [h] at this
  simp [ldA, this, partA]
theorem Ctx.lds (c : Ctx P A H v nw ns nc na ng n fa fg) (s : St) : ldA 1 false (.ptr ns 0) (hpS H na ng s) = some (.sl 1 na 0 P.toNat fa) := by
  obtain ⟨rw, h⟩ := c.s
  have := c.get s c.s1 c.s2
  rw [h] at this
  simp [ldA, this, partA]
theorem Ctx.ldc (c : Ctx P A H v nw ns nc na ng n fa fg) (s : St) : ldA 1 false (.ptr nc 0) (hpS H na ng s) = some (.fn 101 [.ptr nw 0, .ptr ns 0, .ptr nc 0]) := by
  obtain ⟨rw, h⟩ := c.c
  have := c.get s c.c1 c.c2
  rw [h] at this
  simp [ldA, this, partA]
end
theorem s89 {P : Int} {v u : AV} {g : List Int} {A : AHeap} (hg : L1 A u g) (hl : g.length ≤ 1000000) (p : Int) : ACalls Try.prog 89 [.agg [I P, v, u], I p] A (I (fpos (fun y => decide (p = y)) g)) A := by
  refine acalls hmix Try.func89 (by kernel_rfl) t89 2 rfl (by decide) ?_
  dsimp only [m89]
  simp (maxSteps := 4000000) -implicitDefEqProofs -dsimp (disch := omega) only [↓AW_ops, ↓AW_seq, ↓AOps_nil, ↓AOps_pu, ↓AOps_call, on_some, ↓then_normal, pval, rd_S, rd_C, put_S, chkd, isAdr, bgot, AV.cells?, partA, eq_self, List.replicate_succ, List.replicate_zero, List.set_cons_zero, List.set_cons_succ, List.getElem?_cons_zero, List.getElem?_cons_succ, List.drop_zero, List.drop_succ_cons, List.take_succ_cons, List.take_nil, Option.getD_some, map_c, map_n, List.length_cons, List.length_nil, Nat.reduceAdd, Nat.reduceSub, Nat.reduceLeDiff, Nat.zero_add, List.cons_append, List.nil_append, if_true, if_false, Bool.false_eq_true]
  refine CallK.of (c_Index hg hl p) ?_
  simp (maxSteps := 4000000) -implicitDefEqProofs -dsimp (disch := omega) only [↓AW_ret, ↓AOps_nil, ↓AOps_pu, on_some, extK_same, ↓then_normal, ↓Fin_ret, pval, rd_S, put_S, resV, resL, List.replicate_succ, List.replicate_zero, List.set_cons_zero, List.set_cons_succ, List.getElem?_cons_zero, List.getElem?_cons_succ, Option.getD_some, Nat.reduceSub, List.cons_append, List.nil_append]
  exact gc_same rfl
theorem sn_get {b : List Bool} {p : Int} (h : p.toNat < b.length) : b[p.toNat]? = some (sn b p) := by
  unfold sn
  rw [List.getElem?_eq_getElem h]
  rfl
theorem s101_step {P : Int} {ws : List (AV × List Int)} {A H : AHeap} {v : AV} {nw ns nc na ng : Nat} {fa fg : Bool} (hv : Val P (lists ws)) (hw : LL A v ws) (c : Ctx P A H v nw ns nc na ng ws.length fa fg) (m : Nat)
    (hrec : ∀ (i : Int) (s : St), inP ws.length i → s.1.length = P.toNat → Good P (lists ws) s.2 → unseen s.1 + 1 ≤ m → ACalls Try.prog 101 [I i, .ptr nw 0, .ptr ns 0, .ptr nc 0] (hpS H na ng s) (B (chF (lists ws) m i s).1) (hpS H na ng (chF (lists ws) m i s).2))
    (i : Int) (s : St) (hi : inP ws.length i) (hl : s.1.length = P.toNat) (hg : Good P (lists ws) s.2) (hm : unseen s.1 ≤ m) :
      ACalls Try.prog 101 [I i, .ptr nw 0, .ptr ns 0, .ptr nc 0] (hpS H na ng s) (B (chF (lists ws) (m + 1) i s).1) (hpS H na ng (chF (lists ws) (m + 1) i s).2) := by
  have hls : ∀ l ∈ lists ws, ∀ p ∈ l, inP P p := fun l hl => (hv.l l hl).1
  have hP := hv.hP
  have hn : ws.length ≤ 7 := by simpa using hv.n
  have hlsn : (lists ws).length = ws.length := by simp
  obtain ⟨x, hx, hlx⟩ := lst_get hi
  have hxm := List.mem_of_getElem? hx
  have hx2 := hv.len (show x.2 ∈ lists ws from List.mem_map.2 ⟨x, hxm, rfl⟩)
  have hxP := hls x.2 (List.mem_map.2 ⟨x, hxm, rfl⟩)
  have hltw : i.toNat < ws.length := (List.getElem?_eq_some_iff.1 hx).1
  rw [chF, hlx]
  refine acalls hmix Try.func101 (by kernel_rfl) t101 4 rfl (by decide) ?_
  obtain ⟨w1, w2, w3⟩ := c.ldw s
  have hw0 := hw.mono (c.preS s)
  dsimp only [m101]
  simp (maxSteps := 4000000) -implicitDefEqProofs -dsimp (disch := omega) only [↓AW_ops, ↓AW_seq, ↓AW_block, ↓AOps_nil, ↓AOps_pu, ↓AOps_ld, on_some, ↓then_normal, pval, lval, rd_S, rd_C, put_S, ↓AW_toLoop, partA, eq_self, List.replicate_succ, List.replicate_zero, List.set_cons_zero, List.set_cons_succ, List.getElem?_cons_zero, List.getElem?_cons_succ, List.drop_zero, List.take_succ_cons, List.take_nil, Option.getD_some, List.length_cons, List.length_nil, Nat.reduceSub, Nat.reduceLeDiff, Nat.zero_add, Nat.add_zero, List.cons_append, List.nil_append, if_true, if_false, Bool.false_eq_true, w1, hw0.ls.idxI (k := .i64) hi.1 hi.2, hw0.ls.ld0 hx 1 false (by decide), e0, (hw0.inn x hxm).len]
  refine LoopK.by 43 (fun y : Nat × St => y.1 ≤ x.2.length ∧ y.2.1.length = P.toNat ∧ Good P (lists ws) y.2.2 ∧ unseen y.2.1 ≤ m ∧ goF (chF (lists ws) m) i x.2 s = goF (chF (lists ws) m) i (x.2.drop y.1) y.2)
    (fun y => [(0, I i), (1, .ptr nw 0), (2, .ptr ns 0), (3, .ptr nc 0), (14, x.1), (15, I x.2.length), (16, I y.1)]) (fun y => hpS H na ng y.2) (fun y => x.2.length - y.1) (0, s) ⟨by simp only; omega, hl, hg, hm, rfl⟩ rfl (by simp [Has, rd_s]) rfl ?_
  rintro ⟨k, t⟩ ⟨hk, tl, tg, tm, te⟩
  simp only at hk tl tg tm te
  by_cases hltk : k < x.2.length
  · obtain ⟨p, hzp⟩ : ∃ p, x.2[k]? = some p := ⟨_, List.getElem?_eq_getElem hltk⟩
    have hltk' : (k : Int) < x.2.length := by omega
    have hp := hxP p (List.mem_of_getElem? hzp)
    have hp2 : p < (t.1.length : Int) := by rw [tl]; have := hp.1; have := hp.2; omega
    have hpn : p.toNat < t.1.length := by have := hp.1; omega
    have hdr : x.2.drop k = p :: x.2.drop (k + 1) := by
      have := (List.getElem?_eq_some_iff.1 hzp).2
      rw [← this]; exact List.drop_eq_getElem_cons hltk
    rw [hdr, goF] at te
    have hxt := (hw.inn x hxm).mono (c.preS t)
    have hoa := c.ola t tl
    have hget := sn_get hpn
    by_cases hsn : sn t.1 p = true
    · rw [if_pos hsn] at te
      rw [hsn] at hget
      simp (maxSteps := 4000000) -implicitDefEqProofs -dsimp (disch := omega) only [↓AW_skip, ↓AW_ops, ↓AW_seq, ↓AW_cond, ↓AW_block, ↓AW_exit, ↓AW_ret, ↓AOps_nil, ↓AOps_pu, ↓AOps_ld, on_some, condB_t, ↓then_normal, ↓then_exit, ↓inBlock_exit, ↓Fin_ret, pval, lval, rd_S, rd_C, put_S, resV, resL, partA, eq_self, mk, List.foldl_cons, List.foldl_nil, List.replicate_succ, List.replicate_zero, List.set_cons_zero, List.set_cons_succ, List.getElem?_cons_zero, List.getElem?_cons_succ, List.drop_zero, List.take_succ_cons, List.take_nil, Option.getD_some, List.length_cons, List.length_nil, Nat.reduceAdd, Nat.reduceLeDiff, Nat.zero_add, bin_add, bin_lss, w64, if_true, if_false, Bool.false_eq_true, decide_true, Go.Eng.e1, true_and, reduceCtorEq, hltk', hxt.idx hltk, hxt.ld0 hzp 1 false (by decide), c.lds t, hoa.ls.idxI (k := .i64) hp.1 hp2, hoa.ls.ld0 hget 1 false (by decide), eb]
      exact ⟨(k + 1, t), ⟨hltk, tl, tg, tm, te⟩, by simp [Has, rd_s], rfl, by simp only; omega⟩
    · rw [if_neg hsn] at te
      have hsn' : sn t.1 p = false := by simpa using hsn
      rw [hsn'] at hget
      have hun := unseen_set hsn'
      have hst := hoa.st hpn (B true) true rfl
      rw [c.setA] at hst
      have hog := c.olg (t.1.set p.toNat true, t.2) (by rw [← hlsn]; exact tg.len)
      obtain ⟨v1, v2, v3⟩ := c.ldw (t.1.set p.toNat true, t.2)
      have hgl : t.2.length = ws.length := by rw [← hlsn]; exact tg.len
      simp (maxSteps := 4000000) -implicitDefEqProofs -dsimp (disch := omega) only [↓AW_skip, ↓AW_ops, ↓AW_seq, ↓AW_cond, ↓AW_block, ↓AOps_nil, ↓AOps_pu, ↓AOps_ld, ↓AOps_ha, ↓AOps_call, on_some, extK_false, condB_t, condB_f, ↓then_normal, pval, lval, hval_st, rd_S, rd_C, put_S, putS_none, partA, eq_self, mk, List.foldl_cons, List.foldl_nil, List.replicate_succ, List.replicate_zero, List.set_cons_zero, List.set_cons_succ, List.getElem?_cons_zero, List.getElem?_cons_succ, List.drop_zero, List.take_succ_cons, List.take_nil, Option.getD_some, Option.map_some, map_c, map_n, List.length_cons, List.length_nil, Nat.reduceLeDiff, Nat.zero_add, bin_lss, if_true, if_false, Bool.false_eq_true, decide_true, Go.Eng.e1, hltk', hxt.idx hltk, hxt.ld0 hzp 1 false (by decide), c.lds t, hoa.ls.idxI (k := .i64) hp.1 hp2, hoa.ls.ld0 hget 1 false (by decide), eb, hst, v3]
      refine CallK.of (s89 hog.ls (by simp only; omega) p) ?_
      simp only
      by_cases hf : fpos (fun y => decide (p = y)) t.2 < 0
      · rw [if_pos hf] at te
        have hst2 := hog.st (i := i.toNat) (by simp only; rw [hgl]; exact hltw) (I p) p rfl
        rw [c.setG] at hst2
        simp (maxSteps := 4000000) -implicitDefEqProofs -dsimp (disch := omega) only [↓AW_ops, ↓AW_seq, ↓AW_cond, ↓AW_ret, ↓AOps_nil, ↓AOps_pu, ↓AOps_ld, ↓AOps_ha, ↓AOps_guard, on_some, extK_false, extK_same, guardB_tf, skipS_some, condB_t, ↓then_normal, ↓then_ret, ↓inBlock_ret, ↓Fin_ret, pval, lval, hval_st, rd_S, rd_C, put_S, putS_none, resV, resL, eq_self, mk, List.foldl_cons, List.foldl_nil, List.replicate_succ, List.replicate_zero, List.set_cons_zero, List.set_cons_succ, List.getElem?_cons_zero, List.getElem?_cons_succ, Option.getD_some, Option.map_some, Nat.zero_add, bin_lss, if_true, decide_true, hf, v2, hog.ls.idxI (k := .i64) hi.1 (by simp only; rw [hgl]; exact hi.2), hst2]
        exact gc_same_all (by rw [te]) (by rw [te])
      · rw [if_neg hf] at te
        obtain ⟨h, hh1, hh2, hh3⟩ := fpos_get hf
        rw [hh2] at te hf ⊢
        have hpost := chF_spec hls m h (t.1.set p.toNat true, t.2) ⟨by omega, by rw [hlsn]; omega⟩ tg (by simp [tl]) (by simp only; omega)
        simp (maxSteps := 4000000) -implicitDefEqProofs -dsimp (disch := omega) only [↓AW_ops, ↓AW_seq, ↓AOps_nil, ↓AOps_pu, ↓AOps_ld, ↓AOps_callv, ↓AOps_guard, on_some, extK_same, CallF_fn, guardB_ff, ↓then_normal, pval, lval, rd_S, rd_C, put_S, putS_none, mk, List.foldl_cons, List.foldl_nil, List.replicate_succ, List.replicate_zero, List.set_cons_zero, List.set_cons_succ, List.getElem?_cons_zero, List.getElem?_cons_succ, Option.getD_some, map_c, map_n, List.cons_append, List.nil_append, bin_lss, decide_false, hf, c.ldc (t.1.set p.toNat true, t.2)]
        refine CallK.of (hrec h (t.1.set p.toNat true, t.2) ⟨by omega, by omega⟩ (by simp [tl]) tg (by simp only; omega)) ?_
        generalize chF (lists ws) m h (t.1.set p.toNat true, t.2) = r at *
        by_cases hr : r.1 = true
        · rw [if_pos hr] at te
          have hg2 := (hpost.yes hr).1
          have hgl2 : r.2.2.length = ws.length := by rw [← hlsn]; exact hg2.len
          have hog2 := c.olg r.2 hgl2
          have hst2 := hog2.st (i := i.toNat) (by rw [hgl2]; exact hltw) (I p) p rfl
          rw [c.setG] at hst2
          simp (maxSteps := 4000000) -implicitDefEqProofs -dsimp (disch := omega) only [↓AW_ops, ↓AW_seq, ↓AW_cond, ↓AW_ret, ↓AOps_nil, ↓AOps_pu, ↓AOps_ld, ↓AOps_ha, on_some, extK_false, condB_t, ↓then_normal, ↓then_ret, ↓inBlock_ret, ↓Fin_ret, pval, lval, hval_st, rd_S, rd_C, put_S, putS_none, resV, resL, mk, List.foldl_cons, List.foldl_nil, List.replicate_succ, List.replicate_zero, List.set_cons_zero, List.set_cons_succ, List.getElem?_cons_zero, List.getElem?_cons_succ, Option.getD_some, Option.map_some, Nat.zero_add, if_false, Bool.false_eq_true, hr, (c.ldw r.2).2.1, hog2.ls.idxI (k := .i64) hi.1 (by rw [hgl2]; exact hi.2), hst2]
          exact gc_same_all (by rw [te]) (by rw [te])
        · rw [if_neg hr] at te
          have hr' : r.1 = false := by simpa using hr
          simp (maxSteps := 4000000) -implicitDefEqProofs -dsimp (disch := omega) only [↓AW_skip, ↓AW_ops, ↓AW_cond, ↓AOps_nil, ↓AOps_pu, on_some, extK_false, condB_f, ↓then_normal, ↓inBlock_normal, pval, rd_S, rd_C, put_S, putS_none, eq_self, mk, List.foldl_cons, List.foldl_nil, List.replicate_succ, List.replicate_zero, List.set_cons_zero, List.set_cons_succ, List.getElem?_cons_zero, List.getElem?_cons_succ, Option.getD_some, List.length_cons, List.length_nil, Nat.reduceAdd, Nat.zero_add, bin_add, w64, if_false, Bool.false_eq_true, true_and, hr']
          have hno := hpost.no hr'
          have hcn := hpost.cnt
          simp only at hcn
          refine ⟨(k + 1, r.2), ⟨hltk, by simp only; rw [hpost.len]; simp [tl], by simp only; rw [hno.1]; exact tg, by simp only; omega, te⟩, by simp [Has, rd_s], rfl, by simp only; omega⟩
  · have hltk' : ¬ ((k : Int) < x.2.length) := by omega
    rw [List.drop_of_length_le (by omega), goF] at te
    simp (maxSteps := 4000000) -implicitDefEqProofs -dsimp (disch := omega) only [↓AW_ops, ↓AW_seq, ↓AW_cond, ↓AW_exit, ↓AW_ret, ↓AOps_nil, ↓AOps_pu, on_some, condB_f, ↓then_normal, ↓then_exit, ↓inBlock_exit, ↓Fin_ret, pval, rd_S, rd_C, put_S, resV, resL, eq_self, mk, List.foldl_cons, List.foldl_nil, List.replicate_succ, List.replicate_zero, List.set_cons_zero, List.set_cons_succ, List.getElem?_cons_zero, List.getElem?_cons_succ, Option.getD_some, bin_lss, if_true, decide_false, hltk']
    exact gc_same_all (by rw [te]) (by rw [te])
theorem s101 {P : Int} {ws : List (AV × List Int)} {A H : AHeap} {v : AV} {nw ns nc na ng : Nat} {fa fg : Bool} (hv : Val P (lists ws)) (hw : LL A v ws) (c : Ctx P A H v nw ns nc na ng ws.length fa fg) :
    ∀ (m : Nat) (i : Int) (s : St), inP ws.length i → s.1.length = P.toNat → Good P (lists ws) s.2 → unseen s.1 ≤ m →
      ACalls Try.prog 101 [I i, .ptr nw 0, .ptr ns 0, .ptr nc 0] (hpS H na ng s) (B (chF (lists ws) (m + 1) i s).1) (hpS H na ng (chF (lists ws) (m + 1) i s).2)
  | 0, i, s, hi, hl, hg, hm => s101_step hv hw c 0 (fun _ _ _ _ _ h => by omega) i s hi hl hg hm
  | m + 1, i, s, hi, hl, hg, hm => s101_step hv hw c (m + 1) (fun j t h1 h2 h3 h4 => s101 hv hw c m j t h1 h2 h3 (by omega)) i s hi hl hg hm
end Go.Proofs.Ytlmbobbefgcolaa

namespace Go.Proofs.Ytlmbobbefgcolaa
open Go Go.Eng
theorem flat_take {α : Type} {es : Nat} {e : α → List AV} (he : ∀ x, (e x).length = es) (xs : List α) (m : Nat) (hm : m ≤ xs.length) : (xs.flatMap e).take (m * es) = (xs.take m).flatMap e := by
  have h1 := flatMap_length he (xs.take m)
  rw [List.length_take, Nat.min_eq_left hm] at h1
  conv => lhs; rw [← List.take_append_drop m xs, List.flatMap_append]
  rw [← h1, List.take_left]
theorem flat_drop {α : Type} {es : Nat} {e : α → List AV} (he : ∀ x, (e x).length = es) (xs : List α) (m : Nat) (hm : m ≤ xs.length) : (xs.flatMap e).drop (m * es) = (xs.drop m).flatMap e := by
  have h1 := flatMap_length he (xs.take m)
  rw [List.length_take, Nat.min_eq_left hm] at h1
  conv => lhs; rw [← List.take_append_drop m xs, List.flatMap_append]
  rw [← h1, List.drop_left]
/-- A copy into a list that the call has made. -/
theorem OL_cpy {α : Type} {es : Nat} {e : α → List AV} {A H : AHeap} {n : Nat} {v : AV} {xs ys : List α} (h : OL es e A H n v xs) {y : AV} (hy : Ls es e H y ys) (m : Nat) (hm : m ≤ xs.length) (full : Bool) :
    cpA es (.sl es n (m * es) (xs.length - m) full) y H = some (I ((min ys.length (xs.length - m) : Nat) : Int), H.set n (.cells true ((xs.take m ++ ys.take (min ys.length (xs.length - m)) ++ xs.drop (m + min ys.length (xs.length - m))).flatMap e))) := by
  have hl := flatMap_length h.he xs
  have hs : (xs.length - m) * es = xs.length * es - m * es := Nat.sub_mul _ _ _
  have hmm : m * es ≤ xs.length * es := Nat.mul_le_mul_right _ hm
  have hk : min ys.length (xs.length - m) ≤ ys.length := Nat.min_le_left _ _
  have hk2 : m + min ys.length (xs.length - m) ≤ xs.length := by omega
  unfold cpA
  simp only [hy.hc, h.ob, if_true]
  rw [if_pos (by omega)]
  congr 2
  congr 2
  unfold splice
  rw [flat_take h.he xs m hm, flat_take h.he ys _ hk]
  have h3 := flatMap_length h.he (ys.take (min ys.length (xs.length - m)))
  rw [List.length_take, Nat.min_eq_left hk] at h3
  rw [h3, ← Nat.add_mul, flat_drop h.he xs _ hk2]
  simp only [List.flatMap_append]
theorem OL_setAll {α : Type} {es : Nat} {e : α → List AV} {A H : AHeap} {n : Nat} {v : AV} {xs : List α} (h : OL es e A H n v xs) (xs' : List α) (hl : xs'.length = xs.length) : OL es e A (H.set n (.cells true (xs'.flatMap e))) n v xs' := by
  have hn := h.lt
  obtain ⟨he, h1, h2, h3, full, rfl⟩ := h
  exact ⟨he, pre_set h1 h2 _, h2, by rw [List.getElem?_set_self hn], full, by rw [hl]⟩
/-- A call that looks at nothing in the heap, with two results. -/
theorem ACalls_lift2 {P : Program} {f : FuncId} {args : List AV} {a b : AV} {H' : AHeap} (h : ACalls P f args [] (.tuple [a, b]) H') (ha : ∀ x ∈ args, flat x = true) (h1 : flat a = true) (h2 : flat b = true) (H : AHeap) : ACalls P f args H (.tuple [a, b]) H := by
  refine ⟨h.1, fun ρ w cargs hs hargs => ?_⟩
  have s0 : Sim (fun _ => none) [] w := ⟨fun _ _ e => (by cases e), fun _ _ _ e => (by cases e), fun _ _ _ _ e => (by cases e)⟩
  have fl : ∀ {ρ ρ' : Ren} {x : AV} {u : Value}, flat x = true → VR ρ x u → VR ρ' x u := by
    intro ρ ρ' x u hx hr
    cases hr <;> simp [flat] at hx <;> constructor
  have a0 : LR (fun _ => none) args cargs.toList := ⟨hargs.1, fun i x u hx hu => fl (ha x (List.mem_of_getElem? hx)) (hargs.2 i x u hx hu)⟩
  refine (h.2 _ w cargs s0 a0).mono ?_
  rintro e w' ⟨ρ', cv, rfl, hv, _, h3⟩
  have hk : ∀ b, b < w.heap.size → w'.heap[b]? = w.heap[b]? := fun b hb => h3.keep b hb (fun ⟨n, L, e, _⟩ => (by cases e))
  have hv' : VR ρ (.tuple [a, b]) cv := by
    cases hv with
    | tuple _ vs hl hh =>
      refine .tuple _ _ hl (fun i x u hx hu => ?_)
      match i with
      | 0 => simp at hx; subst hx; exact fl h1 (hh 0 _ u rfl hu)
      | 1 => simp at hx; subst hx; exact fl h2 (hh 1 _ u rfl hu)
      | i + 2 => simp at hx
  refine ⟨ρ, cv, rfl, hv', hs.world h3.size (fun n L e => hk _ (hs.dom n L e).2), ⟨fun _ _ => rfl, Nat.le_refl _, h3.os, h3.tape, h3.out, h3.size, fun b hb _ => hk b hb, fun _ h => .inr h, fun n L e => .inl (hs.dom n L e).1⟩⟩
theorem u64w (n : Int) (h0 : 0 ≤ n) (h1 : n < 9223372036854775808) : IntKind.u64.wrap n = n := by
  have e : IntKind.u64.wrap n = n % 18446744073709551616 := by simp [IntKind.wrap, IntKind.bits, IntKind.signed]
  rw [e]; omega
theorem OL_gcS {α : Type} {es : Nat} {e : α → List AV} {A H : AHeap} {n : Nat} {v : AV} {xs : List α} (h : OL es e A H n v xs) (hf : ∀ x, ∀ y ∈ e x, flat y = true) : GC A v H (.sl es A.length 0 xs.length false) (A ++ [.cells true (xs.flatMap e)]) := by
  obtain ⟨he, h1, h2, h3, full, rfl⟩ := h
  have hfl : ∀ y ∈ xs.flatMap e, flat y = true := fun y hy => by
    obtain ⟨x, _, hx⟩ := List.mem_flatMap.1 hy
    exact hf x y hx
  refine gc_weak (fun ρ c => VR.unfull) ?_
  have hk := Keep.add (keep_old h1) (n := n) (o := .cells true (xs.flatMap e)) h2 (by simp; omega) h3
  simp only [renO, ren_flats _ 3 _ hfl] at hk
  exact gc_keep hk (by simp [ren])
theorem rep_step {α : Type} (r z : α) {n m : Nat} (hm : m ≤ n) :
    (List.replicate m r ++ List.replicate (n - m) z).take m ++ ((List.replicate m r ++ List.replicate (n - m) z).take m).take (min m (n - m)) ++ (List.replicate m r ++ List.replicate (n - m) z).drop (m + min m (n - m)) = List.replicate (m + min m (n - m)) r ++ List.replicate (n - (m + min m (n - m))) z := by
  have h1 : (List.replicate m r ++ List.replicate (n - m) z).take m = List.replicate m r := by
    rw [List.take_append_of_le_length (by simp), List.take_of_length_le (by simp)]
  rw [h1, List.take_replicate, List.drop_append]
  simp only [List.length_replicate, List.drop_replicate]
  rw [show min (min m (n - m)) m = min m (n - m) by omega, show m - (m + min m (n - m)) = 0 by omega, show m + min m (n - m) - m = min m (n - m) by omega, show n - m - min m (n - m) = n - (m + min m (n - m)) by omega]
  rw [List.replicate_zero, List.nil_append, List.replicate_append_replicate]
theorem LR_flat {ρ ρ' : Ren} {cs : List AV} {vs : List Value} (hf : ∀ x ∈ cs, flat x = true) (h : LR ρ cs vs) : LR ρ' cs vs := by
  refine ⟨h.1, fun i x v hx hv => ?_⟩
  have h1 := h.2 i x v hx hv
  have hx' := hf x (List.mem_of_getElem? hx)
  cases h1 <;> simp [flat] at hx' <;> constructor
/-- Nothing is kept but what was there, of which some lists may have turned. -/
theorem keep_mod {H H1 H' : AHeap} (hl : H'.length = H.length) (hp : H' <+: H1) (hm : ∀ n, n < H.length → H'[n]? = H[n]? ∨ (live H n ∧ ∃ rw cs, H'[n]? = some (.cells rw cs) ∧ ∀ x ∈ cs, flat x = true)) :
    Keep H H1 (fun n => if n < H.length then some n else none) H' := by
  intro ρ0 w0 ρ1 w1 s0 s1 st
  have hsub := st.sub s0
  have get : ∀ n, n < H.length → H1[n]? = H'[n]? := fun n hn => by
    obtain ⟨t, rfl⟩ := hp
    rw [List.getElem?_append_left (by omega)]
  have lv : ∀ n, n < H.length → live H' n → live H n := fun n hn h => by
    rcases hm n hn with e | ⟨e, _⟩
    · unfold live at *; rw [← e]; exact h
    · exact e
  refine ⟨ρ0, ⟨fun n L e => ⟨by rw [hl]; exact (s0.dom n L e).1, Nat.lt_of_lt_of_le (s0.dom n L e).2 st.size⟩, fun n L o e ho => ?_, fun n m L M hn hm' hne l1 l2 => s0.sep n m L M hn hm' hne (lv n (s0.dom n L hn).1 l1) (lv m (s0.dom m M hm').1 l2)⟩,
    ⟨fun _ _ => rfl, by omega, st.os, st.tape, st.out, st.size, st.keep, fun b ⟨n, L, h1, h2, h3, h4⟩ => .inr ⟨n, L, h1, h2, h3, lv n (s0.dom n L h1).1 h4⟩, fun n L e => .inl (s0.dom n L e).1⟩, ?_, ?_⟩
  · have hn := (s0.dom n L e).1
    have h1 := s1.obj n L o (hsub n L e) (by rw [get n hn]; exact ho)
    rcases hm n hn with e1 | ⟨_, rw, cs, e1, hf⟩
    · rw [e1] at ho
      have h0 := s0.obj n L o e ho
      cases o with
      | dead => trivial
      | cells rw l =>
        cases hb0 : w0.heap[L.b]? with
        | none => rw [hb0] at h0; exact h0.elim
        | some b0 =>
          rw [hb0] at h0
          cases b0 <;> try exact h0.elim
          cases hb : w1.heap[L.b]? with
          | none => rw [hb] at h1; exact h1.elim
          | some b =>
            rw [hb] at h1
            cases b <;> first | exact h1.elim | exact ⟨h1.1, h1.2.1, LR.back hsub h0.2.2.1 h1.2.2.1, h1.2.2.2⟩
      | mp l =>
        cases hb0 : w0.heap[L.b]? with
        | none => rw [hb0] at h0; exact h0.elim
        | some b0 =>
          rw [hb0] at h0
          cases b0 <;> try exact h0.elim
          cases hb : w1.heap[L.b]? with
          | none => rw [hb] at h1; exact h1.elim
          | some b =>
            rw [hb] at h1
            cases b <;> first | exact h1.elim | exact ⟨h1.1, LR.back hsub h0.2.1 h1.2.1, LR.back hsub h0.2.2 h1.2.2⟩
    · rw [e1] at ho
      cases ho
      cases hb : w1.heap[L.b]? with
      | none => rw [hb] at h1; exact h1.elim
      | some b =>
        rw [hb] at h1
        cases b <;> first | exact h1.elim | exact ⟨h1.1, h1.2.1, LR_flat hf h1.2.2.1, h1.2.2.2⟩
  · intro n m L hf hn
    simp only at hf
    split at hf
    · rename_i hlt
      cases hf
      rw [← st.old n hlt]; exact hn
    · cases hf
  · intro m L e
    have hm' := (s0.dom m L e).1
    refine ⟨m, by simp [hm'], hsub m L e, fun h => ?_⟩
    unfold live at *
    rw [get m hm']; exact h
/-- One list has turned, and all that is new is dropped. -/
theorem gc_set {H H1 : AHeap} {n : Nat} {cs cs' : List AV} {rw : Bool} (hn : H[n]? = some (.cells rw cs)) (hf : ∀ x ∈ cs', flat x = true) (hp : H.set n (.cells rw cs') <+: H1) {v : AV} (hv : flat v = true) : GC H v H1 v (H.set n (.cells rw cs')) := by
  have hlt := (List.getElem?_eq_some_iff.1 hn).1
  refine gc_keep (keep_mod (by simp) hp (fun k hk => ?_)) (ren_flat _ 3 v hv)
  by_cases h : k = n
  · subst h
    exact .inr ⟨⟨_, hn, by simp⟩, rw, cs', by rw [List.getElem?_set_self hlt], hf⟩
  · exact .inl (by rw [List.getElem?_set_ne (Ne.symm h)])
theorem set_same {α : Type} {l : List α} {n : Nat} {x : α} (h : l[n]? = some x) : l.set n x = l := by
  have hlt := (List.getElem?_eq_some_iff.1 h).1
  have hx := (List.getElem?_eq_some_iff.1 h).2
  rw [← hx]
  exact List.set_getElem_self hlt
end Go.Proofs.Ytlmbobbefgcolaa

namespace Go.Proofs.Ytlmbobbefgcolaa
open Go Go.Eng
theorem st_new (A : AHeap) (x y : AV) (hx : x.cells? = some [x]) : stA 1 (.ptr A.length 0) x (A ++ [.cells true [y]]) = some (A ++ [.cells true [x]]) := by
  simp [stA, hx, splice]
theorem repl_false (n : Nat) : repl [AV.bool false] n = (List.replicate n false).flatMap eb := by
  induction n with
  | zero => rfl
  | succ n ih => rw [repl, ih, List.replicate_succ, List.flatMap_cons]; rfl
theorem s92 {P : Int} {ws : List (AV × List Int)} {A H : AHeap} {v : AV} {ng : Nat} {fg : Bool} {g : List Int} (hv : Val P (lists ws)) (hw : LL A v ws) (ho : OL 1 e1 A H ng (.sl 1 ng 0 ws.length fg) g) (hg : Good P (lists ws) g) (i : Int) (hi : inP ws.length i) :
    ACalls Try.prog 92 [.agg [I P, v, .sl 1 ng 0 ws.length fg], I i] H (B (chF (lists ws) (P.toNat + 1) i (List.replicate P.toNat false, g)).1) (H.set ng (.cells true ((chF (lists ws) (P.toNat + 1) i (List.replicate P.toNat false, g)).2.2.flatMap e1))) := by
  refine acalls hmix Try.func92 (by kernel_rfl) t92 2 rfl (by decide) ?_
  have hP := hv.hP
  have hls : ∀ l ∈ lists ws, ∀ p ∈ l, inP P p := fun l hl => (hv.l l hl).1
  have hP0 : 0 ≤ P := by omega
  have hPl : P ≤ (lim : Int) := by simp [lim]; omega
  have hlt := ho.lt
  dsimp only [m92]
  simp (maxSteps := 4000000) -implicitDefEqProofs -dsimp (disch := omega) only [↓AW_ops, ↓AW_seq, ↓AOps_nil, ↓AOps_pu, ↓AOps_ld, ↓AOps_ha, on_some, extK_app, ↓then_normal, pval, lval, hval_st, hval_newv, hval_mks, rd_S, rd_C, put_S, cells_agg, cells_nilS, beq_self_eq_true, List.replicate_succ, List.replicate_zero, List.set_cons_zero, List.set_cons_succ, List.getElem?_cons_zero, List.getElem?_cons_succ, Option.getD_some, Nat.reduceSub, Nat.add_zero, List.cons_append, List.nil_append, if_true, and_true, ld_new, hP0, hPl, Int.le_refl]
  rw [repl_false]
  generalize hH1 : H ++ [.cells true [I P, v, .sl 1 ng 0 ws.length fg]] = H1
  generalize hH2 : H1 ++ [.cells true ((List.replicate P.toNat false).flatMap eb)] = H2
  have st1 : stA 1 (.ptr H2.length 0) (.sl 1 H1.length 0 P.toNat true) (H2 ++ [.cells true [.nilS]]) = some (H2 ++ [.cells true [.sl 1 H1.length 0 P.toNat true]]) := st_new H2 _ _ rfl
  simp (maxSteps := 4000000) -implicitDefEqProofs -dsimp (disch := omega) only [↓AW_ops, ↓AW_seq, ↓AOps_nil, ↓AOps_pu, ↓AOps_ha, on_some, extK_false, extK_app, ↓then_normal, pval, hval_st, hval_newv, rd_S, rd_C, put_S, putS_none, cells_nilF, List.replicate_succ, List.replicate_zero, List.set_cons_zero, List.set_cons_succ, List.getElem?_cons_zero, List.getElem?_cons_succ, Option.getD_some, Option.map_some, map_c, map_n, Nat.reduceSub, List.cons_append, List.nil_append, st1]
  generalize hH3 : H2 ++ [.cells true [.sl 1 H1.length 0 P.toNat true]] = H3
  have st2 : stA 1 (.ptr H3.length 0) (.fn 101 [.ptr H.length 0, .ptr H2.length 0, .ptr H3.length 0]) (H3 ++ [.cells true [.nilF]]) = some (H3 ++ [.cells true [.fn 101 [.ptr H.length 0, .ptr H2.length 0, .ptr H3.length 0]]]) := st_new H3 _ _ rfl
  simp (maxSteps := 4000000) -implicitDefEqProofs -dsimp (disch := omega) only [↓AW_ops, ↓AW_seq, ↓AOps_nil, ↓AOps_pu, ↓AOps_ld, ↓AOps_callv, on_some, extK_false, CallF_fn, ↓then_normal, pval, lval, rd_S, put_S, putS_none, List.replicate_succ, List.replicate_zero, List.set_cons_zero, List.set_cons_succ, List.getElem?_cons_zero, List.getElem?_cons_succ, Option.getD_some, Option.map_some, map_c, map_n, Nat.reduceSub, List.cons_append, List.nil_append, st2, ld_new]
  generalize hH4 : H3 ++ [.cells true [.fn 101 [.ptr H.length 0, .ptr H2.length 0, .ptr H3.length 0]]] = H4
  have l1 : H1.length = H.length + 1 := by rw [← hH1]; simp
  have l2 : H2.length = H.length + 2 := by rw [← hH2]; simp [l1]
  have l3 : H3.length = H.length + 3 := by rw [← hH3]; simp [l2]
  have l4 : H4.length = H.length + 4 := by rw [← hH4]; simp [l3]
  have p34 : H3 <+: H4 := by rw [← hH4]; exact pre_app _ _
  have p24 : H2 <+: H4 := (show H2 <+: H3 by rw [← hH3]; exact pre_app _ _).trans p34
  have p14 : H1 <+: H4 := (show H1 <+: H2 by rw [← hH2]; exact pre_app _ _).trans p24
  have p04 : H <+: H4 := (show H <+: H1 by rw [← hH1]; exact pre_app _ _).trans p14
  have gA : H4[H1.length]? = some (.cells true ((List.replicate P.toNat false).flatMap eb)) := pre_get p24 (by rw [← hH2]; exact get_new _ _)
  have gG : H4[ng]? = some (.cells true (g.flatMap e1)) := pre_get p04 ho.ob
  have hc : Ctx P A H4 v H.length H2.length H3.length H1.length ng ws.length true fg := {
    pre := ho.pre.trans p04
    la := by have := ho.pre.length_le; omega
    lg := ho.new
    ne := by omega
    hna := by omega
    hng := by omega
    w := ⟨true, pre_get p14 (by rw [← hH1]; exact get_new _ _)⟩
    s := ⟨true, pre_get p34 (by rw [← hH3]; exact get_new _ _)⟩
    c := ⟨true, by rw [← hH4]; exact get_new _ _⟩
    w1 := by omega
    w2 := by omega
    s1 := by omega
    s2 := by omega
    c1 := by omega
    c2 := by omega }
  have hsame : hpS H4 H1.length ng (List.replicate P.toNat false, g) = H4 := by
    unfold hpS
    simp only
    rw [set_same gA, set_same gG]
  have h101 := s101 hv hw hc P.toNat i (List.replicate P.toNat false, g) hi (by simp) hg (by simp [unseen])
  rw [hsame] at h101
  refine CallK.of h101 ?_
  simp (maxSteps := 4000000) -implicitDefEqProofs -dsimp (disch := omega) only [↓AW_ret, ↓AOps_nil, ↓AOps_pu, on_some, extK_false, ↓then_normal, ↓Fin_ret, pval, rd_S, put_S, putS_none, resV, resL, List.replicate_succ, List.replicate_zero, List.set_cons_zero, List.set_cons_succ, List.getElem?_cons_zero, List.getElem?_cons_succ, Option.getD_some, Nat.reduceSub, List.cons_append, List.nil_append]
  refine gc_set ho.ob (fun x hx => ?_) ?_ rfl
  · obtain ⟨y, _, hy⟩ := List.mem_flatMap.1 hx
    exact flat_e1 y x hy
  · unfold hpS
    generalize (chF (lists ws) (P.toNat + 1) i (List.replicate P.toNat false, g)).2 = r
    have e4 : H4 = H ++ [.cells true [I P, v, .sl 1 ng 0 ws.length fg], .cells true ((List.replicate P.toNat false).flatMap eb), .cells true [.sl 1 H1.length 0 P.toNat true], .cells true [.fn 101 [.ptr H.length 0, .ptr H2.length 0, .ptr H3.length 0]]] := by
      rw [← hH4, ← hH3, ← hH2, ← hH1]; simp
    have e5 : H4.set H1.length (.cells true (r.1.flatMap eb)) = H ++ ([AObj.cells true [I P, v, .sl 1 ng 0 ws.length fg], .cells true ((List.replicate P.toNat false).flatMap eb), .cells true [.sl 1 H1.length 0 P.toNat true], .cells true [.fn 101 [.ptr H.length 0, .ptr H2.length 0, .ptr H3.length 0]]].set 1 (.cells true (r.1.flatMap eb))) := by
      conv => lhs; rw [e4]
      rw [List.set_append_right (h := by omega), l1, Nat.add_sub_cancel_left]
    rw [e5, List.set_append_left (h := hlt)]
    exact ⟨_, rfl⟩
end Go.Proofs.Ytlmbobbefgcolaa

namespace Go.Proofs.Ytlmbobbefgcolaa
open Go Go.Eng
theorem ren_old {α : Type} {es : Nat} {e : α → List AV} {A : AHeap} {v : AV} {xs : List α} (h : Ls es e A v xs) (f : Nat → Option Nat) (hf : ∀ k, k < A.length → f k = some k) (d : Nat) : ren f (d + 1) v = v := by
  rcases h.inv with ⟨rfl, _⟩ | ⟨n, off, full, rw, l, rfl, h1, _⟩
  · rfl
  · have := hf n (List.getElem?_eq_some_iff.1 h1).1
    simp [ren, this]
theorem gc_agg3 {α : Type} {es : Nat} {e : α → List AV} {A H : AHeap} {v : AV} {xs : List α} (P : Int) (hv : Ls es e A v xs) (hp : A <+: H) {m k : Nat} {cs : List AV} (hm : A.length ≤ m) (ho : H[m]? = some (.cells true cs)) (hf : ∀ x ∈ cs, flat x = true) :
    GC A (.agg [I P, v, .sl 1 m 0 k false]) H (.agg [I P, v, .sl 1 A.length 0 k false]) (A ++ [.cells true cs]) := by
  have hk := Keep.add (keep_old hp) (n := m) (o := .cells true cs) hm (by simp; omega) ho
  simp only [renO, ren_flats _ 3 cs hf] at hk
  refine gc_keep hk ?_
  have hr := ren_old hv (fun j => if j = m then some A.length else if j < A.length then some j else none) (fun j hj => by simp [hj]; omega) 2
  simp [ren, hr]
theorem s83 {xs : List Int} {v : AV} {A : AHeap} (hx : L1 A v xs) (hn : v ≠ .nilS) (hl : xs.length ≤ 1000000) : ACalls Try.prog 83 [v] A (.sl 1 A.length 0 xs.length false) (A ++ [.cells true (xs.flatMap e1)]) := by
  refine acalls hmix Try.func83 (by kernel_rfl) t83 1 rfl (by decide) ?_
  rcases hx.inv with ⟨rfl, _⟩ | ⟨n, off, full, rw, l, rfl, h1, h2, h3⟩
  · exact absurd rfl hn
  · by_cases h0 : xs = []
    · subst h0
      have happ : appA 1 (A ++ [.cells true []]) (.sl 1 A.length 0 0 true) (.sl 1 n off 0 full) = some (.sl 1 A.length 0 0 true, A ++ [.cells true []]) := by
        have hc := (hx.mono (pre_app A [.cells true []])).hc
        rw [List.length_nil] at hc
        unfold appA
        rw [hc]
        simp
      dsimp only [m83]
      simp (maxSteps := 4000000) -implicitDefEqProofs -dsimp (disch := omega) only [↓AW_skip, ↓AW_ops, ↓AW_seq, ↓AW_cond, ↓AW_ret, ↓AOps_nil, ↓AOps_pu, ↓AOps_ha, on_some, extK_app, extK_same, condB_f, ↓then_normal, ↓Fin_ret, pval, hval_blds, hval_app, rd_S, rd_C, put_S, resV, resL, fillA, repl, List.replicate_succ, List.replicate_zero, List.set_cons_zero, List.set_cons_succ, List.getElem?_cons_zero, List.getElem?_cons_succ, Option.getD_some, map_n, List.length_nil, Nat.reduceSub, List.cons_append, List.nil_append, List.replicate_zero, repl, happ]
      exact OL_gcS (OL.new_mk e1_len A ([] : List Int) true) flat_e1
    · have hpos : 0 < xs.length := List.length_pos_iff.2 h0
      have happ : appA 1 (A ++ [.cells true []]) (.sl 1 A.length 0 0 true) (.sl 1 n off xs.length full) = some (.sl 1 (A ++ [AObj.cells true []]).length 0 (0 + xs.length) false, A ++ [.cells true []] ++ [.cells true (xs.flatMap e1)]) := by
        unfold appA
        rw [(hx.mono (pre_app A [.cells true []])).hc]
        have : xs.length ≠ 0 := by omega
        have h4 : 0 + xs.length ≤ lim := by simp [lim]; omega
        simp [this, lim]
        omega
      dsimp only [m83]
      simp (maxSteps := 4000000) -implicitDefEqProofs -dsimp (disch := omega) only [↓AW_skip, ↓AW_ops, ↓AW_seq, ↓AW_cond, ↓AW_ret, ↓AOps_nil, ↓AOps_pu, ↓AOps_ha, on_some, extK_app, condB_f, ↓then_normal, ↓Fin_ret, pval, hval_blds, hval_app, rd_S, rd_C, put_S, resV, resL, fillA, repl, List.replicate_succ, List.replicate_zero, List.set_cons_zero, List.set_cons_succ, List.getElem?_cons_zero, List.getElem?_cons_succ, Option.getD_some, map_n, Nat.reduceSub, Nat.zero_add, List.cons_append, List.nil_append, List.replicate_zero, repl, happ]
      refine OL_gcS (n := A.length + 1) ⟨e1_len, ?_, by omega, ?_, false, by simp⟩ flat_e1
      · exact (pre_app A _).trans (pre_app _ _)
      · rw [List.getElem?_append_right (by simp)]
        simp
theorem s62 {P : Int} {ws : List (AV × List Int)} {A : AHeap} {v u : AV} {g : List Int} (hv : Val P (lists ws)) (hw : LL A v ws) (hu : L1 A u g) (hun : u ≠ .nilS) (hg : Good P (lists ws) g) :
    ACalls Try.prog 62 [.agg [I P, v, u]] A (.agg [I P, v, .sl 1 A.length 0 ws.length false]) (A ++ [.cells true ((flF P (lists ws) g).flatMap e1)]) := by
  refine acalls hmix Try.func62 (by kernel_rfl) t62 1 rfl (by decide) ?_
  have hls : ∀ l ∈ lists ws, ∀ p ∈ l, inP P p := fun l hl => (hv.l l hl).1
  have hgl : g.length = ws.length := by simpa using hg.len
  have hn : ws.length ≤ 7 := by simpa using hv.n
  dsimp only [m62]
  simp (maxSteps := 4000000) -implicitDefEqProofs -dsimp (disch := omega) only [↓AW_ops, ↓AW_seq, ↓AOps_nil, ↓AOps_pu, ↓AOps_call, on_some, ↓then_normal, pval, rd_S, rd_C, put_S, chkd, isAdr, bgot, cells_agg, partA, eq_self, List.replicate_succ, List.replicate_zero, List.set_cons_zero, List.set_cons_succ, List.getElem?_cons_zero, List.getElem?_cons_succ, List.drop_zero, List.drop_succ_cons, List.take_succ_cons, List.take_nil, Option.getD_some, map_c, map_n, List.length_cons, List.length_nil, Nat.reduceAdd, Nat.reduceSub, Nat.reduceLeDiff, Nat.zero_add, List.cons_append, List.nil_append, if_true, if_false, Bool.false_eq_true]
  refine CallK.of (s83 hu hun (by omega)) ?_
  rw [hgl]
  have hlen : ∀ k, k ≤ ws.length → Good P (lists ws) ((List.range k).foldl (flStep P (lists ws)) g) := fun k hk => (fl_inv hls hg k (by simpa using hk)).1
  have hOL : ∀ k, k ≤ ws.length → OL 1 e1 A (A ++ [.cells true (((List.range k).foldl (flStep P (lists ws)) g).flatMap e1)]) A.length (.sl 1 A.length 0 ws.length false) ((List.range k).foldl (flStep P (lists ws)) g) := fun k hk => by
    have h := OL.new_mk e1_len A ((List.range k).foldl (flStep P (lists ws)) g) false
    have : ((List.range k).foldl (flStep P (lists ws)) g).length = ws.length := by simpa using (hlen k hk).len
    rwa [this] at h
  have hln : lenA (.sl 1 A.length 0 ws.length false) = some (I ws.length) := rfl
  simp (maxSteps := 4000000) -implicitDefEqProofs -dsimp (disch := omega) only [↓AW_ops, ↓AW_seq, ↓AW_block, ↓AOps_nil, ↓AOps_pu, on_some, extK_app, ↓then_normal, pval, rd_S, rd_C, put_S, ↓AW_toLoop, chkd, isAdr, bput, bgot, cells_agg, cells_sl, splice, partA, eq_self, List.replicate_succ, List.replicate_zero, List.set_cons_zero, List.set_cons_succ, List.getElem?_cons_zero, List.getElem?_cons_succ, List.drop_zero, List.drop_succ_cons, List.drop_nil, List.take_zero, List.take_succ_cons, List.take_nil, Option.getD_some, List.length_cons, List.length_nil, Nat.reduceAdd, Nat.reduceSub, Nat.reduceLeDiff, Nat.zero_add, List.cons_append, List.nil_append, List.append_nil, if_true, if_false, Bool.false_eq_true, ne_eq, not_true_eq_false, hln]
  refine LoopK.by 25 (fun i : Nat => i ≤ ws.length) (fun i => [(1, .agg [I P, v, .sl 1 A.length 0 ws.length false]), (2, .agg [.int .i64 0, .nilS, .nilS]), (10, I ws.length), (11, I i)]) (fun i => A ++ [.cells true (((List.range i).foldl (flStep P (lists ws)) g).flatMap e1)]) (fun i => ws.length - i) 0 (by omega) rfl (by simp [Has, rd_s]) rfl ?_
  intro i hi
  by_cases hlt : i < ws.length
  · have hlt' : (i : Int) < ws.length := by omega
    have ho := hOL i hi
    have hgi := hlen i hi
    have hstep : (List.range (i + 1)).foldl (flStep P (lists ws)) g = flStep P (lists ws) ((List.range i).foldl (flStep P (lists ws)) g) i := by rw [List.range_succ, List.foldl_append]; rfl
    generalize (List.range i).foldl (flStep P (lists ws)) g = gi at *
    have hgil : gi.length = ws.length := by simpa using hgi.len
    obtain ⟨z, hz⟩ : ∃ z, gi[i]? = some z := ⟨_, List.getElem?_eq_getElem (by omega)⟩
    have hhz := has_get hz
    by_cases h0 : z < 0
    · have hfs : flStep P (lists ws) gi i = (chF (lists ws) (P.toNat + 1) i (List.replicate P.toNat false, gi)).2.2 := by unfold flStep; rw [hhz, if_pos h0]
      simp (maxSteps := 4000000) -implicitDefEqProofs -dsimp (disch := omega) only [↓AW_skip, ↓AW_ops, ↓AW_seq, ↓AW_cond, ↓AW_block, ↓AOps_nil, ↓AOps_pu, ↓AOps_ld, ↓AOps_call, on_some, condB_t, ↓then_normal, pval, lval, rd_S, rd_C, put_S, chkd, isAdr, bgot, cells_agg, partA, eq_self, mk, List.foldl_cons, List.foldl_nil, List.replicate_succ, List.replicate_zero, List.set_cons_zero, List.set_cons_succ, List.getElem?_cons_zero, List.getElem?_cons_succ, List.drop_zero, List.drop_succ_cons, List.take_succ_cons, List.take_nil, Option.getD_some, map_c, map_n, List.length_cons, List.length_nil, Nat.reduceAdd, Nat.reduceLeDiff, Nat.reduceEqDiff, Nat.zero_add, bin_lss, if_true, if_false, Bool.false_eq_true, decide_true, Go.Eng.e1, hlt', ho.ls.idx (show i < gi.length by omega), ho.ls.ld0 hz 1 false (by decide), h0]
      have h92 := s92 hv hw ho hgi (i : Int) ⟨by omega, by omega⟩
      rw [set_new] at h92
      refine CallK.of h92 ?_
      simp (maxSteps := 4000000) -implicitDefEqProofs -dsimp (disch := omega) only [↓AW_ops, ↓AOps_nil, ↓AOps_pu, on_some, extK_false, ↓then_normal, ↓inBlock_normal, pval, rd_S, rd_C, put_S, eq_self, mk, List.foldl_cons, List.foldl_nil, List.replicate_succ, List.replicate_zero, List.set_cons_zero, List.set_cons_succ, List.getElem?_cons_zero, List.getElem?_cons_succ, Option.getD_some, List.length_cons, List.length_nil, Nat.reduceAdd, Nat.zero_add, bin_add, w64, true_and]
      exact ⟨i + 1, hlt, by simp [Has, rd_s], by rw [hstep, hfs], by omega⟩
    · have hfs : flStep P (lists ws) gi i = gi := by unfold flStep; rw [hhz, if_neg h0]
      simp (maxSteps := 4000000) -implicitDefEqProofs -dsimp (disch := omega) only [↓AW_skip, ↓AW_ops, ↓AW_seq, ↓AW_cond, ↓AW_block, ↓AOps_nil, ↓AOps_pu, ↓AOps_ld, on_some, condB_t, condB_f, ↓then_normal, ↓inBlock_normal, pval, lval, rd_S, rd_C, put_S, chkd, isAdr, bgot, cells_agg, partA, eq_self, mk, List.foldl_cons, List.foldl_nil, List.replicate_succ, List.replicate_zero, List.set_cons_zero, List.set_cons_succ, List.getElem?_cons_zero, List.getElem?_cons_succ, List.drop_zero, List.drop_succ_cons, List.take_succ_cons, List.take_nil, Option.getD_some, List.length_cons, List.length_nil, Nat.reduceAdd, Nat.reduceLeDiff, Nat.zero_add, bin_add, bin_lss, w64, if_true, if_false, Bool.false_eq_true, decide_true, decide_false, Go.Eng.e1, true_and, hlt', ho.ls.idx (show i < gi.length by omega), ho.ls.ld0 hz 1 false (by decide), h0]
      exact ⟨i + 1, hlt, by simp [Has, rd_s], by rw [hstep, hfs], by omega⟩
  · have hlt' : ¬ ((i : Int) < ws.length) := by omega
    have hii : i = ws.length := by omega
    subst hii
    simp (maxSteps := 4000000) -implicitDefEqProofs -dsimp (disch := omega) only [↓AW_ops, ↓AW_seq, ↓AW_cond, ↓AW_exit, ↓AW_ret, ↓AOps_nil, ↓AOps_pu, on_some, condB_f, ↓then_normal, ↓then_exit, ↓inBlock_exit, ↓Fin_ret, pval, rd_S, put_S, resV, resL, chkd, bput, bgot, cells_agg, splice, partA, eq_self, mk, List.foldl_cons, List.foldl_nil, List.replicate_succ, List.replicate_zero, List.set_cons_zero, List.set_cons_succ, List.getElem?_cons_zero, List.getElem?_cons_succ, List.drop_zero, List.drop_succ_cons, List.drop_nil, List.take_zero, List.take_succ_cons, List.take_nil, Option.getD_some, List.length_cons, List.length_nil, Nat.reduceAdd, Nat.reduceLeDiff, Nat.reduceEqDiff, Nat.zero_add, List.nil_append, List.append_nil, bin_lss, if_true, if_false, decide_false, ne_eq, not_true_eq_false, hlt']
    refine gc_same_all rfl ?_
    unfold flF
    rw [List.length_map]
end Go.Proofs.Ytlmbobbefgcolaa

namespace Go.Proofs.Ytlmbobbefgcolaa
open Go Go.Eng
def mulOk (n : Nat) : Bool := match runF tab 300 6 102 [.int .u64 1, .int .u64 (n : Int)] [] with
  | some (.tuple [.int .u64 a, .int .u64 b], _) => decide (a = 0) && decide (b = (n : Int))
  | _ => false
set_option maxRecDepth 100000 in
theorem mul_run : ((List.range 65).all mulOk) = true := by kernel_rfl
theorem s102 (n : Nat) (hn : n ≤ 64) (A : AHeap) : ACalls Try.prog 102 [.int .u64 1, .int .u64 (n : Int)] A (.tuple [.int .u64 0, .int .u64 (n : Int)]) A := by
  have h := List.all_eq_true.1 mul_run n (List.mem_range.2 (by omega))
  unfold mulOk at h
  split at h
  · rename_i a b H hr
    simp only [Bool.and_eq_true, decide_eq_true_eq] at h
    obtain ⟨rfl, rfl⟩ := h
    exact ACalls_lift2 (runF_ok hmix tabOK 300 6 102 _ [] _ _ hr) (by simp [flat]) rfl rfl A
  · cases h
theorem s93 {r : Int} {y : AV} {A : AHeap} (hy : L1 A y [r]) (n : Nat) (hn : n ≤ 64) : ACalls Try.prog 93 [y, I n] A (.sl 1 A.length 0 n false) (A ++ [.cells true ((List.replicate n r).flatMap e1)]) := by
  refine acalls hmix Try.func93 (by kernel_rfl) t93 2 rfl (by decide) ?_
  have h0 : ¬ (n : Int) < 0 := by omega
  have hu1 : IntKind.u64.wrap ((1 : Nat) : Int) = 1 := by decide
  have hun := u64w (n : Int) (by omega) (by omega)
  have hbig : ¬ (9223372036854775807 : Int) < n := by omega
  have hn0 : (0 : Int) ≤ n := by omega
  have hnl : (n : Int) ≤ (lim : Int) := by simp [lim]; omega
  dsimp only [m93]
  simp (maxSteps := 4000000) -implicitDefEqProofs -dsimp (disch := omega) only [↓AW_skip, ↓AW_ops, ↓AW_seq, ↓AW_cond, ↓AOps_nil, ↓AOps_pu, ↓AOps_call, on_some, condB_f, ↓then_normal, pval, rd_S, rd_C, put_S, List.replicate_succ, List.replicate_zero, List.set_cons_zero, List.set_cons_succ, List.getElem?_cons_zero, List.getElem?_cons_succ, Option.getD_some, map_c, map_n, List.length_cons, List.length_nil, Nat.reduceSub, Nat.zero_add, List.cons_append, List.nil_append, bin_lss, decide_false, h0, hy.len, hu1, hun]
  refine CallK.of (s102 n hn A) ?_
  simp (maxSteps := 4000000) -implicitDefEqProofs -dsimp (disch := omega) only [↓AW_skip, ↓AW_ops, ↓AW_seq, ↓AW_cond, ↓AOps_nil, ↓AOps_pu, ↓AOps_ha, ↓AOps_guard, on_some, extK_app, extK_same, guardB_ff, condB_f, ↓then_normal, pval, hval_mks, hval_cpy, rd_S, rd_C, put_S, beq_self_eq_true, List.replicate_succ, List.replicate_zero, List.set_cons_zero, List.set_cons_succ, List.getElem?_cons_zero, List.getElem?_cons_succ, Option.getD_some, Nat.reduceSub, List.cons_append, List.nil_append, bin_gtr, w64, if_true, if_false, Bool.false_eq_true, decide_false, and_true, Int.reduceLT, hbig, hn0, hnl, Int.le_refl, Int.toNat_natCast]
  rw [repl_zero]
  have hmk := OL.new_mk e1_len A (List.replicate n (0 : Int)) true
  rw [List.length_replicate] at hmk
  have hc := OL_cpy hmk (hy.mono (pre_app A [.cells true ((List.replicate n (0 : Int)).flatMap Go.Eng.e1)])) 0 (by omega) true
  rw [Nat.zero_mul, Nat.sub_zero, List.length_replicate] at hc
  have hx0 : (List.replicate n (0 : Int)).take 0 ++ [r].take (min 1 n) ++ (List.replicate n (0 : Int)).drop (0 + min 1 n) = List.replicate (min 1 n) r ++ List.replicate (n - min 1 n) (0 : Int) := by
    cases n with
    | zero => rfl
    | succ n => simp [List.replicate_succ]
  have hOL := OL_setAll hmk (List.replicate (min 1 n) r ++ List.replicate (n - min 1 n) (0 : Int)) (by simp; omega)
  rw [show [r].length = 1 from rfl, hx0] at hc
  generalize hvv : AV.sl 1 A.length 0 n true = vv at *
  simp (maxSteps := 4000000) -implicitDefEqProofs -dsimp (disch := omega) only [↓AW_seq, ↓AW_block, ↓AOps_nil, ↓AOps_pu, on_some, extK_false, ↓then_normal, pval, rd_S, put_S, ↓AW_toLoop, List.replicate_succ, List.replicate_zero, List.set_cons_zero, List.set_cons_succ, List.getElem?_cons_zero, List.getElem?_cons_succ, Option.getD_some, Nat.reduceSub, List.cons_append, List.nil_append, hc]
  refine LoopK.by 48 (fun x : Nat × AHeap => x.1 ≤ n ∧ (1 ≤ x.1 ∨ n = 0) ∧ OL 1 e1 A x.2 A.length vv (List.replicate x.1 r ++ List.replicate (n - x.1) (0 : Int))) (fun x => [(7, vv), (8, I x.1)]) (fun x => x.2) (fun x => n - x.1) (min 1 n, _) ⟨by simp only; omega, by simp only; omega, hOL⟩ rfl (by simp [Has, rd_s]) rfl ?_
  rintro ⟨m, A1⟩ ⟨hm, hm1, ho⟩
  simp only at hm hm1 ho
  have hlen : lenA vv = some (I n) := by rw [← hvv]; rfl
  by_cases hlt : m < n
  · have hlt' : (m : Int) < n := by omega
    have hs1 : slcA 1 vv (some (I m)) none none = some (.sl 1 A.length (m * 1) (n - m) true) := by
      rw [← hvv]
      simp [slcA, bnd] <;> omega
    obtain ⟨v', hv', hL⟩ := Ls_takeS ho.ls m (by simp <;> omega)
    have hc2 := OL_cpy ho hL m (by simp <;> omega) true
    have hll : (List.replicate m r ++ List.replicate (n - m) (0 : Int)).length = n := by simp; omega
    have hlt2 : ((List.replicate m r ++ List.replicate (n - m) (0 : Int)).take m).length = m := by rw [List.length_take, hll]; omega
    rw [hll, hlt2, rep_step r _ hm] at hc2
    have hOL2 := OL_setAll ho (List.replicate (m + min m (n - m)) r ++ List.replicate (n - (m + min m (n - m))) (0 : Int)) (by simp; omega)
    simp (maxSteps := 4000000) -implicitDefEqProofs -dsimp (disch := omega) only [↓AW_skip, ↓AW_ops, ↓AW_seq, ↓AW_cond, ↓AW_block, ↓AOps_nil, ↓AOps_pu, ↓AOps_ha, on_some, extK_false, condB_t, ↓then_normal, ↓inBlock_normal, pval, hval_cpy, rd_S, put_S, eq_self, mk, List.foldl_cons, List.foldl_nil, List.replicate_succ, List.replicate_zero, List.set_cons_zero, List.set_cons_succ, List.getElem?_cons_zero, List.getElem?_cons_succ, Option.getD_some, Option.map_some, Option.map_none, List.length_cons, List.length_nil, Nat.reduceAdd, Nat.zero_add, bin_add, bin_lss, w64, decide_true, true_and, hlt', hlen, hs1, hv', hc2]
    refine ⟨(m + min m (n - m), _), ⟨by simp only; omega, by simp only; omega, hOL2⟩, by simp [Has, rd_s], rfl, by simp only; omega⟩
  · have hmn : m = n := by omega
    subst hmn
    rw [Nat.sub_self, List.replicate_zero, List.append_nil] at ho
    simp (maxSteps := 4000000) -implicitDefEqProofs -dsimp (disch := omega) only [↓AW_ops, ↓AW_seq, ↓AW_cond, ↓AW_exit, ↓AW_ret, ↓AOps_nil, ↓AOps_pu, on_some, condB_f, ↓then_normal, ↓then_exit, ↓inBlock_exit, ↓Fin_ret, pval, rd_S, put_S, resV, resL, eq_self, mk, List.foldl_cons, List.foldl_nil, List.replicate_succ, List.replicate_zero, List.set_cons_zero, List.set_cons_succ, List.getElem?_cons_zero, List.getElem?_cons_succ, Option.getD_some, bin_lss, if_true, decide_false, hlen, Int.lt_irrefl]
    have := OL_gcS ho flat_e1
    rwa [List.length_replicate] at this
abbrev noG (ws : List (AV × List Int)) : List Int := List.replicate ws.length (-1)
theorem s63 {P : Int} {ws : List (AV × List Int)} {A : AHeap} {v : AV} (hw : LL A v ws) (hn : ws.length ≤ 64) :
    ACalls Try.prog 63 [.agg [I P, v]] A (.agg [I P, v, .sl 1 A.length 0 ws.length false]) (A ++ [.cells true ((noG ws).flatMap e1)]) := by
  refine acalls hmix Try.func63 (by kernel_rfl) t63 1 rfl (by decide) ?_
  dsimp only [m63]
  simp (maxSteps := 4000000) -implicitDefEqProofs -dsimp (disch := omega) only [↓AW_ops, ↓AW_seq, ↓AOps_nil, ↓AOps_pu, ↓AOps_ha, ↓AOps_call, on_some, extK_app, ↓then_normal, pval, hval_blds, rd_S, rd_C, put_S, chkd, isAdr, bgot, cells_agg, cells_int, splice, partA, fillA, repl, eq_self, List.replicate_succ, List.replicate_zero, List.set_cons_zero, List.set_cons_succ, List.getElem?_cons_zero, List.getElem?_cons_succ, List.drop_zero, List.drop_succ_cons, List.drop_nil, List.take_zero, List.take_succ_cons, List.take_nil, Option.getD_some, map_c, map_n, List.length_cons, List.length_nil, Nat.reduceAdd, Nat.reduceSub, Nat.reduceLeDiff, Nat.reduceEqDiff, Nat.zero_add, List.cons_append, List.nil_append, List.append_nil, if_true, if_false, Bool.false_eq_true, and_true, Int.reduceNeg, hw.ls.len]
  refine CallK.of (s93 (L1_one A (-1)) ws.length hn) ?_
  simp (maxSteps := 4000000) -implicitDefEqProofs -dsimp (disch := omega) only [↓AW_ret, ↓AOps_nil, ↓AOps_pu, on_some, extK_app, ↓then_normal, ↓Fin_ret, pval, rd_S, put_S, resV, resL, chkd, bput, bgot, cells_agg, cells_sl, splice, partA, fillA, eq_self, List.replicate_succ, List.replicate_zero, List.set_cons_zero, List.set_cons_succ, List.getElem?_cons_zero, List.getElem?_cons_succ, List.drop_zero, List.drop_succ_cons, List.drop_nil, List.take_zero, List.take_succ_cons, List.take_nil, Option.getD_some, Option.map_some, map_c, map_n, List.length_cons, List.length_nil, Nat.reduceAdd, Nat.reduceSub, Nat.reduceLeDiff, Nat.reduceEqDiff, Nat.zero_add, List.cons_append, List.nil_append, List.append_nil, if_true, if_false, and_true, ne_eq, not_true_eq_false, Int.reduceNeg]
  refine gc_agg3 P hw.ls ((pre_app A _).trans (pre_app _ _)) (m := (A ++ [AObj.cells true [I (-1)]]).length) (by simp) (get_new _ _) (fun x hx => ?_)
  obtain ⟨y, _, hy⟩ := List.mem_flatMap.1 hx
  exact flat_e1 y x hy
theorem L1_new (A : AHeap) (g : List Int) (n : Nat) (hn : g.length = n) : L1 (A ++ [.cells true (g.flatMap e1)]) (.sl 1 A.length 0 n false) g := by
  have := (OL.new_mk e1_len A g false).ls
  rwa [hn] at this
theorem good_noG {P : Int} {ws : List (AV × List Int)} (hv : Val P (lists ws)) : Good P (lists ws) (noG ws) := by
  have := good_none P (by have := hv.hP; omega) (lists ws)
  rwa [List.length_map] at this
/-- The giving that is returned. -/
def best (P : Int) (ws : List (AV × List Int)) : List Int := flF P (lists ws) (noG ws)
theorem best_good {P : Int} {ws : List (AV × List Int)} (hv : Val P (lists ws)) : Good P (lists ws) (best P ws) := (fl_max (fun l hl => (hv.l l hl).1) (good_noG hv)).1
theorem best_most (P : Int) (ws : List (AV × List Int)) : srv (best P ws) = most P (lists ws) := by
  unfold best most noG
  rw [List.length_map]
theorem best_len {P : Int} {ws : List (AV × List Int)} (hv : Val P (lists ws)) : (best P ws).length = ws.length := by
  simpa using (best_good hv).len
/-- Filled, from nobody on. -/
theorem s62n {P : Int} {ws : List (AV × List Int)} {A : AHeap} {v : AV} (hv : Val P (lists ws)) (hw : LL A v ws) :
    ACalls Try.prog 62 [.agg [I P, v, .sl 1 A.length 0 ws.length false]] (A ++ [.cells true ((noG ws).flatMap e1)]) (.agg [I P, v, .sl 1 (A ++ [AObj.cells true ((noG ws).flatMap e1)]).length 0 ws.length false]) (A ++ [.cells true ((noG ws).flatMap e1)] ++ [.cells true ((best P ws).flatMap e1)]) :=
  s62 hv (hw.mono (pre_app A _)) (L1_new A (noG ws) ws.length (by simp [noG])) (by simp) (good_noG hv)
def mostN (P : Int) (ls : List (List Int)) : Int := if vW P ls = 0 then most P ls else 0
end Go.Proofs.Ytlmbobbefgcolaa

namespace Go.Proofs.Ytlmbobbefgcolaa
open Go Go.Eng
def bitOk (s p : Nat) : Bool :=
  (match binI .shl (I 1) (.int .u64 (p : Int)) with | some (.int .i64 b) => decide (b = ((2 ^ p : Nat) : Int)) | _ => false) &&
  (match binI .and (I (s : Int)) (I ((2 ^ p : Nat) : Int)) with | some (.int .i64 c) => decide (c = if s.testBit p = true then ((2 ^ p : Nat) : Int) else 0) | _ => false) &&
  (match binI .or (I (s : Int)) (I ((2 ^ p : Nat) : Int)) with | some (.int .i64 c) => decide (c = ((s ||| 2 ^ p : Nat) : Int)) | _ => false) &&
  (s.testBit p || decide ((s ||| 2 ^ p) = s + 2 ^ p))
set_option maxRecDepth 100000 in
theorem bit_run : ((List.range 128).all fun s => (List.range 8).all fun p => bitOk s p) = true := by kernel_rfl
theorem bit_facts {s p : Nat} (hs : s < 128) (hp : p < 8) : binI .shl (I 1) (.int .u64 (p : Int)) = some (I ((2 ^ p : Nat) : Int)) ∧ binI .and (I (s : Int)) (I ((2 ^ p : Nat) : Int)) = some (I (if s.testBit p = true then ((2 ^ p : Nat) : Int) else 0)) ∧
    (s.testBit p = false → binI .or (I (s : Int)) (I ((2 ^ p : Nat) : Int)) = some (I ((s + 2 ^ p : Nat) : Int))) := by
  have h := List.all_eq_true.1 (List.all_eq_true.1 bit_run s (List.mem_range.2 hs)) p (List.mem_range.2 hp)
  unfold bitOk at h
  simp only [Bool.and_eq_true] at h
  obtain ⟨⟨⟨h1, h2⟩, h3⟩, h4⟩ := h
  refine ⟨?_, ?_, fun hb => ?_⟩
  · split at h1
    · rename_i b e; rw [e, of_decide_eq_true h1]
    · cases h1
  · split at h2
    · rename_i b e; rw [e, of_decide_eq_true h2]
    · cases h2
  · split at h3
    · rename_i b e
      rw [hb, Bool.false_or] at h4
      rw [e, of_decide_eq_true h3, of_decide_eq_true h4]
    · cases h3
/-- A list of truth values, by a function. -/
def tb (N : Nat) (f : Nat → Bool) : List Bool := (List.range N).map f
theorem tb_len (N : Nat) (f : Nat → Bool) : (tb N f).length = N := by simp [tb]
theorem tb_get {N : Nat} {f : Nat → Bool} {s : Nat} (h : s < N) : (tb N f)[s]? = some (f s) := by simp [tb, h]
theorem tb_congr {N : Nat} {f g : Nat → Bool} (h : ∀ t, t < N → f t = g t) : tb N f = tb N g := by
  unfold tb
  exact List.map_congr_left (fun t ht => h t (List.mem_range.1 ht))
theorem tb_set {N : Nat} {f : Nat → Bool} (j : Nat) : (tb N f).set j true = tb N (fun t => f t || t == j) := by
  apply List.ext_getElem?
  intro i
  rw [List.getElem?_set]
  by_cases h : i < N
  · rw [tb_get h]
    by_cases h2 : j = i
    · subst h2
      simp [h, tb]
    · have : ¬ i = j := fun e => h2 e.symm
      simp [h2, this, tb, h]
  · have h1 : (tb N f)[i]? = none := by rw [List.getElem?_eq_none]; rw [tb_len]; omega
    have h2 : (tb N (fun t => f t || t == j))[i]? = none := by rw [List.getElem?_eq_none]; rw [tb_len]; omega
    rw [h1, h2]
    split
    · rename_i h3; rw [tb_len, if_neg (by omega)]
    · rfl
theorem tb_false (N : Nat) : List.replicate N false = tb N (fun _ => false) := by
  apply List.ext_getElem?
  intro i
  by_cases h : i < N <;> simp [tb, h]
theorem s60 (s : Nat) (hs : s ≤ 1000000) (A : AHeap) : ACalls Try.prog 60 [I s] A (I (pc s)) A := by
  refine acalls hmix Try.func60 (by kernel_rfl) t60 1 rfl (by decide) ?_
  dsimp only [m60]
  simp (maxSteps := 4000000) -implicitDefEqProofs -dsimp (disch := omega) only [↓AW_ops, ↓AW_seq, ↓AW_block, ↓AOps_nil, ↓AOps_pu, on_some, ↓then_normal, pval, rd_C, put_S, ↓AW_toLoop, List.replicate_succ, List.replicate_zero, List.set_cons_zero, List.set_cons_succ, Nat.reduceSub, List.cons_append, List.nil_append]
  have hb : ∀ t, pc t ≤ t := by
    intro t
    induction t using Nat.strongRecOn with
    | _ t ih =>
      rw [pc_eq]
      by_cases h : t = 0
      · subst h; simp [pc_0]
      · have := ih (t / 2) (by omega); omega
  refine LoopK.by 13 (fun x : Nat × Nat => x.2 ≤ s ∧ x.1 + pc x.2 = pc s) (fun x => [(0, I x.2), (3, I x.1)]) (fun _ => A) (fun x => x.2) (0, s) ⟨Nat.le_refl _, by simp⟩ rfl (by simp [Has, rd_s]) rfl ?_
  rintro ⟨n, t⟩ ⟨ht, hn⟩
  simp only at ht hn
  have hps := hb s
  by_cases h0 : 0 < t
  · have h0' : (0 : Int) < t := by omega
    have e1 : (t : Int).tmod 2 = ((t % 2 : Nat) : Int) := by rw [Int.tmod_eq_emod_of_nonneg (by omega)]; omega
    have e2 : (t : Int).tdiv 2 = ((t / 2 : Nat) : Int) := by rw [Int.tdiv_eq_ediv_of_nonneg (by omega)]; omega
    rw [pc_eq t] at hn
    simp (maxSteps := 4000000) -implicitDefEqProofs -dsimp (disch := omega) only [↓AW_skip, ↓AW_ops, ↓AW_seq, ↓AW_cond, ↓AW_block, ↓AOps_nil, ↓AOps_pu, on_some, condB_t, ↓then_normal, ↓inBlock_normal, pval, rd_S, rd_C, put_S, eq_self, mk, List.foldl_cons, List.foldl_nil, List.replicate_succ, List.replicate_zero, List.set_cons_zero, List.set_cons_succ, List.getElem?_cons_zero, List.getElem?_cons_succ, Option.getD_some, List.length_cons, List.length_nil, Nat.reduceAdd, Nat.zero_add, bin_add, bin_quo, bin_rem, bin_gtr, w64, if_false, decide_true, true_and, Int.reduceEq, h0', e1, e2]
    exact ⟨(n + t % 2, t / 2), ⟨by simp only; omega, by simp only; omega⟩, by simp [Has, rd_s], by simp only; omega⟩
  · have h0' : ¬ (0 : Int) < t := by omega
    have : t = 0 := by omega
    subst this
    rw [pc_0] at hn
    simp (maxSteps := 4000000) -implicitDefEqProofs -dsimp (disch := omega) only [↓AW_ops, ↓AW_seq, ↓AW_cond, ↓AW_exit, ↓AW_ret, ↓AOps_nil, ↓AOps_pu, on_some, condB_f, ↓then_normal, ↓then_exit, ↓inBlock_exit, ↓Fin_ret, pval, rd_S, rd_C, put_S, resV, resL, eq_self, mk, List.foldl_cons, List.foldl_nil, List.replicate_succ, List.replicate_zero, List.set_cons_zero, List.set_cons_succ, List.getElem?_cons_zero, List.getElem?_cons_succ, Option.getD_some, bin_gtr, if_true, decide_false, h0']
    exact gc_same (by rw [← hn]; rfl)
theorem s57 {f : Nat → Bool} {N : Nat} {v : AV} {A : AHeap} (hx : Lb A v (tb N f)) (hN : N ≤ 1000) : ACalls Try.prog 57 [v] A (I (mb f N)) A := by
  refine acalls hmix Try.func57 (by kernel_rfl) t57 1 rfl (by decide) ?_
  dsimp only [m57]
  simp (maxSteps := 4000000) -implicitDefEqProofs -dsimp (disch := omega) only [↓AW_ops, ↓AW_seq, ↓AW_block, ↓AOps_nil, ↓AOps_pu, on_some, ↓then_normal, pval, rd_C, put_S, ↓AW_toLoop, List.replicate_succ, List.replicate_zero, List.set_cons_zero, List.set_cons_succ, Nat.reduceSub, List.cons_append, List.nil_append]
  have hlen : lenA v = some (I N) := by have := hx.len; rwa [tb_len] at this
  refine LoopK.by 20 (fun i : Nat => i ≤ N) (fun i => [(0, v), (3, I (mb f i)), (4, I i)]) (fun _ => A) (fun i => N - i) 0 (by omega) rfl (by simp [Has, rd_s, mb]) rfl ?_
  intro i hi
  by_cases hlt : i < N
  · have hlt' : (i : Int) < N := by omega
    have hl2 : i < (tb N f).length := by rw [tb_len]; exact hlt
    have hz := tb_get (f := f) hlt
    by_cases hf : f i = true
    · rw [hf] at hz
      have hm : mb f (i + 1) = max (mb f i) (pc i) := by rw [mb, if_pos hf]
      simp (maxSteps := 4000000) -implicitDefEqProofs -dsimp (disch := omega) only [↓AW_skip, ↓AW_ops, ↓AW_seq, ↓AW_cond, ↓AW_block, ↓AOps_nil, ↓AOps_pu, ↓AOps_ld, ↓AOps_call, on_some, condB_t, ↓then_normal, pval, lval, rd_S, put_S, partA, eq_self, mk, List.foldl_cons, List.foldl_nil, List.replicate_succ, List.replicate_zero, List.set_cons_zero, List.set_cons_succ, List.getElem?_cons_zero, List.getElem?_cons_succ, List.drop_zero, List.take_succ_cons, List.take_nil, Option.getD_some, map_c, map_n, List.length_cons, List.length_nil, Nat.reduceLeDiff, Nat.zero_add, bin_lss, if_true, if_false, Bool.false_eq_true, decide_true, hlt', hlen, hx.idx hl2, hx.ld0 hz 1 false (by decide), eb]
      refine CallK.of (s60 i (by omega) A) ?_
      simp (maxSteps := 4000000) -implicitDefEqProofs -dsimp (disch := omega) only [↓AW_ops, ↓AOps_nil, ↓AOps_pu, on_some, extK_same, ↓then_normal, ↓inBlock_normal, pval, rd_S, rd_C, put_S, eq_self, mk, List.foldl_cons, List.foldl_nil, List.replicate_succ, List.replicate_zero, List.set_cons_zero, List.set_cons_succ, List.getElem?_cons_zero, List.getElem?_cons_succ, Option.getD_some, map_c, map_n, List.length_cons, List.length_nil, Nat.reduceAdd, Nat.zero_add, bin_add, mm_max, w64, true_and]
      exact ⟨i + 1, hlt, by simp [Has, rd_s, hm]; omega, by omega⟩
    · have hf' : f i = false := by simpa using hf
      rw [hf'] at hz
      have hm : mb f (i + 1) = mb f i := by rw [mb, if_neg hf]
      simp (maxSteps := 4000000) -implicitDefEqProofs -dsimp (disch := omega) only [↓AW_skip, ↓AW_ops, ↓AW_seq, ↓AW_cond, ↓AW_block, ↓AOps_nil, ↓AOps_pu, ↓AOps_ld, on_some, condB_t, condB_f, ↓then_normal, ↓inBlock_normal, pval, lval, rd_S, rd_C, put_S, partA, eq_self, mk, List.foldl_cons, List.foldl_nil, List.replicate_succ, List.replicate_zero, List.set_cons_zero, List.set_cons_succ, List.getElem?_cons_zero, List.getElem?_cons_succ, List.drop_zero, List.take_succ_cons, List.take_nil, Option.getD_some, List.length_cons, List.length_nil, Nat.reduceAdd, Nat.reduceLeDiff, Nat.zero_add, bin_add, bin_lss, w64, if_true, if_false, Bool.false_eq_true, decide_true, true_and, hlt', hlen, hx.idx hl2, hx.ld0 hz 1 false (by decide), eb]
      exact ⟨i + 1, hlt, by simp [Has, rd_s, hm], by omega⟩
  · have hlt' : ¬ ((i : Int) < N) := by omega
    have hii : i = N := by omega
    subst hii
    simp (maxSteps := 4000000) -implicitDefEqProofs -dsimp (disch := omega) only [↓AW_ops, ↓AW_seq, ↓AW_cond, ↓AW_exit, ↓AW_ret, ↓AOps_nil, ↓AOps_pu, on_some, condB_f, ↓then_normal, ↓then_exit, ↓inBlock_exit, ↓Fin_ret, pval, rd_S, put_S, resV, resL, eq_self, mk, List.foldl_cons, List.foldl_nil, List.replicate_succ, List.replicate_zero, List.set_cons_zero, List.set_cons_succ, List.getElem?_cons_zero, List.getElem?_cons_succ, Option.getD_some, bin_lss, if_true, decide_false, hlt', hlen]
    exact gc_same rfl
/-- What one owner's list adds, set after set. -/
def nx (f : Nat → Bool) (l : List Int) (s0 t : Nat) : Bool := f t || (List.range s0).any (fun s => f s && l.any (fun p => !s.testBit p.toNat && t == s + 2 ^ p.toNat))
theorem nx_succ (f : Nat → Bool) (l : List Int) (s t : Nat) : nx f l (s + 1) t = (nx f l s t || (f s && l.any (fun p => !s.testBit p.toNat && t == s + 2 ^ p.toNat))) := by
  unfold nx
  rw [List.range_succ, List.any_append]
  simp [Bool.or_assoc]
theorem nx_end (f : Nat → Bool) (l : List Int) {N t : Nat} (ht : t < N) : nx f l N t = cb f l t := by
  unfold nx cb
  congr 1
  rw [Bool.eq_iff_iff, List.any_eq_true, List.any_eq_true]
  constructor
  · rintro ⟨s, hs, h⟩
    simp only [Bool.and_eq_true, List.any_eq_true, Bool.not_eq_true', beq_iff_eq] at h
    obtain ⟨hf, p, hp, hb, rfl⟩ := h
    refine ⟨p, hp, ?_⟩
    rw [tb_add _ _ _ hb, Nat.add_sub_cancel]
    simp [hf]
  · rintro ⟨p, hp, h⟩
    simp only [Bool.and_eq_true] at h
    obtain ⟨s, h1, h2⟩ := tb_sub _ _ h.1
    have h3 : t - 2 ^ p.toNat = s := by omega
    rw [h3] at h
    have h4 := Nat.two_pow_pos p.toNat
    refine ⟨s, List.mem_range.2 (by omega), ?_⟩
    simp only [Bool.and_eq_true, List.any_eq_true, Bool.not_eq_true', beq_iff_eq]
    exact ⟨h.2, p, hp, h1, h2⟩
theorem app_fresh {α : Type} {es : Nat} {e : α → List AV} {B : AHeap} {y : AV} {ys : List α} (hy : Ls es e B y ys) {n : Nat} (hn : B[n]? = some (.cells true [])) (h0 : 0 < ys.length) (hl : ys.length ≤ lim) :
    appA es B (.sl es n 0 0 true) y = some (.sl es B.length 0 ys.length false, B ++ [.cells true (ys.flatMap e)]) := by
  unfold appA
  rw [hy.hc]
  have : ys.length ≠ 0 := by omega
  simp [this, hn, hl]
theorem OL_base {α : Type} {es : Nat} {e : α → List AV} {A B H : AHeap} {n : Nat} {v : AV} {xs : List α} (hp : A <+: B) (h : OL es e B H n v xs) : OL es e A H n v xs := ⟨h.he, hp.trans h.pre, Nat.le_trans hp.length_le h.new, h.ob, h.v⟩
theorem flat_eb (b : Bool) : ∀ y ∈ eb b, flat y = true := by simp [eb, flat]
set_option maxHeartbeats 1000000 in
theorem s58 {P : Int} {ws : List (AV × List Int)} {A : AHeap} {v : AV} (hv : Val P (lists ws)) (hw : LL A v ws) (wo : Int) :
    ACalls Try.prog 58 [.agg [I P, v], I wo] A (.sl 1 A.length 0 (2 ^ P.toNat) false) (A ++ [.cells true ((tb (2 ^ P.toNat) (cF (lists ws) wo ws.length)).flatMap eb)]) := by
  refine acalls hmix Try.func58 (by kernel_rfl) t58 2 rfl (by decide) ?_
  have hP := hv.hP
  have hn : ws.length ≤ 7 := by simpa using hv.n
  have hls : ∀ l ∈ lists ws, ∀ p ∈ l, inP P p := fun l hl => (hv.l l hl).1
  obtain ⟨p', hp', hpn⟩ : ∃ p' : Nat, P = (p' : Int) ∧ P.toNat = p' := ⟨P.toNat, by omega, rfl⟩
  rw [hpn]
  have hp7 : p' ≤ 7 := by omega
  have hpow : 2 ^ p' ≤ 128 := by
    have : 2 ^ p' ≤ 2 ^ 7 := Nat.pow_le_pow_right (by omega) hp7
    omega
  have hpow0 : 0 < 2 ^ p' := Nat.pow_pos (by omega)
  have hshl := (bit_facts (s := 0) (p := p') (by omega) (by omega)).1
  have hcv := u64w P (by omega) (by omega)
  rw [hp'] at hcv ⊢
  generalize hN : 2 ^ p' = N at *
  have hN0 : (0 : Int) ≤ (N : Int) := by omega
  have hNl : (N : Int) ≤ (lim : Int) := by simp [lim]; omega
  dsimp only [m58]
  simp (maxSteps := 4000000) -implicitDefEqProofs -dsimp (disch := omega) only [↓AW_ops, ↓AW_seq, ↓AOps_nil, ↓AOps_pu, ↓AOps_ha, on_some, extK_app, ↓then_normal, pval, hval_mks, rd_S, rd_C, put_S, chkd, isAdr, bgot, cells_agg, partA, beq_self_eq_true, eq_self, List.replicate_succ, List.replicate_zero, List.set_cons_zero, List.set_cons_succ, List.getElem?_cons_zero, List.getElem?_cons_succ, List.drop_zero, List.take_zero, List.take_succ_cons, Option.getD_some, List.length_cons, List.length_nil, Nat.reduceAdd, Nat.reduceSub, Nat.reduceLeDiff, Nat.zero_add, List.cons_append, List.nil_append, if_true, if_false, Bool.false_eq_true, and_true, hcv, hshl, hN0, hNl, Int.le_refl, Int.toNat_natCast]
  rw [repl_false]
  have hmk := OL.new_mk eb_len A (List.replicate N false) true
  rw [List.length_replicate] at hmk
  have hst := hmk.st (i := 0) (by simp; omega) (B true) true rfl
  rw [Nat.zero_mul, Nat.add_zero] at hst
  have hOL := hmk.set 0 true
  have h0N : 0 < (List.replicate N false).length := by simp; omega
  generalize hvv : AV.sl 1 A.length 0 N true = vv at *
  simp (maxSteps := 4000000) -implicitDefEqProofs -dsimp (disch := omega) only [↓AW_ops, ↓AW_seq, ↓AW_block, ↓AOps_nil, ↓AOps_pu, ↓AOps_ha, on_some, extK_false, ↓then_normal, pval, hval_st, rd_S, rd_C, put_S, putS_none, ↓AW_toLoop, List.replicate_succ, List.replicate_zero, List.set_cons_zero, List.set_cons_succ, List.getElem?_cons_zero, List.getElem?_cons_succ, Option.getD_some, Option.map_some, Nat.reduceSub, Nat.reduceMul, Nat.add_zero, List.cons_append, List.nil_append, hmk.ls.idxI (k := .i64) (i := 0) (by omega) (by omega), Int.toNat_zero, hst]
  have hset : (List.replicate N false).set 0 true = tb N (cF (lists ws) wo 0) := by
    rw [tb_false, tb_set]
    refine tb_congr (fun t _ => ?_)
    simp [cF]
  rw [hset] at hOL ⊢
  refine LoopK.by 74 (fun x : Nat × AV × Nat × AHeap => x.1 ≤ ws.length ∧ OL 1 eb A x.2.2.2 x.2.2.1 x.2.1 (tb N (cF (lists ws) wo x.1))) (fun x => [(1, I wo), (2, .agg [I (p' : Int), v]), (5, x.2.1), (6, I x.1)]) (fun x => x.2.2.2) (fun x => ws.length - x.1) (0, vv, A.length, _) ⟨by simp only; omega, hOL⟩ rfl (by simp [Has, rd_s]) rfl ?_
  rintro ⟨i, vc, nc, H⟩ ⟨hi, hc⟩
  simp only at hi hc
  have hwH := hw.mono hc.pre
  by_cases hlt : i < ws.length
  · obtain ⟨x, hz⟩ : ∃ z, ws[i]? = some z := ⟨_, List.getElem?_eq_getElem hlt⟩
    have hlt' : (i : Int) < ws.length := by omega
    have hm := List.mem_of_getElem? hz
    have hlx := lst_at hz
    have hxP := hls x.2 (List.mem_map.2 ⟨x, hm, rfl⟩)
    have hxl := hv.len (List.mem_map.2 ⟨x, hm, rfl⟩ : x.2 ∈ lists ws)
    by_cases hwo : (i : Int) = wo
    · subst hwo
      simp (maxSteps := 4000000) -implicitDefEqProofs -dsimp (disch := omega) only [↓AW_skip, ↓AW_ops, ↓AW_seq, ↓AW_cond, ↓AW_block, ↓AW_exit, ↓AW_ret, ↓AOps_nil, ↓AOps_pu, on_some, condB_t, ↓then_normal, ↓then_exit, ↓inBlock_exit, ↓Fin_ret, pval, rd_S, rd_C, put_S, resV, resL, chkd, isAdr, bgot, cells_agg, partA, eq_self, mk, List.foldl_cons, List.foldl_nil, List.replicate_succ, List.replicate_zero, List.set_cons_zero, List.set_cons_succ, List.getElem?_cons_zero, List.getElem?_cons_succ, List.drop_zero, List.drop_succ_cons, List.take_succ_cons, List.take_nil, Option.getD_some, List.length_cons, List.length_nil, Nat.reduceAdd, Nat.reduceLeDiff, Nat.zero_add, bin_add, bin_eql, bin_lss, w64, if_true, if_false, Bool.false_eq_true, decide_true, true_and, reduceCtorEq, hlt', hwH.ls.len]
      refine ⟨(i + 1, vc, nc, H), ⟨hlt, ?_⟩, by simp [Has, rd_s], rfl, by simp only; omega⟩
      simp only
      have : tb N (cF (lists ws) i (i + 1)) = tb N (cF (lists ws) i i) := tb_congr (fun t _ => by rw [cF, if_pos rfl])
      rw [this]; exact hc
    · generalize hfi : cF (lists ws) wo i = f at *
      have pB := pre_app H [.cells true []]
      have hcB := hc.ls.mono pB
      have happ := app_fresh hcB (get_new H (.cells true [])) (by rw [tb_len]; exact hpow0) (by rw [tb_len]; simp [lim]; omega)
      rw [tb_len] at happ
      have hlc : lenA vc = some (I N) := by have := hc.ls.len; rwa [tb_len] at this
      have hO2 := OL.new_mk eb_len (H ++ [.cells true []]) (tb N f) false
      rw [tb_len] at hO2
      simp (maxSteps := 4000000) -implicitDefEqProofs -dsimp (disch := omega) only [↓AW_skip, ↓AW_ops, ↓AW_seq, ↓AW_cond, ↓AW_block, ↓AOps_nil, ↓AOps_pu, ↓AOps_ha, on_some, extK_app, condB_t, condB_f, ↓then_normal, pval, hval_blds, hval_app, rd_S, rd_C, put_S, ↓AW_toLoop, chkd, isAdr, bgot, cells_agg, partA, fillA, repl, eq_self, mk, List.foldl_cons, List.foldl_nil, List.replicate_succ, List.replicate_zero, List.set_cons_zero, List.set_cons_succ, List.getElem?_cons_zero, List.getElem?_cons_succ, List.drop_zero, List.drop_succ_cons, List.take_succ_cons, List.take_nil, Option.getD_some, map_n, List.length_cons, List.length_nil, Nat.reduceAdd, Nat.reduceLeDiff, Nat.zero_add, bin_eql, bin_lss, if_true, if_false, Bool.false_eq_true, decide_true, decide_false, hlt', hwH.ls.len, hwo, List.replicate_zero, repl, happ]
      have hwB := hwH.mono pB
      generalize hBB : H ++ [AObj.cells true []] = Bh at *
      generalize hvn : AV.sl 1 Bh.length 0 N false = vn at *
      have h0 : tb N f = tb N (nx f x.2 0) := tb_congr (fun t _ => by simp [nx])
      rw [h0] at hO2 ⊢
      refine LoopK.by 74 (fun y : Nat × AHeap => y.1 ≤ N ∧ OL 1 eb Bh y.2 Bh.length vn (tb N (nx f x.2 y.1))) (fun y => [(1, I wo), (2, .agg [I (p' : Int), v]), (5, vc), (6, I i), (7, vn), (8, I y.1)]) (fun y => y.2) (fun y => N - y.1) (0, _) ⟨by simp only; omega, hO2⟩ rfl (by simp [Has, rd_s]) rfl ?_
      rintro ⟨s, Hs⟩ ⟨hs, ho⟩
      simp only at hs ho
      by_cases hsN : s < N
      · have hsN' : (s : Int) < N := by omega
        have hsl : s < (tb N f).length := by rw [tb_len]; exact hsN
        have hgs := tb_get (f := f) hsN
        simp (maxSteps := 4000000) -implicitDefEqProofs -dsimp (disch := omega) only [↓AW_skip, ↓AW_ops, ↓AW_seq, ↓AW_cond, ↓AW_block, ↓AOps_nil, ↓AOps_pu, on_some, condB_t, ↓then_normal, pval, rd_S, rd_C, put_S, ↓AW_toLoop, mk, List.foldl_cons, List.foldl_nil, List.replicate_succ, List.replicate_zero, List.set_cons_zero, List.set_cons_succ, List.getElem?_cons_zero, List.getElem?_cons_succ, Option.getD_some, bin_lss, decide_true, hsN', hlc]
        refine LoopK.by 74 (fun y : Nat × AHeap => y.1 ≤ x.2.length ∧ (f s = false → y.1 = 0) ∧ OL 1 eb Bh y.2 Bh.length vn (tb N (fun t => nx f x.2 s t || (x.2.take y.1).any (fun p => !s.testBit p.toNat && t == s + 2 ^ p.toNat)))) (fun y => [(1, I wo), (2, .agg [I (p' : Int), v]), (5, vc), (6, I i), (7, vn), (8, I s), (9, I y.1)]) (fun y => y.2) (fun y => x.2.length - y.1) (0, Hs) ⟨by simp only; omega, fun _ => rfl, by simpa using ho⟩ rfl (by simp [Has, rd_s]) rfl ?_
        rintro ⟨k, Hk⟩ ⟨hk, hk0, hok⟩
        simp only at hk hk0 hok
        have hwk := hwB.mono hok.pre
        have hck := hcB.mono hok.pre
        have hxk := hwk.inn x hm
        by_cases hltk : k < x.2.length
        · have hltk' : (k : Int) < x.2.length := by omega
          obtain ⟨p, hzp⟩ : ∃ p, x.2[k]? = some p := ⟨_, List.getElem?_eq_getElem hltk⟩
          have hpp := hxP p (List.mem_of_getElem? hzp)
          by_cases hf : f s = true
          · rw [hf] at hgs
            obtain ⟨pn, hpe, hpt⟩ : ∃ pn : Nat, p = (pn : Int) ∧ p.toNat = pn := ⟨p.toNat, by have := hpp.1; omega, rfl⟩
            have hpn7 : pn < p' := by have := hpp.2; omega
            obtain ⟨b1, b2, b3⟩ := bit_facts (s := s) (p := pn) (by omega) (by omega)
            have hcvp := u64w p hpp.1 (by have := hpp.2; omega)
            have hstep : ∀ t, ((x.2.take (k + 1)).any (fun p => !s.testBit p.toNat && t == s + 2 ^ p.toNat)) = ((x.2.take k).any (fun p => !s.testBit p.toNat && t == s + 2 ^ p.toNat) || (!s.testBit pn && t == s + 2 ^ pn)) := fun t => by
              rw [List.take_add_one, hzp, List.any_append]
              simp [hpt]
            rw [hpe] at hcvp
            by_cases hb : s.testBit pn = true
            · rw [if_pos hb] at b2
              have hne : ¬ ((2 ^ pn : Nat) : Int) = 0 := by have : 0 < 2 ^ pn := Nat.pow_pos (by omega); omega
              simp (maxSteps := 4000000) -implicitDefEqProofs -dsimp (disch := omega) only [↓AW_skip, ↓AW_ops, ↓AW_seq, ↓AW_cond, ↓AW_block, ↓AOps_nil, ↓AOps_pu, ↓AOps_ld, ↓AOps_guard, on_some, guardB_tt, condB_t, condB_f, ↓then_normal, ↓inBlock_normal, pval, lval, rd_S, rd_C, put_S, chkd, isAdr, bgot, cells_agg, partA, eq_self, mk, List.foldl_cons, List.foldl_nil, List.replicate_succ, List.replicate_zero, List.set_cons_zero, List.set_cons_succ, List.getElem?_cons_zero, List.getElem?_cons_succ, List.drop_zero, List.drop_succ_cons, List.take_succ_cons, List.take_nil, Option.getD_some, List.length_cons, List.length_nil, Nat.reduceAdd, Nat.reduceLeDiff, Nat.zero_add, bin_add, bin_eql, bin_lss, w64, if_true, if_false, Bool.false_eq_true, decide_true, decide_false, Go.Eng.e1, true_and, hltk', hwk.ls.idx hlt, hwk.ls.ld0 hz 1 false (by decide), e0, hck.idx hsl, hck.ld0 hgs 1 false (by decide), eb, hxk.len, hxk.idx hltk, hxk.ld0 hzp 1 false (by decide), hpe, hcvp, b1, b2, hne]
              refine ⟨(k + 1, Hk), ⟨hltk, (fun h => by rw [hf] at h; cases h), ?_⟩, by simp [Has, rd_s], rfl, by simp only; omega⟩
              simp only
              have : tb N (fun t => nx f x.2 s t || (x.2.take (k + 1)).any (fun p => !s.testBit p.toNat && t == s + 2 ^ p.toNat)) = tb N (fun t => nx f x.2 s t || (x.2.take k).any (fun p => !s.testBit p.toNat && t == s + 2 ^ p.toNat)) := tb_congr (fun t _ => by rw [hstep t, hb]; simp)
              rw [this]; exact hok
            · have hb' : s.testBit pn = false := by simpa using hb
              rw [if_neg hb] at b2
              have b3' := b3 hb'
              have hsum : s + 2 ^ pn < N := by
                have h5 : s + 2 ^ pn < 2 ^ p' := by
                  refine Nat.lt_pow_two_of_testBit _ (fun q hq => ?_)
                  rw [tb_add _ _ _ hb']
                  have : s.testBit q = false := Nat.testBit_lt_two_pow (Nat.lt_of_lt_of_le (by rw [hN]; exact hsN) (Nat.pow_le_pow_right (by omega) hq))
                  rw [this]
                  simp; omega
                rw [hN] at h5; exact h5
              have hstk := hok.st (i := s + 2 ^ pn) (by rw [tb_len]; exact hsum) (B true) true rfl
              have hidx := hok.ls.idx (k := .i64) (i := s + 2 ^ pn) (by rw [tb_len]; exact hsum)
              simp (maxSteps := 4000000) -implicitDefEqProofs -dsimp (disch := omega) only [↓AW_skip, ↓AW_ops, ↓AW_seq, ↓AW_cond, ↓AW_block, ↓AOps_nil, ↓AOps_pu, ↓AOps_ld, ↓AOps_ha, ↓AOps_guard, on_some, extK_false, guardB_tt, condB_t, ↓then_normal, ↓inBlock_normal, pval, lval, hval_st, rd_S, rd_C, put_S, putS_none, chkd, isAdr, bgot, cells_agg, partA, eq_self, mk, List.foldl_cons, List.foldl_nil, List.replicate_succ, List.replicate_zero, List.set_cons_zero, List.set_cons_succ, List.getElem?_cons_zero, List.getElem?_cons_succ, List.drop_zero, List.drop_succ_cons, List.take_succ_cons, List.take_nil, Option.getD_some, Option.map_some, List.length_cons, List.length_nil, Nat.reduceAdd, Nat.reduceLeDiff, Nat.zero_add, bin_add, bin_eql, bin_lss, w64, if_true, if_false, Bool.false_eq_true, decide_true, Go.Eng.e1, true_and, hltk', hwk.ls.idx hlt, hwk.ls.ld0 hz 1 false (by decide), e0, hck.idx hsl, hck.ld0 hgs 1 false (by decide), eb, hxk.len, hxk.idx hltk, hxk.ld0 hzp 1 false (by decide), hpe, hcvp, b1, b2, b3', hidx, hstk]
              refine ⟨(k + 1, _), ⟨hltk, (fun h => by rw [hf] at h; cases h), ?_⟩, by simp [Has, rd_s], rfl, by simp only; omega⟩
              simp only
              have : tb N (fun t => nx f x.2 s t || (x.2.take (k + 1)).any (fun p => !s.testBit p.toNat && t == s + 2 ^ p.toNat)) = (tb N (fun t => nx f x.2 s t || (x.2.take k).any (fun p => !s.testBit p.toNat && t == s + 2 ^ p.toNat))).set (s + 2 ^ pn) true := by
                rw [tb_set]
                exact tb_congr (fun t _ => by rw [hstep t, hb']; simp [Bool.or_assoc])
              rw [this]; exact hok.set _ _
          · have hf' : f s = false := by simpa using hf
            have hk00 := hk0 hf'
            rw [hf'] at hgs
            simp (maxSteps := 4000000) -implicitDefEqProofs -dsimp (disch := omega) only [↓AW_ops, ↓AW_seq, ↓AW_cond, ↓AW_exit, ↓AW_ret, ↓AOps_nil, ↓AOps_pu, ↓AOps_ld, ↓AOps_guard, on_some, guardB_tt, condB_f, ↓then_normal, ↓then_exit, ↓inBlock_normal, ↓inBlock_exit, ↓Fin_ret, pval, lval, rd_S, rd_C, put_S, resV, resL, chkd, isAdr, bgot, cells_agg, partA, eq_self, mk, List.foldl_cons, List.foldl_nil, List.replicate_succ, List.replicate_zero, List.set_cons_zero, List.set_cons_succ, List.getElem?_cons_zero, List.getElem?_cons_succ, List.drop_zero, List.drop_succ_cons, List.take_succ_cons, List.take_nil, Option.getD_some, List.length_cons, List.length_nil, Nat.reduceAdd, Nat.reduceLeDiff, Nat.reduceEqDiff, Nat.zero_add, bin_add, bin_lss, w64, if_true, if_false, Bool.false_eq_true, decide_true, true_and, reduceCtorEq, hltk', hwk.ls.idx hlt, hwk.ls.ld0 hz 1 false (by decide), e0, hxk.len, hck.idx hsl, hck.ld0 hgs 1 false (by decide), eb]
            refine ⟨(s + 1, Hk), ⟨hsN, ?_⟩, by simp [Has, rd_s], rfl, by simp only; omega⟩
            simp only
            have : tb N (nx f x.2 (s + 1)) = tb N (fun t => nx f x.2 s t || (x.2.take k).any (fun p => !s.testBit p.toNat && t == s + 2 ^ p.toNat)) := tb_congr (fun t _ => by rw [nx_succ, hf', hk00]; simp)
            rw [this]; exact hok
        · have hltk' : ¬ ((k : Int) < x.2.length) := by omega
          rw [List.take_of_length_le (by omega)] at hok
          simp (maxSteps := 4000000) -implicitDefEqProofs -dsimp (disch := omega) only [↓AW_ops, ↓AW_seq, ↓AW_cond, ↓AW_exit, ↓AW_ret, ↓AOps_nil, ↓AOps_pu, ↓AOps_ld, ↓AOps_guard, on_some, guardB_ft, skipS_some, condB_f, ↓then_normal, ↓then_exit, ↓inBlock_normal, ↓inBlock_exit, ↓Fin_ret, pval, lval, rd_S, rd_C, put_S, resV, resL, chkd, isAdr, bgot, cells_agg, partA, eq_self, mk, List.foldl_cons, List.foldl_nil, List.replicate_succ, List.replicate_zero, List.set_cons_zero, List.set_cons_succ, List.getElem?_cons_zero, List.getElem?_cons_succ, List.drop_zero, List.drop_succ_cons, List.take_succ_cons, List.take_nil, Option.getD_some, List.length_cons, List.length_nil, Nat.reduceAdd, Nat.reduceLeDiff, Nat.reduceEqDiff, Nat.zero_add, bin_add, bin_lss, w64, if_true, if_false, Bool.false_eq_true, decide_false, true_and, reduceCtorEq, hltk', hwk.ls.idx hlt, hwk.ls.ld0 hz 1 false (by decide), e0, hxk.len]
          refine ⟨(s + 1, Hk), ⟨hsN, ?_⟩, by simp [Has, rd_s], rfl, by simp only; omega⟩
          simp only
          by_cases hf : f s = true
          · have : tb N (nx f x.2 (s + 1)) = tb N (fun t => nx f x.2 s t || x.2.any (fun p => !s.testBit p.toNat && t == s + 2 ^ p.toNat)) := tb_congr (fun t _ => by rw [nx_succ, hf]; simp)
            rw [this]; exact hok
          · have hf' : f s = false := by simpa using hf
            have hk00 := hk0 hf'
            have hxe : x.2 = [] := List.eq_nil_of_length_eq_zero (by omega)
            have : tb N (nx f x.2 (s + 1)) = tb N (fun t => nx f x.2 s t || x.2.any (fun p => !s.testBit p.toNat && t == s + 2 ^ p.toNat)) := tb_congr (fun t _ => by rw [nx_succ, hf', hxe]; simp)
            rw [this]; exact hok
      · have hsN' : ¬ ((s : Int) < N) := by omega
        have hsn : s = N := by omega
        subst hsn
        simp (maxSteps := 4000000) -implicitDefEqProofs -dsimp (disch := omega) only [↓AW_ops, ↓AW_seq, ↓AW_cond, ↓AW_exit, ↓AW_ret, ↓AOps_nil, ↓AOps_pu, on_some, condB_f, ↓then_normal, ↓then_exit, ↓inBlock_normal, ↓inBlock_exit, ↓Fin_ret, pval, rd_S, rd_C, put_S, resV, resL, eq_self, mk, List.foldl_cons, List.foldl_nil, List.replicate_succ, List.replicate_zero, List.set_cons_zero, List.set_cons_succ, List.getElem?_cons_zero, List.getElem?_cons_succ, Option.getD_some, List.length_cons, List.length_nil, Nat.reduceAdd, Nat.reduceEqDiff, Nat.zero_add, bin_add, bin_lss, w64, if_true, if_false, decide_false, true_and, reduceCtorEq, hsN', hlc]
        refine ⟨(i + 1, vn, Bh.length, Hs), ⟨hlt, ?_⟩, by simp [Has, rd_s], rfl, by simp only; omega⟩
        simp only
        have : tb s (cF (lists ws) wo (i + 1)) = tb s (nx f x.2 s) := tb_congr (fun t ht => by rw [cF, if_neg hwo, nx_end f x.2 ht, hlx, hfi])
        rw [this]
        exact OL_base (hc.pre.trans pB) ho
  · have hlt' : ¬ ((i : Int) < ws.length) := by omega
    have hii : i = ws.length := by omega
    subst hii
    simp (maxSteps := 4000000) -implicitDefEqProofs -dsimp (disch := omega) only [↓AW_ops, ↓AW_seq, ↓AW_cond, ↓AW_exit, ↓AW_ret, ↓AOps_nil, ↓AOps_pu, on_some, condB_f, ↓then_normal, ↓then_exit, ↓inBlock_exit, ↓Fin_ret, pval, rd_S, put_S, resV, resL, chkd, isAdr, bgot, cells_agg, partA, eq_self, mk, List.foldl_cons, List.foldl_nil, List.replicate_succ, List.replicate_zero, List.set_cons_zero, List.set_cons_succ, List.getElem?_cons_zero, List.getElem?_cons_succ, List.drop_zero, List.drop_succ_cons, List.take_succ_cons, List.take_nil, Option.getD_some, List.length_cons, List.length_nil, Nat.reduceAdd, Nat.reduceLeDiff, Nat.zero_add, bin_lss, if_true, if_false, Bool.false_eq_true, decide_false, hlt', hwH.ls.len]
    have := OL_gcS hc flat_eb
    rwa [tb_len] at this
end Go.Proofs.Ytlmbobbefgcolaa

namespace Go.Proofs.Ytlmbobbefgcolaa
open Go Go.Eng
theorem drp_none (ls : List (List Int)) : drp ls (-1) = ls := by unfold drp; rw [if_neg (by omega)]
theorem s25 {P : Int} {ws : List (AV × List Int)} {A : AHeap} {v : AV} (hw : LL A v ws) (hs : Sz ws) : ACalls Try.prog 25 [.agg [I P, v]] A (.tuple [I (mostN P (lists ws)), I (vW P (lists ws))]) A := by
  refine acalls hmix Try.func25 (by kernel_rfl) t25 1 rfl (by decide) ?_
  dsimp only [m25]
  simp (maxSteps := 4000000) -implicitDefEqProofs -dsimp (disch := omega) only [↓AW_ops, ↓AW_seq, ↓AOps_nil, ↓AOps_pu, ↓AOps_call, on_some, ↓then_normal, pval, rd_S, rd_C, put_S, chkd, bgot, cells_agg, partA, eq_self, List.replicate_succ, List.replicate_zero, List.set_cons_zero, List.set_cons_succ, List.getElem?_cons_zero, List.getElem?_cons_succ, List.drop_zero, List.take_succ_cons, List.take_nil, Option.getD_some, map_c, map_n, List.length_cons, List.length_nil, Nat.reduceAdd, Nat.reduceSub, Nat.reduceLeDiff, Nat.reduceEqDiff, Nat.zero_add, List.cons_append, List.nil_append, if_true, if_false]
  refine CallK.of (s40 hw hs) ?_
  by_cases h0 : vW P (lists ws) = 0
  · have hv := val_of h0
    have hP := hv.hP
    have hls : ∀ l ∈ lists ws, ∀ p ∈ l, inP P p := fun l hl => (hv.l l hl).1
    have hpow : 2 ^ P.toNat ≤ 128 := by
      have : 2 ^ P.toNat ≤ 2 ^ 7 := Nat.pow_le_pow_right (by omega) (by omega)
      omega
    have hmm := mb_most (by omega) hls (-1)
    rw [drp_none, List.length_map] at hmm
    simp (maxSteps := 4000000) -implicitDefEqProofs -dsimp (disch := omega) only [↓AW_skip, ↓AW_ops, ↓AW_seq, ↓AW_cond, ↓AOps_nil, ↓AOps_pu, ↓AOps_call, on_some, extK_same, condB_f, ↓then_normal, pval, rd_S, rd_C, put_S, chkd, bgot, partA, eq_self, List.replicate_succ, List.replicate_zero, List.set_cons_zero, List.set_cons_succ, List.getElem?_cons_zero, List.getElem?_cons_succ, List.drop_zero, List.take_succ_cons, List.take_nil, Option.getD_some, map_c, map_n, List.length_cons, List.length_nil, Nat.reduceAdd, Nat.reduceSub, Nat.reduceLeDiff, Nat.reduceEqDiff, Nat.zero_add, List.cons_append, List.nil_append, bin_neq, if_true, if_false, decide_false, not_true_eq_false, Int.reduceNeg, h0]
    refine CallK.of (s58 hv hw (-1)) ?_
    simp (maxSteps := 4000000) -implicitDefEqProofs -dsimp (disch := omega) only [↓AOps_call, extK_app, rd_S, put_S, List.replicate_succ, List.replicate_zero, List.set_cons_zero, List.set_cons_succ, List.getElem?_cons_zero, List.getElem?_cons_succ, Option.getD_some, map_c, map_n, Nat.reduceSub, List.cons_append, List.nil_append, Int.reduceNeg]
    have hO := (OL.new_mk eb_len A (tb (2 ^ P.toNat) (cF (lists ws) (-1) ws.length)) false).ls
    rw [tb_len] at hO
    refine CallK.of (s57 hO (by omega)) ?_
    rw [hmm]
    simp (maxSteps := 4000000) -implicitDefEqProofs -dsimp (disch := omega) only [↓AW_ret, ↓AOps_nil, ↓AOps_pu, on_some, extK_same, ↓then_normal, ↓Fin_ret, pval, rd_S, rd_C, put_S, resV, resL, List.replicate_succ, List.replicate_zero, List.set_cons_zero, List.set_cons_succ, List.getElem?_cons_zero, List.getElem?_cons_succ, Option.getD_some, Nat.reduceSub, List.cons_append, List.nil_append, Int.reduceNeg]
    exact gc_val (pre_app A _) (by simp [mostN, h0, ren])
  · simp (maxSteps := 4000000) -implicitDefEqProofs -dsimp (disch := omega) only [↓AW_ops, ↓AW_seq, ↓AW_cond, ↓AW_ret, ↓AOps_nil, ↓AOps_pu, on_some, extK_same, condB_t, ↓then_normal, ↓then_ret, ↓Fin_ret, pval, rd_S, rd_C, put_S, resV, resL, List.replicate_succ, List.replicate_zero, List.set_cons_zero, List.set_cons_succ, List.getElem?_cons_zero, List.getElem?_cons_succ, Option.getD_some, Nat.reduceSub, List.cons_append, List.nil_append, bin_neq, decide_true, not_false_eq_true, h0]
    exact gc_same (by simp [mostN, h0])
end Go.Proofs.Ytlmbobbefgcolaa

namespace Go.Proofs.Ytlmbobbefgcolaa
open Go Go.Eng
end Go.Proofs.Ytlmbobbefgcolaa

namespace Go.Eng
open Go
section
variable {P : Program} {α : Type}
theorem AOps_ex : ∀ (l : List MOp) {Q : α → List AV → AHeap → Prop} {S : List AV} {H : AHeap}, AOps P l (fun S H => ∃ x, Q x S H) S H → ∃ x, AOps P l (Q x) S H := by
  intro l
  induction l with
  | nil => intro Q S H h; exact h
  | cons o r ih =>
    intro Q S H h
    simp only [AOps] at h ⊢
    split at h
    · exact h.elim
    · rename_i t _
      cases t with
      | true =>
        simp only [if_true] at h ⊢
        obtain ⟨v, H1, h1, h2, h3⟩ := h
        obtain ⟨x, hx⟩ := ih h3
        exact ⟨x, v, H1, h1, h2, hx⟩
      | false =>
        simp only [Bool.false_eq_true, if_false] at h ⊢
        exact ih h
/-- A loop with a rank. -/
def LoopR (P : Program) (a : MCode) (Q : Post) (k : Nat) (S : List AV) (H : AHeap) : Prop :=
  ∃ (J : Nat → List AV → AHeap → Prop), J k S H ∧ ∀ k S H, J k S H → AW P a (MX.then (fun S' H' => ∃ k' S'', k' < k ∧ Forget S' S'' ∧ J k' S'' H') Q) S H
/-- One round, and then loops of a smaller rank. -/
theorem LoopR_step {a : MCode} {Q : Post} {k : Nat} {S : List AV} {H : AHeap} (h : AW P a (MX.then (fun S' H' => ∃ k' S'', k' < k ∧ Forget S' S'' ∧ LoopR P a Q k' S'' H') Q) S H) : LoopR P a Q k S H := by
  refine ⟨fun j S1 H1 => (j = k ∧ S1 = S ∧ H1 = H) ∨ (j < k ∧ LoopR P a Q j S1 H1), .inl ⟨rfl, rfl, rfl⟩, ?_⟩
  rintro j S1 H1 (⟨rfl, rfl, rfl⟩ | ⟨hj, J, h1, h2⟩)
  · refine AW_mono (fun e S' H' h' => ?_) h
    cases e with
    | normal =>
      obtain ⟨k', S'', g1, g2, g3⟩ := h'
      exact ⟨k', S'', g1, g2, .inr ⟨g1, g3⟩⟩
    | exit id => exact h'
    | ret => exact h'
  · refine AW_mono (fun e S' H' h' => ?_) (h2 j S1 H1 h1)
    cases e with
    | normal =>
      obtain ⟨k', S'', g1, g2, g3⟩ := h'
      exact ⟨k', S'', g1, g2, .inr ⟨by omega, J, g3, h2⟩⟩
    | exit id => exact h'
    | ret => exact h'
theorem AW_ex : ∀ {m : MCode} {Q : α → Post} {S : List AV} {H : AHeap}, AW P m (fun e S H => ∃ x, Q x e S H) S H → ∃ x, AW P m (Q x) S H := by
  intro m
  induction m with
  | skip => intro Q S H h; exact h
  | ops l => intro Q S H h; exact AOps_ex l h
  | seq a b iha ihb =>
    intro Q S H h
    refine iha (Q := fun x => MX.then (AW P b (Q x)) (Q x)) (AW_mono (fun e S H h => ?_) h)
    cases e with
    | normal => exact ihb h
    | exit id => exact h
    | ret => exact h
  | cond c a b iha ihb =>
    intro Q S H h
    simp only [AW] at h ⊢
    split at h
    · split at h
      · rename_i ht
        obtain ⟨x, hx⟩ := iha h
        exact ⟨x, by rw [if_pos ht]; exact hx⟩
      · rename_i ht
        obtain ⟨x, hx⟩ := ihb h
        exact ⟨x, by rw [if_neg ht]; exact hx⟩
    · exact h.elim
  | block id a iha =>
    intro Q S H h
    refine iha (Q := fun x => MX.inBlock id (Q x)) (AW_mono (fun e S H h => ?_) h)
    cases e with
    | normal => exact h
    | exit id' =>
      simp only [MX.inBlock] at h ⊢
      split at h
      · rename_i hi
        obtain ⟨x, hx⟩ := h
        exact ⟨x, by rw [if_pos hi]; exact hx⟩
      · rename_i hi
        obtain ⟨x, hx⟩ := h
        exact ⟨x, by rw [if_neg hi]; exact hx⟩
    | ret => exact h
  | loop a iha =>
    intro Q S H h
    obtain ⟨J, ⟨k0, S0, hf, hJ⟩, hstep⟩ := h
    have key : ∀ k S H, J k S H → ∃ x, LoopR P a (Q x) k S H := by
      intro k
      induction k using Nat.strongRecOn with
      | _ k ih =>
        intro S H hj
        have h1 := hstep k S H hj
        have h2 : ∃ x, AW P a (MX.then (fun S' H' => ∃ k' S'', k' < k ∧ Forget S' S'' ∧ LoopR P a (Q x) k' S'' H') (Q x)) S H := by
          refine iha (Q := fun x => MX.then (fun S' H' => ∃ k' S'', k' < k ∧ Forget S' S'' ∧ LoopR P a (Q x) k' S'' H') (Q x)) (AW_mono (fun e S' H' h' => ?_) h1)
          cases e with
          | normal =>
            obtain ⟨k', S'', g1, g2, g3⟩ := h'
            obtain ⟨x, hx⟩ := ih k' g1 S'' H' g3
            exact ⟨x, k', S'', g1, g2, hx⟩
          | exit id => exact h'
          | ret => exact h'
        obtain ⟨x, hx⟩ := h2
        exact ⟨x, LoopR_step hx⟩
    obtain ⟨x, J', h1, h2⟩ := key k0 S0 H hJ
    exact ⟨x, J', ⟨k0, S0, hf, h1⟩, h2⟩
  | exit id => intro Q S H h; exact h
  | cut a iha =>
    intro Q S H h
    obtain ⟨S0, h0, h1⟩ := h
    obtain ⟨x, hx⟩ := iha h1
    exact ⟨x, S0, h0, hx⟩
  | ret => intro Q S H h; exact h
  | fail => intro Q S H h; exact h.elim
theorem AW_false : ∀ {m : MCode} {S : List AV} {H : AHeap}, ¬ AW P m (fun _ _ _ => False) S H := by
  intro m S H h
  have h2 : AW P m (fun e S H => ∃ x : Empty, (fun (_ : Empty) (_ : MX) (_ : List AV) (_ : AHeap) => True) x e S H) S H := AW_mono (fun _ _ _ h => h.elim) h
  obtain ⟨x, _⟩ := AW_ex h2
  exact x.elim
/-- The end of a function, where what it hands back need not be known ahead. -/
def FinR (res : List PAct) (H : AHeap) (R : AV → AHeap → Prop) : Post := fun e S H1 => ∃ x : AV × AHeap, Fin res H x.1 x.2 e S H1 ∧ R x.1 x.2
theorem FinR_ret (res : List PAct) (H : AHeap) (R : AV → AHeap → Prop) (S : List AV) (H1 : AHeap) : FinR res H R .ret S H1 = on (resV res S) (fun v1 => ∃ v H', GC H v1 H1 v H' ∧ R v H') ⟨⟩ := by
  apply propext
  unfold FinR
  simp only [Fin_ret]
  unfold on
  cases resV res S with
  | none => simp
  | some v1 =>
    constructor
    · rintro ⟨x, h1, h2⟩; exact ⟨_, _, h1, h2⟩
    · rintro ⟨v, H', h1, h2⟩; exact ⟨(v, H'), h1, h2⟩
/-- A function's contract, where the result is told by what it is like. -/
theorem acallsR (hm : P.follows .mixedOrders = true) {f : FuncId} {fn : Func} (hf : P.funcs[f]? = some fn) (hn : (fn.name == "runtime.NumGoroutine") = false) {bx cs : List Nat} {m : MFun} (ht : trF P bx cs fn = some m) {args : List AV} {H : AHeap} (R : AV → AHeap → Prop) (n : Nat)
    (hl : args.length = n) (hb : m.bx.all (fun d => decide (n ≤ d)) = true) (hA : AW P m.body (FinR m.res H R) (args ++ List.replicate (m.nt - n) .junk) H) : ∃ v H', ACalls P f args H v H' ∧ R v H' := by
  obtain ⟨x, hx⟩ := AW_ex (Q := fun (x : AV × AHeap) e S H1 => Fin m.res H x.1 x.2 e S H1 ∧ R x.1 x.2) hA
  have hR : R x.1 x.2 := by
    refine Classical.byContradiction (fun hn => ?_)
    have : AW P m.body (fun _ _ _ => False) (args ++ List.replicate (m.nt - n) .junk) H := AW_mono (fun _ _ _ h => hn h.2) hx
    exact AW_false this
  exact ⟨x.1, x.2, acalls hm hf hn ht n hl hb (AW_mono (fun _ _ _ h => h.1) hx), hR⟩
end
end Go.Eng

namespace Go.Eng
open Go
theorem AccL_base0 {α : Type} {es : Nat} {e : α → List AV} {A0 A H : AHeap} {v : AV} {xs : List α} (hp : A0 <+: A) (h : AccL es e A H v xs) : AccL es e A0 H v xs := by
  obtain ⟨h1, h2, h3⟩ := h
  refine ⟨hp.trans h1, h2, ?_⟩
  rcases h3 with h4 | ⟨h0, n, h4, h5, h6⟩
  · exact .inl h4
  · exact .inr ⟨h0, n, h4, Nat.le_trans hp.length_le h5, h6⟩
end Go.Eng

namespace Go.Proofs.Ytlmbobbefgcolaa
open Go Go.Eng
theorem Ls_cells0 {α : Type} {es : Nat} {e : α → List AV} {A : AHeap} {u : AV} {xs : List α} (h : Ls es e A u xs) : u.cells? = some [u] := by
  rcases h.inv with ⟨rfl, _⟩ | ⟨n, off, full, rw, l, rfl, _⟩ <;> rfl
def tr (b : List Bool) (k : Nat) : Prop := b[k]? = some true
theorem tr_set {b : List Bool} {k j : Nat} (hk : k < b.length) : tr (b.set k true) j ↔ j = k ∨ tr b j := by
  unfold tr
  by_cases h : j = k
  · subst h
    rw [List.getElem?_set_self hk]
    simp
  · rw [List.getElem?_set_ne (Ne.symm h)]
    simp [h]
theorem tr_mono {b : List Bool} {k j : Nat} (hk : k < b.length) (h : tr b j) : tr (b.set k true) j := (tr_set hk).2 (.inr h)
theorem count_set {b : List Bool} {k : Nat} (h : b[k]? = some false) : (b.set k true).count false + 1 = b.count false := by
  have hk := (List.getElem?_eq_some_iff.1 h).1
  have he := (List.getElem?_eq_some_iff.1 h).2
  rw [List.count_set hk]
  have : 0 < b.count false := List.count_pos_iff.2 (he ▸ List.getElem_mem hk)
  rw [he]
  simp
  omega
/-- What is always so while one goes. -/
structure Wk (P : Int) (ls : List (List Int)) (g : List Int) (b : List Bool) : Prop where
  len : b.length = ls.length
  un : ∀ i, i < ls.length → has g i < 0 → tr b i
  le : ∀ T, Stuck ls g T → (∀ i, i < ls.length → has g i < 0 → T i) → ∀ i, i < ls.length → tr b i → T i
/-- Nothing new comes from one place of an owner. -/
def clp (ls : List (List Int)) (g : List Int) (b : List Bool) (i : Nat) (p : Int) : Prop := tr b i → ∀ h, h < ls.length → has g h = p → tr b h
theorem Wk.set {P : Int} {ls : List (List Int)} (hls : ∀ l ∈ ls, ∀ p ∈ l, inP P p) {g : List Int} (hg : Good P ls g) {b : List Bool} (h : Wk P ls g b) {i k : Nat} {p : Int} (hi : i < ls.length) (hk : k < ls.length) (hp : p ∈ lst ls i) (ht : tr b i) (hh : has g k = p) : Wk P ls g (b.set k true) := by
  have hkb : k < b.length := by rw [h.len]; exact hk
  refine ⟨by simp [h.len], fun j hj hn => tr_mono hkb (h.un j hj hn), fun T hT hu j hj hjt => ?_⟩
  rcases (tr_set hkb).1 hjt with rfl | hjt
  · obtain ⟨m, m1, m2, m3⟩ := hT i hi (h.le T hT hu i hi ht) p hp
    have : m = j := hg.inj m j m1 hk (by rw [m3]; exact (lst_in hls hp).1) (by rw [m3, hh])
    rw [← this]; exact m2
  · exact h.le T hT hu j hj hjt
def un0 (g : List Int) (n i : Nat) : List Bool := (List.range n).map (fun k => decide (k < i) && decide (has g k < 0))
theorem un0_len (g : List Int) (n i : Nat) : (un0 g n i).length = n := by simp [un0]
theorem un0_0 (g : List Int) (n : Nat) : un0 g n 0 = List.replicate n false := by
  unfold un0
  rw [List.map_congr_left (g := fun _ => false) (fun k _ => by simp)]
  induction n with
  | zero => rfl
  | succ n ih => rw [List.range_succ, List.map_append, ih, List.replicate_succ']; rfl
theorem un0_set (g : List Int) {n i : Nat} (hi : i < n) : (un0 g n i).set i (decide (has g i < 0)) = un0 g n (i + 1) := by
  refine List.ext_getElem? (fun k => ?_)
  by_cases hk : k = i
  · subst hk
    rw [List.getElem?_set_self (by rw [un0_len]; exact hi)]
    unfold un0
    rw [List.getElem?_map, List.getElem?_range hi]
    simp
  · rw [List.getElem?_set_ne (Ne.symm hk)]
    unfold un0
    rw [List.getElem?_map, List.getElem?_map]
    by_cases hkn : k < n
    · rw [List.getElem?_range hkn]
      simp only [Option.map_some, Option.some.injEq]
      congr 1
      rw [decide_eq_decide]
      omega
    · rw [List.getElem?_eq_none (by simp; omega)]
      rfl
theorem un0_tr (g : List Int) {n k : Nat} : tr (un0 g n n) k ↔ k < n ∧ has g k < 0 := by
  unfold tr un0
  rw [List.getElem?_map]
  by_cases hk : k < n
  · rw [List.getElem?_range hk]
    simp [hk]
  · rw [List.getElem?_eq_none (by simp; omega)]
    simp [hk]
def onB (b : List Bool) (p : Int) : Bool := (b[p.toNat]?).getD false
theorem onB_tr {b : List Bool} {k : Nat} : onB b (k : Int) = true ↔ tr b k := by
  unfold onB tr
  rw [Int.toNat_natCast]
  cases b[k]? <;> simp
set_option maxRecDepth 100000 in
set_option maxHeartbeats 2000000 in
theorem s80 {P : Int} {ws : List (AV × List Int)} {v : AV} {A : AHeap} (hv : Val P (lists ws)) (hw : LL A v ws) :
    ∃ r H', ACalls Try.prog 80 [.agg [I P, v]] A r H' ∧ ∃ os, r = outV 1 A os.length ∧ H' = outH A (os.flatMap e1) os.length ∧ isS ws.length os ∧ Clo P (lists ws) (best P ws) (inS os) := by
  refine acallsR hmix Try.func80 (by kernel_rfl) t80 _ 1 rfl (by decide) ?_
  have hn : ws.length ≤ 7 := by simpa using hv.n
  have hlsl : (lists ws).length = ws.length := by simp
  have hls : ∀ l ∈ lists ws, ∀ p ∈ l, inP P p := fun l hl => (hv.l l hl).1
  have hgood := best_good hv
  have hgl := best_len hv
  dsimp only [m80]
  simp (maxSteps := 4000000) -implicitDefEqProofs -dsimp (disch := omega) only [↓AW_ops, ↓AW_seq, ↓AOps_nil, ↓AOps_pu, ↓AOps_call, on_some, ↓then_normal, pval, rd_S, rd_C, put_S, chkd, bgot, cells_agg, partA, eq_self, List.replicate_succ, List.replicate_zero, List.set_cons_zero, List.set_cons_succ, List.getElem?_cons_zero, List.getElem?_cons_succ, List.drop_zero, List.take_succ_cons, List.take_nil, Option.getD_some, map_c, map_n, List.length_cons, List.length_nil, Nat.reduceAdd, Nat.reduceSub, Nat.reduceLeDiff, Nat.reduceEqDiff, Nat.zero_add, List.cons_append, List.nil_append, if_true, if_false]
  refine CallK.of (s63 hw (by omega)) ?_
  simp (maxSteps := 4000000) -implicitDefEqProofs -dsimp (disch := omega) only [↓AOps_call, extK_app, rd_S, put_S, List.replicate_succ, List.replicate_zero, List.set_cons_zero, List.set_cons_succ, List.getElem?_cons_zero, List.getElem?_cons_succ, Option.getD_some, map_c, map_n, Nat.reduceSub, List.cons_append, List.nil_append]
  refine CallK.of (s62n hv hw) ?_
  have hG := L1_new (A ++ [AObj.cells true ((noG ws).flatMap Go.Eng.e1)]) (best P ws) ws.length hgl
  have p1 := (pre_app A [AObj.cells true ((noG ws).flatMap Go.Eng.e1)]).trans (pre_app _ [AObj.cells true ((best P ws).flatMap Go.Eng.e1)])
  generalize AV.sl 1 (A ++ [AObj.cells true ((noG ws).flatMap Go.Eng.e1)]).length 0 ws.length false = gv at *
  generalize A ++ [AObj.cells true ((noG ws).flatMap Go.Eng.e1)] ++ [AObj.cells true ((best P ws).flatMap Go.Eng.e1)] = C at *
  have hwC := hw.mono p1
  have hgc := L1_cells hG
  have hvc := Ls_cells0 hw.ls
  have hnl : (0 : Int) ≤ (ws.length : Int) := by omega
  have hnm : (ws.length : Int) ≤ (lim : Int) := by simp [lim]; omega
  have hglen : lenA gv = some (I (ws.length : Int)) := by rw [hG.len, hgl]
  simp (maxSteps := 4000000) -implicitDefEqProofs -dsimp (disch := omega) only [↓AW_ops, ↓AW_seq, ↓AW_block, ↓AOps_nil, ↓AOps_pu, ↓AOps_ha, on_some, extK_false, extK_app, ↓then_normal, pval, hval_mks, rd_S, rd_C, put_S, ↓AW_toLoop, chkd, isAdr, bput, bgot, cells_agg, splice, partA, beq_self_eq_true, eq_self, List.replicate_succ, List.replicate_zero, List.set_cons_zero, List.set_cons_succ, List.getElem?_cons_zero, List.getElem?_cons_succ, List.drop_zero, List.drop_succ_cons, List.drop_nil, List.take_zero, List.take_succ_cons, List.take_nil, Option.getD_some, List.length_cons, List.length_nil, Nat.reduceAdd, Nat.reduceSub, Nat.reduceLeDiff, Nat.zero_add, List.cons_append, List.nil_append, List.append_nil, if_true, if_false, Bool.false_eq_true, and_true, ne_eq, not_true_eq_false, hw.ls.len, hnl, hnm, Int.le_refl, Int.toNat_natCast, hglen]
  rw [repl_false]
  have hOL : ∀ b : List Bool, b.length = ws.length → OL 1 eb C (C ++ [.cells true (b.flatMap eb)]) C.length (.sl 1 C.length 0 ws.length true) b := fun b hb => by
    have := OL.new_mk eb_len C b true
    rwa [hb] at this
  generalize hvv : AV.sl 1 C.length 0 ws.length true = vv at *
  have hst : ∀ (b : List Bool) (k : Nat) (x : Bool), b.length = ws.length → k < ws.length → stA 1 (.ptr (nm vv) (of vv + k * 1)) (B x) (C ++ [.cells true (b.flatMap eb)]) = some (C ++ [.cells true ((b.set k x).flatMap eb)]) := fun b k x hb hk => by
    have := (hOL b hb).st (i := k) (by rw [hb]; exact hk) (B x) x rfl
    rwa [set_new] at this
  have hCB : ∀ b : List Bool, C <+: C ++ [.cells true (b.flatMap eb)] := fun b => pre_app _ _
  refine LoopK.by 89 (fun i : Nat => i ≤ ws.length) (fun i => [(1, .agg [I P, v]), (3, .agg [I P, v, gv]), (4, vv), (23, gv), (24, I ws.length), (25, I i)]) (fun i => C ++ [.cells true ((un0 (best P ws) ws.length i).flatMap eb)]) (fun i => ws.length - i) 0 (by omega) rfl (by simp [Has, rd_s]) (by rw [un0_0]) ?_
  intro i hi
  have hGb := hG.mono (hCB (un0 (best P ws) ws.length i))
  by_cases hlt : i < ws.length
  · have hlt' : (i : Int) < ws.length := by omega
    obtain ⟨z, hz⟩ : ∃ z, (best P ws)[i]? = some z := ⟨_, List.getElem?_eq_getElem (by omega)⟩
    have hil : i < (best P ws).length := by omega
    have hiu : i < (un0 (best P ws) ws.length i).length := by rw [un0_len]; exact hlt
    have hset := un0_set (best P ws) hlt
    rw [has_get hz] at hset
    have hs1 := hst _ i (decide (z < 0)) (un0_len (best P ws) ws.length i) hlt
    rw [hset] at hs1
    simp (maxSteps := 4000000) -implicitDefEqProofs -dsimp (disch := omega) only [↓AW_skip, ↓AW_ops, ↓AW_seq, ↓AW_cond, ↓AW_block, ↓AOps_nil, ↓AOps_pu, ↓AOps_ld, ↓AOps_ha, on_some, extK_false, condB_t, ↓then_normal, ↓inBlock_normal, pval, lval, hval_st, rd_S, rd_C, put_S, putS_none, partA, eq_self, mk, List.foldl_cons, List.foldl_nil, List.replicate_succ, List.replicate_zero, List.set_cons_zero, List.set_cons_succ, List.getElem?_cons_zero, List.getElem?_cons_succ, List.drop_zero, List.take_succ_cons, List.take_nil, Option.getD_some, Option.map_some, List.length_cons, List.length_nil, Nat.reduceAdd, Nat.reduceLeDiff, Nat.zero_add, bin_add, bin_lss, w64, if_true, if_false, Bool.false_eq_true, decide_true, Go.Eng.e1, true_and, hlt', hGb.idx hil, hGb.ld0 hz 1 false (by decide), (hOL _ (un0_len _ _ i)).ls.idx hiu, hs1]
    exact ⟨i + 1, hlt, by simp [Has, rd_s], rfl, by omega⟩
  · have hlt' : ¬ ((i : Int) < ws.length) := by omega
    have hie : i = ws.length := by omega
    subst hie
    simp (maxSteps := 4000000) -implicitDefEqProofs -dsimp (disch := omega) only [↓AW_ops, ↓AW_seq, ↓AW_cond, ↓AW_block, ↓AW_exit, ↓AOps_nil, ↓AOps_pu, on_some, condB_f, ↓then_normal, ↓then_exit, ↓inBlock_exit, pval, rd_S, rd_C, put_S, ↓AW_toLoop, eq_self, mk, List.foldl_cons, List.foldl_nil, List.replicate_succ, List.replicate_zero, List.set_cons_zero, List.set_cons_succ, List.getElem?_cons_zero, List.getElem?_cons_succ, Option.getD_some, bin_lss, if_true, decide_false, hlt']
    have hwk0 : Wk P (lists ws) (best P ws) (un0 (best P ws) ws.length ws.length) := ⟨by rw [un0_len, hlsl], fun i hi hn => (un0_tr _).2 ⟨by rw [← hlsl]; exact hi, hn⟩, fun T _ hu i hi ht => hu i hi ((un0_tr _).1 ht).2⟩
    refine LoopK.by 89 (fun x : Bool × List Bool => Wk P (lists ws) (best P ws) x.2 ∧ (x.1 = false → ∀ i, i < ws.length → ∀ p ∈ lst (lists ws) i, clp (lists ws) (best P ws) x.2 i p)) (fun x => [(1, .agg [I P, v]), (3, .agg [I P, v, gv]), (4, vv), (7, B x.1)]) (fun x => C ++ [.cells true (x.2.flatMap eb)]) (fun x => 2 * x.2.count false + if x.1 then 1 else 0) (true, un0 (best P ws) ws.length ws.length) ⟨hwk0, by simp⟩ rfl (by simp [Has, rd_s]) rfl ?_
    rintro ⟨ag, b0⟩ ⟨hwk, hcl⟩
    simp only at hwk hcl
    have hbl : b0.length = ws.length := by rw [hwk.len, hlsl]
    cases ag with
    | false =>
      have hcl := hcl rfl
      have hOb := (hOL b0 hbl).ls
      have hlen : lenA vv = some (I (ws.length : Int)) := by rw [hOb.len, hbl]
      simp (maxSteps := 4000000) -implicitDefEqProofs -dsimp (disch := omega) only [↓AW_ops, ↓AW_seq, ↓AW_cond, ↓AW_block, ↓AW_exit, ↓AOps_nil, ↓AOps_pu, on_some, condB_f, ↓then_normal, ↓then_exit, ↓inBlock_exit, pval, rd_S, rd_C, put_S, ↓AW_toLoop, eq_self, mk, List.foldl_cons, List.foldl_nil, List.replicate_succ, List.replicate_zero, List.set_cons_zero, List.set_cons_succ, List.getElem?_cons_zero, List.getElem?_cons_succ, Option.getD_some, if_true, hlen]
      refine LoopK.by 89 (fun x : Nat × AV × AHeap => x.1 ≤ ws.length ∧ AccL 1 e1 (C ++ [.cells true (b0.flatMap eb)]) x.2.2 x.2.1 ((nums x.1).filter (onB b0))) (fun x => [(4, vv), (13, x.2.1), (75, I ws.length), (76, I x.1)]) (fun x => x.2.2) (fun x => ws.length - x.1) (0, .nilS, C ++ [.cells true (b0.flatMap eb)]) ⟨by simp only; omega, AccL.nil (List.prefix_refl _)⟩ rfl (by simp [Has, rd_s]) rfl ?_
      rintro ⟨k, o, H⟩ ⟨hk, ho⟩
      simp only at hk ho
      by_cases hltk : k < ws.length
      · have hltk' : (k : Int) < ws.length := by omega
        have hkb : k < b0.length := by omega
        obtain ⟨x, hx⟩ : ∃ x, b0[k]? = some x := ⟨_, List.getElem?_eq_getElem hkb⟩
        have hO2 := hOb.mono ho.pre
        have hle := List.length_filter_le (onB b0) (nums k)
        have hnk : (nums k).length = k := by simp [nums]
        have hon : onB b0 (k : Int) = x := by unfold onB; rw [Int.toNat_natCast, hx]; rfl
        cases x with
        | true =>
          obtain ⟨v4, A4, happ, h4⟩ := ho.push e1_len (k : Int) (by simp [lim]; omega)
          simp only [Go.Eng.e1] at happ
          simp (maxSteps := 4000000) -implicitDefEqProofs -dsimp (disch := omega) only [↓AW_skip, ↓AW_ops, ↓AW_seq, ↓AW_cond, ↓AW_block, ↓AOps_nil, ↓AOps_pu, ↓AOps_ld, ↓AOps_ha, on_some, extK_false, extK_app, condB_t, ↓then_normal, ↓inBlock_normal, pval, lval, hval_blds, hval_app, rd_S, rd_C, put_S, cells_int, splice, partA, fillA, repl, eq_self, mk, List.foldl_cons, List.foldl_nil, List.replicate_succ, List.replicate_zero, List.set_cons_zero, List.set_cons_succ, List.getElem?_cons_zero, List.getElem?_cons_succ, List.drop_zero, List.drop_succ_cons, List.drop_nil, List.take_zero, List.take_succ_cons, List.take_nil, Option.getD_some, map_c, map_n, List.length_cons, List.length_nil, Nat.reduceAdd, Nat.reduceLeDiff, Nat.zero_add, List.nil_append, List.append_nil, bin_add, bin_lss, w64, if_true, if_false, Bool.false_eq_true, decide_true, true_and, and_true, hltk', hO2.idx hkb, hO2.ld0 hx 1 false (by decide), eb, happ]
          refine ⟨(k + 1, v4, A4), ⟨hltk, ?_⟩, by simp [Has, rd_s], rfl, by simp only; omega⟩
          simp only
          rw [nums_succ, List.filter_append]
          simp only [List.filter_cons, List.filter_nil, hon, if_true]
          exact h4
        | false =>
          simp (maxSteps := 4000000) -implicitDefEqProofs -dsimp (disch := omega) only [↓AW_skip, ↓AW_ops, ↓AW_seq, ↓AW_cond, ↓AW_block, ↓AOps_nil, ↓AOps_pu, ↓AOps_ld, on_some, condB_t, condB_f, ↓then_normal, ↓inBlock_normal, pval, lval, rd_S, rd_C, put_S, partA, eq_self, mk, List.foldl_cons, List.foldl_nil, List.replicate_succ, List.replicate_zero, List.set_cons_zero, List.set_cons_succ, List.getElem?_cons_zero, List.getElem?_cons_succ, List.drop_zero, List.take_succ_cons, List.take_nil, Option.getD_some, List.length_cons, List.length_nil, Nat.reduceAdd, Nat.reduceLeDiff, Nat.zero_add, bin_add, bin_lss, w64, if_true, if_false, Bool.false_eq_true, decide_true, true_and, hltk', hO2.idx hkb, hO2.ld0 hx 1 false (by decide), eb]
          refine ⟨(k + 1, o, H), ⟨hltk, ?_⟩, by simp [Has, rd_s], rfl, by simp only; omega⟩
          simp only
          rw [nums_succ, List.filter_append]
          simp only [List.filter_cons, List.filter_nil, hon, Bool.false_eq_true, if_false, List.append_nil]
          exact ho
      · have hltk' : ¬ ((k : Int) < ws.length) := by omega
        have hke : k = ws.length := by omega
        subst hke
        simp (maxSteps := 4000000) -implicitDefEqProofs -dsimp (disch := omega) only [↓AW_ops, ↓AW_seq, ↓AW_cond, ↓AW_exit, ↓AW_ret, ↓AOps_nil, ↓AOps_pu, on_some, condB_f, ↓then_normal, ↓then_exit, ↓inBlock_exit, ↓FinR_ret, pval, rd_S, put_S, resV, resL, eq_self, mk, List.foldl_cons, List.foldl_nil, List.replicate_succ, List.replicate_zero, List.set_cons_zero, List.set_cons_succ, List.getElem?_cons_zero, List.getElem?_cons_succ, Option.getD_some, bin_lss, if_true, decide_false, hltk']
        have hin : ∀ j : Nat, j < ws.length → (inS ((nums ws.length).filter (onB b0)) j ↔ tr b0 j) := fun j hj => by
          unfold inS
          rw [List.mem_filter, onB_tr, mem_nums]
          exact ⟨fun h => h.2, fun h => ⟨⟨by omega, by omega⟩, h⟩⟩
        refine ⟨_, _, (AccL_base0 (p1.trans (hCB b0)) ho).gc flat_e1, _, rfl, rfl, filter_isS _ _, ⟨fun j hj hn => ?_, fun T hT hu j hj hjt => ?_, fun j hj hjt p hp h hh hhp => ?_⟩⟩
        · rw [hlsl] at hj
          exact (hin j hj).2 (hwk.un j (by rw [hlsl]; exact hj) hn)
        · rw [hlsl] at hj
          exact hwk.le T hT hu j (by rw [hlsl]; exact hj) ((hin j hj).1 hjt)
        · rw [hlsl] at hj hh
          exact (hin h hh).2 (hcl j hj p hp ((hin j hj).1 hjt) h (by rw [hlsl]; exact hh) hhp)
    | true =>
      simp (maxSteps := 4000000) -implicitDefEqProofs -dsimp (disch := omega) only [↓AW_skip, ↓AW_ops, ↓AW_seq, ↓AW_cond, ↓AW_block, ↓AOps_nil, ↓AOps_pu, on_some, condB_t, ↓then_normal, pval, rd_S, rd_C, put_S, ↓AW_toLoop, chkd, isAdr, bgot, cells_agg, partA, eq_self, mk, List.foldl_cons, List.foldl_nil, List.replicate_succ, List.replicate_zero, List.set_cons_zero, List.set_cons_succ, List.getElem?_cons_zero, List.getElem?_cons_succ, List.drop_zero, List.drop_succ_cons, List.take_succ_cons, List.take_nil, Option.getD_some, List.length_cons, List.length_nil, Nat.reduceAdd, Nat.reduceLeDiff, Nat.zero_add, if_true, if_false, Bool.false_eq_true, hw.ls.len]
      refine LoopK.by 89 (fun x : Nat × Bool × List Bool => x.1 ≤ ws.length ∧ Wk P (lists ws) (best P ws) x.2.2 ∧ (x.2.1 = false → ∀ i, i < x.1 → ∀ p ∈ lst (lists ws) i, clp (lists ws) (best P ws) x.2.2 i p) ∧ x.2.2.count false + (if x.2.1 then 1 else 0) ≤ b0.count false) (fun x => [(1, .agg [I P, v]), (3, .agg [I P, v, gv]), (4, vv), (7, B x.2.1), (38, v), (39, I ws.length), (40, I x.1)]) (fun x => C ++ [.cells true (x.2.2.flatMap eb)]) (fun x => ws.length - x.1) (0, false, b0) ⟨by simp only; omega, hwk, fun _ i hi => by omega, by simp⟩ rfl (by simp [Has, rd_s]) rfl ?_
      rintro ⟨i, ag, b1⟩ ⟨hi, hwk1, hcl1, hct⟩
      simp only at hi hwk1 hcl1 hct
      by_cases hlti : i < ws.length
      · have hlti' : (i : Int) < ws.length := by omega
        obtain ⟨x, hx⟩ : ∃ x, ws[i]? = some x := ⟨_, List.getElem?_eq_getElem hlti⟩
        have hxl := lst_at hx
        have hxm := List.mem_of_getElem? hx
        have hwB := hwC.mono (hCB b1)
        have hxi := hwC.inn x hxm
        have hx2 : x.2.length ≤ 7 := by
          have h1 := hv.len (l := x.2) (List.mem_map.2 ⟨x, hxm, rfl⟩)
          have := hv.hP
          omega
        simp (maxSteps := 4000000) -implicitDefEqProofs -dsimp (disch := omega) only [↓AW_skip, ↓AW_ops, ↓AW_seq, ↓AW_cond, ↓AW_block, ↓AOps_nil, ↓AOps_pu, ↓AOps_ld, on_some, condB_t, ↓then_normal, pval, lval, rd_S, rd_C, put_S, ↓AW_toLoop, partA, eq_self, mk, List.foldl_cons, List.foldl_nil, List.replicate_succ, List.replicate_zero, List.set_cons_zero, List.set_cons_succ, List.getElem?_cons_zero, List.getElem?_cons_succ, List.drop_zero, List.take_succ_cons, List.take_nil, Option.getD_some, List.length_cons, List.length_nil, Nat.reduceLeDiff, Nat.zero_add, bin_lss, if_true, if_false, Bool.false_eq_true, decide_true, hlti', hwB.ls.idx hlti, hwB.ls.ld0 hx 1 false (by decide), e0, hxi.len]
        refine LoopK.by 89 (fun y : Nat × Bool × List Bool => y.1 ≤ x.2.length ∧ Wk P (lists ws) (best P ws) y.2.2 ∧ (y.2.1 = false → (∀ i', i' < i → ∀ p ∈ lst (lists ws) i', clp (lists ws) (best P ws) y.2.2 i' p) ∧ ∀ p ∈ x.2.take y.1, clp (lists ws) (best P ws) y.2.2 i p) ∧ y.2.2.count false + (if y.2.1 then 1 else 0) ≤ b0.count false) (fun y => [(1, .agg [I P, v]), (3, .agg [I P, v, gv]), (4, vv), (7, B y.2.1), (8, I i), (38, v), (39, I ws.length), (40, I i), (45, x.1), (46, I x.2.length), (47, I y.1)]) (fun y => C ++ [.cells true (y.2.2.flatMap eb)]) (fun y => x.2.length - y.1) (0, ag, b1) ⟨by simp only; omega, hwk1, fun h => ⟨hcl1 h, by simp⟩, hct⟩ rfl (by simp [Has, rd_s]) rfl ?_
        rintro ⟨j, ag2, b2⟩ ⟨hj, hwk2, hcl2, hct2⟩
        simp only at hj hwk2 hcl2 hct2
        have hb2l : b2.length = ws.length := by rw [hwk2.len, hlsl]
        have hO2 := (hOL b2 hb2l).ls
        have hxB := hxi.mono (hCB b2)
        have hGB := hG.mono (hCB b2)
        by_cases hltj : j < x.2.length
        · have hltj' : (j : Int) < x.2.length := by omega
          obtain ⟨p, hp⟩ : ∃ p, x.2[j]? = some p := ⟨_, List.getElem?_eq_getElem hltj⟩
          have hpl : p ∈ lst (lists ws) i := by rw [hxl]; exact List.mem_of_getElem? hp
          have hpin := lst_in hls hpl
          have hib : i < b2.length := by omega
          obtain ⟨bi, hbi⟩ : ∃ bi, b2[i]? = some bi := ⟨_, List.getElem?_eq_getElem hib⟩
          have h89 := s89 (P := P) (v := v) hGB (by omega) p
          have keep : (clp (lists ws) (best P ws) b2 i p) → ∃ y : Nat × Bool × List Bool, (y.1 ≤ x.2.length ∧ Wk P (lists ws) (best P ws) y.2.2 ∧ (y.2.1 = false → (∀ i', i' < i → ∀ p ∈ lst (lists ws) i', clp (lists ws) (best P ws) y.2.2 i' p) ∧ ∀ p ∈ x.2.take y.1, clp (lists ws) (best P ws) y.2.2 i p) ∧ y.2.2.count false + (if y.2.1 then 1 else 0) ≤ b0.count false) ∧ y = (j + 1, ag2, b2) := fun hc => by
            refine ⟨(j + 1, ag2, b2), ⟨hltj, hwk2, fun h => ⟨(hcl2 h).1, fun q hq => ?_⟩, hct2⟩, rfl⟩
            simp only at hq
            rw [List.take_add_one, hp] at hq
            rcases List.mem_append.1 hq with hq | hq
            · exact (hcl2 h).2 q hq
            · have : q = p := by simpa using hq
              rw [this]; exact hc
          simp (maxSteps := 4000000) -implicitDefEqProofs -dsimp (disch := omega) only [↓AW_skip, ↓AW_ops, ↓AW_seq, ↓AW_cond, ↓AW_block, ↓AOps_nil, ↓AOps_pu, ↓AOps_ld, ↓AOps_call, on_some, condB_t, ↓then_normal, pval, lval, rd_S, put_S, chkd, bgot, partA, eq_self, mk, List.foldl_cons, List.foldl_nil, List.replicate_succ, List.replicate_zero, List.set_cons_zero, List.set_cons_succ, List.getElem?_cons_zero, List.getElem?_cons_succ, List.drop_zero, List.take_succ_cons, List.take_nil, Option.getD_some, map_c, map_n, List.length_cons, List.length_nil, Nat.reduceAdd, Nat.reduceLeDiff, Nat.reduceEqDiff, Nat.zero_add, bin_lss, if_true, if_false, Bool.false_eq_true, decide_true, Go.Eng.e1, hltj', hxB.idx hltj, hxB.ld0 hp 1 false (by decide)]
          cases bi with
          | false =>
            obtain ⟨y, hy, hye⟩ := keep (fun ht => by unfold tr at ht; rw [hbi] at ht; cases ht)
            refine CallK.of h89 ?_
            simp (maxSteps := 4000000) -implicitDefEqProofs -dsimp (disch := omega) only [↓AW_skip, ↓AW_ops, ↓AW_seq, ↓AW_cond, ↓AOps_nil, ↓AOps_pu, ↓AOps_ld, ↓AOps_guard, on_some, extK_same, guardB_ft, skipS_some, condB_f, ↓then_normal, ↓inBlock_normal, pval, lval, rd_S, rd_C, put_S, partA, eq_self, mk, List.foldl_cons, List.foldl_nil, List.replicate_succ, List.replicate_zero, List.set_cons_zero, List.set_cons_succ, List.getElem?_cons_zero, List.getElem?_cons_succ, List.drop_zero, List.take_succ_cons, List.take_nil, Option.getD_some, List.length_cons, List.length_nil, Nat.reduceAdd, Nat.reduceLeDiff, Nat.zero_add, bin_add, w64, if_true, if_false, Bool.false_eq_true, true_and, hO2.idx hib, hO2.ld0 hbi 1 false (by decide), eb]
            exact ⟨y, hy, by simp [Has, rd_s, hye], by rw [hye], by rw [hye]; simp only; omega⟩
          | true =>
            have htb : tr b2 i := hbi
            by_cases hneg : fpos (fun y => decide (p = y)) (best P ws) < 0
            · have hnm2 := fpos_neg hneg
              obtain ⟨y, hy, hye⟩ := keep (fun _ h hh hhp => by
                have := has_mem (g := best P ws) (k := h) (by rw [hgl, ← hlsl]; exact hh)
                rw [hhp] at this
                exact absurd this hnm2)
              have hneg' : ¬ (0 : Int) ≤ fpos (fun y => decide (p = y)) (best P ws) := by omega
              refine CallK.of h89 ?_
              simp (maxSteps := 4000000) -implicitDefEqProofs -dsimp (disch := omega) only [↓AW_skip, ↓AW_ops, ↓AW_seq, ↓AW_cond, ↓AOps_nil, ↓AOps_pu, ↓AOps_ld, ↓AOps_guard, on_some, extK_same, guardB_tt, guardB_ft, skipS_some, condB_f, ↓then_normal, ↓inBlock_normal, pval, lval, rd_S, rd_C, put_S, partA, eq_self, mk, List.foldl_cons, List.foldl_nil, List.replicate_succ, List.replicate_zero, List.set_cons_zero, List.set_cons_succ, List.getElem?_cons_zero, List.getElem?_cons_succ, List.drop_zero, List.take_succ_cons, List.take_nil, Option.getD_some, List.length_cons, List.length_nil, Nat.reduceAdd, Nat.reduceLeDiff, Nat.zero_add, bin_add, bin_geq, w64, if_true, if_false, Bool.false_eq_true, decide_false, true_and, hO2.idx hib, hO2.ld0 hbi 1 false (by decide), eb, hneg']
              exact ⟨y, hy, by simp [Has, rd_s, hye], by rw [hye], by rw [hye]; simp only; omega⟩
            · obtain ⟨k, hk1, hk2, hk3⟩ := fpos_get hneg
              rw [hk2] at h89
              rw [hgl] at hk1
              have hkb : k < b2.length := by omega
              have hk0 : (0 : Int) ≤ (k : Int) := by omega
              obtain ⟨bk, hbk⟩ : ∃ bk, b2[k]? = some bk := ⟨_, List.getElem?_eq_getElem hkb⟩
              have huniq : ∀ h, h < (lists ws).length → has (best P ws) h = p → h = k := fun h hh hhp => hgood.inj h k hh (by rw [hlsl]; exact hk1) (by rw [hhp]; exact hpin.1) (by rw [hhp, hk3])
              cases bk with
              | true =>
                obtain ⟨y, hy, hye⟩ := keep (fun _ h hh hhp => by rw [huniq h hh hhp]; exact hbk)
                refine CallK.of h89 ?_
                simp (maxSteps := 4000000) -implicitDefEqProofs -dsimp (disch := omega) only [↓AW_skip, ↓AW_ops, ↓AW_seq, ↓AW_cond, ↓AOps_nil, ↓AOps_pu, ↓AOps_ld, ↓AOps_guard, on_some, extK_same, guardB_tt, condB_f, ↓then_normal, ↓inBlock_normal, pval, lval, rd_S, rd_C, put_S, partA, eq_self, mk, List.foldl_cons, List.foldl_nil, List.replicate_succ, List.replicate_zero, List.set_cons_zero, List.set_cons_succ, List.getElem?_cons_zero, List.getElem?_cons_succ, List.drop_zero, List.take_succ_cons, List.take_nil, Option.getD_some, List.length_cons, List.length_nil, Nat.reduceAdd, Nat.reduceLeDiff, Nat.zero_add, bin_add, bin_geq, w64, if_true, if_false, Bool.false_eq_true, Bool.not_true, decide_true, true_and, hO2.idx hib, hO2.ld0 hbi 1 false (by decide), eb, hk0, hO2.idx hkb, hO2.ld0 hbk 1 false (by decide)]
                exact ⟨y, hy, by simp [Has, rd_s, hye], by rw [hye], by rw [hye]; simp only; omega⟩
              | false =>
                have hs2 := hst b2 k true hb2l hk1
                have hcs := count_set hbk
                refine CallK.of h89 ?_
                simp (maxSteps := 4000000) -implicitDefEqProofs -dsimp (disch := omega) only [↓AW_ops, ↓AW_seq, ↓AW_cond, ↓AOps_nil, ↓AOps_pu, ↓AOps_ld, ↓AOps_ha, ↓AOps_guard, on_some, extK_false, extK_same, guardB_tt, condB_t, ↓then_normal, ↓inBlock_normal, pval, lval, hval_st, rd_S, rd_C, put_S, putS_none, partA, eq_self, mk, List.foldl_cons, List.foldl_nil, List.replicate_succ, List.replicate_zero, List.set_cons_zero, List.set_cons_succ, List.getElem?_cons_zero, List.getElem?_cons_succ, List.drop_zero, List.take_succ_cons, List.take_nil, Option.getD_some, Option.map_some, List.length_cons, List.length_nil, Nat.reduceAdd, Nat.reduceLeDiff, Nat.zero_add, bin_add, bin_geq, w64, if_true, if_false, Bool.false_eq_true, Bool.not_false, decide_true, true_and, hO2.idx hib, hO2.ld0 hbi 1 false (by decide), eb, hk0, hO2.idx hkb, hO2.ld0 hbk 1 false (by decide), hs2]
                refine ⟨(j + 1, true, b2.set k true), ⟨hltj, hwk2.set hls hgood (by rw [hlsl]; exact hlti) (by rw [hlsl]; exact hk1) hpl htb hk3, by simp, ?_⟩, by simp [Has, rd_s], rfl, by simp only; omega⟩
                simp only
                split at hct2 <;> simp <;> omega
        · have hltj' : ¬ ((j : Int) < x.2.length) := by omega
          rw [List.take_of_length_le (by omega)] at hcl2
          simp (maxSteps := 4000000) -implicitDefEqProofs -dsimp (disch := omega) only [↓AW_ops, ↓AW_seq, ↓AW_cond, ↓AW_exit, ↓AOps_nil, ↓AOps_pu, on_some, condB_f, ↓then_normal, ↓then_exit, ↓inBlock_normal, ↓inBlock_exit, pval, rd_S, rd_C, put_S, eq_self, mk, List.foldl_cons, List.foldl_nil, List.replicate_succ, List.replicate_zero, List.set_cons_zero, List.set_cons_succ, List.getElem?_cons_zero, List.getElem?_cons_succ, Option.getD_some, List.length_cons, List.length_nil, Nat.reduceAdd, Nat.reduceEqDiff, Nat.zero_add, bin_add, bin_lss, w64, if_true, if_false, decide_false, true_and, hltj']
          refine ⟨(i + 1, ag2, b2), ⟨hlti, hwk2, fun h i' hi' p hp => ?_, hct2⟩, by simp [Has, rd_s], rfl, by simp only; omega⟩
          by_cases hie : i' = i
          · subst hie
            rw [hxl] at hp
            exact (hcl2 h).2 p hp
          · exact (hcl2 h).1 i' (by omega) p hp
      · have hlti' : ¬ ((i : Int) < ws.length) := by omega
        simp (maxSteps := 4000000) -implicitDefEqProofs -dsimp (disch := omega) only [↓AW_ops, ↓AW_seq, ↓AW_cond, ↓AW_exit, ↓AOps_nil, ↓AOps_pu, on_some, condB_f, ↓then_normal, ↓then_exit, ↓inBlock_normal, ↓inBlock_exit, pval, rd_S, rd_C, put_S, eq_self, mk, List.foldl_cons, List.foldl_nil, List.replicate_succ, List.replicate_zero, List.set_cons_zero, List.set_cons_succ, List.getElem?_cons_zero, List.getElem?_cons_succ, Option.getD_some, List.length_cons, List.length_nil, Nat.reduceAdd, Nat.reduceEqDiff, Nat.zero_add, bin_lss, if_true, if_false, decide_false, true_and, hlti']
        refine ⟨(ag, b1), ⟨hwk1, fun h i' hi' => hcl1 h i' (by omega)⟩, by simp [Has, rd_s], rfl, ?_⟩
        simp only
        cases ag <;> simp at hct ⊢ <;> omega
end Go.Proofs.Ytlmbobbefgcolaa

namespace Go.Proofs.Ytlmbobbefgcolaa
open Go Go.Eng
/-- A smallest cover. -/
theorem s51 {P : Int} {ws : List (AV × List Int)} {v : AV} {A : AHeap} (hw : LL A v ws) (hs : Sz ws) :
    ∃ r H', ACalls Try.prog 51 [.agg [I P, v]] A r H' ∧ ∃ y z os ps, r = .tuple [y, z, I (vW P (lists ws))] ∧ A <+: H' ∧ L1 H' y os ∧ L1 H' z ps ∧ (vW P (lists ws) ≠ 0 → os = [] ∧ ps = []) ∧ (vW P (lists ws) = 0 → cvE P (lists ws) os ps = 0 ∧ os.length + ps.length = most P (lists ws)) ∧ os.length ≤ 40 ∧ ps.length ≤ 40 := by
  refine acallsR hmix Try.func51 (by kernel_rfl) t51 _ 1 rfl (by decide) ?_
  dsimp only [m51]
  simp (maxSteps := 4000000) -implicitDefEqProofs -dsimp (disch := omega) only [↓AW_ops, ↓AW_seq, ↓AOps_nil, ↓AOps_pu, ↓AOps_call, on_some, ↓then_normal, pval, rd_S, rd_C, put_S, chkd, bgot, cells_agg, partA, eq_self, List.replicate_succ, List.replicate_zero, List.set_cons_zero, List.set_cons_succ, List.getElem?_cons_zero, List.getElem?_cons_succ, List.drop_zero, List.take_succ_cons, List.take_nil, Option.getD_some, map_c, map_n, List.length_cons, List.length_nil, Nat.reduceAdd, Nat.reduceSub, Nat.reduceLeDiff, Nat.reduceEqDiff, Nat.zero_add, List.cons_append, List.nil_append, if_true, if_false]
  refine CallK.of (s39 hw hs) ?_
  by_cases h0 : vW P (lists ws) = 0
  · have hv := val_of h0
    have hP := hv.hP
    have hn : ws.length ≤ 7 := by simpa using hv.n
    have hlsl : (lists ws).length = ws.length := by simp
    have hls : ∀ l ∈ lists ws, ∀ p ∈ l, inP P p := fun l hl => (hv.l l hl).1
    obtain ⟨r, H', hcall, ss, rfl, rfl, h1, h2⟩ := s80 hv hw
    have hsl : ss.length ≤ 7 := by
      have := nodup_len (up_nodup h1.2) (m := nums ws.length) (fun x hx => mem_nums.2 (h1.1 x hx))
      simp [nums] at this
      omega
    simp (maxSteps := 4000000) -implicitDefEqProofs -dsimp (disch := omega) only [↓AW_skip, ↓AW_ops, ↓AW_seq, ↓AW_cond, ↓AOps_nil, ↓AOps_pu, ↓AOps_call, on_some, extK_same, condB_f, ↓then_normal, pval, rd_S, rd_C, put_S, chkd, bgot, partA, eq_self, List.replicate_succ, List.replicate_zero, List.set_cons_zero, List.set_cons_succ, List.getElem?_cons_zero, List.getElem?_cons_succ, List.drop_zero, List.take_succ_cons, List.take_nil, Option.getD_some, map_c, map_n, List.length_cons, List.length_nil, Nat.reduceAdd, Nat.reduceSub, Nat.reduceLeDiff, Nat.reduceEqDiff, Nat.zero_add, List.cons_append, List.nil_append, bin_neq, if_true, if_false, decide_false, not_true_eq_false, h0]
    refine CallK.of hcall ?_
    have p1 := pre_out A (ss.flatMap Go.Eng.e1) ss.length
    have hL := Ls_out A e1_len ss
    generalize outV 1 A ss.length = y1 at *
    generalize outH A (ss.flatMap Go.Eng.e1) ss.length = A1 at *
    have hw1 := hw.mono p1
    simp (maxSteps := 4000000) -implicitDefEqProofs -dsimp (disch := omega) only [↓AW_ops, ↓AW_seq, ↓AW_block, ↓AOps_nil, ↓AOps_pu, on_some, extK_false, ↓then_normal, pval, rd_S, rd_C, put_S, ↓AW_toLoop, chkd, isAdr, bgot, cells_agg, partA, eq_self, List.replicate_succ, List.replicate_zero, List.set_cons_zero, List.set_cons_succ, List.getElem?_cons_zero, List.getElem?_cons_succ, List.drop_zero, List.drop_succ_cons, List.take_succ_cons, List.take_nil, Option.getD_some, List.length_cons, List.length_nil, Nat.reduceAdd, Nat.reduceSub, Nat.reduceLeDiff, Nat.zero_add, List.cons_append, List.nil_append, if_true, if_false, Bool.false_eq_true, hw.ls.len]
    refine LoopK.by 35 (fun x : Nat × AV × AHeap => x.1 ≤ ws.length ∧ AccL 1 e1 A1 x.2.2 x.2.1 ((nums x.1).filter (fun i => !decide (i ∈ ss)))) (fun x => [(1, .agg [I P, v]), (6, y1), (7, x.2.1), (18, I ws.length), (19, I x.1)]) (fun x => x.2.2) (fun x => ws.length - x.1) (0, .nilS, A1) ⟨by simp only; omega, AccL.nil (List.prefix_refl _)⟩ rfl (by simp [Has, rd_s]) rfl ?_
    rintro ⟨k, o, H⟩ ⟨hk, ho⟩
    simp only at hk ho
    have hL2 := hL.mono ho.pre
    by_cases hltk : k < ws.length
    · have hltk' : (k : Int) < ws.length := by omega
      have hle := List.length_filter_le (fun i => !decide (i ∈ ss)) (nums k)
      have hnk : (nums k).length = k := by simp [nums]
      simp (maxSteps := 4000000) -implicitDefEqProofs -dsimp (disch := omega) only [↓AW_skip, ↓AW_ops, ↓AW_seq, ↓AW_cond, ↓AW_block, ↓AOps_nil, ↓AOps_pu, ↓AOps_call, on_some, condB_t, ↓then_normal, pval, rd_S, put_S, mk, List.foldl_cons, List.foldl_nil, List.replicate_succ, List.replicate_zero, List.set_cons_zero, List.set_cons_succ, List.getElem?_cons_zero, List.getElem?_cons_succ, Option.getD_some, map_c, map_n, bin_lss, decide_true, hltk']
      refine CallK.of (c_Contains hL2 (by omega) (k : Int)) ?_
      by_cases hm : (k : Int) ∈ ss
      · simp (maxSteps := 4000000) -implicitDefEqProofs -dsimp (disch := omega) only [↓AW_skip, ↓AW_ops, ↓AW_cond, ↓AOps_nil, ↓AOps_pu, on_some, extK_same, condB_f, ↓then_normal, ↓inBlock_normal, pval, rd_S, rd_C, put_S, eq_self, mk, List.foldl_cons, List.foldl_nil, List.replicate_succ, List.replicate_zero, List.set_cons_zero, List.set_cons_succ, List.getElem?_cons_zero, List.getElem?_cons_succ, Option.getD_some, List.length_cons, List.length_nil, Nat.reduceAdd, Nat.zero_add, bin_add, w64, Bool.not_true, decide_true, true_and, hm]
        refine ⟨(k + 1, o, H), ⟨hltk, ?_⟩, by simp [Has, rd_s], rfl, by simp only; omega⟩
        simp only
        rw [nums_succ, List.filter_append]
        simp only [List.filter_cons, List.filter_nil, hm, decide_true, Bool.not_true, Bool.false_eq_true, if_false, List.append_nil]
        exact ho
      · obtain ⟨v4, A4, happ, h4⟩ := ho.push e1_len (k : Int) (by simp [lim]; omega)
        simp only [Go.Eng.e1] at happ
        simp (maxSteps := 4000000) -implicitDefEqProofs -dsimp (disch := omega) only [↓AW_ops, ↓AW_cond, ↓AOps_nil, ↓AOps_pu, ↓AOps_ha, on_some, extK_false, extK_app, extK_same, condB_t, ↓then_normal, ↓inBlock_normal, pval, hval_blds, hval_app, rd_S, rd_C, put_S, cells_int, splice, fillA, repl, eq_self, mk, List.foldl_cons, List.foldl_nil, List.replicate_succ, List.replicate_zero, List.set_cons_zero, List.set_cons_succ, List.getElem?_cons_zero, List.getElem?_cons_succ, List.drop_succ_cons, List.drop_nil, List.take_zero, Option.getD_some, map_c, map_n, List.length_cons, List.length_nil, Nat.reduceAdd, Nat.reduceLeDiff, Nat.zero_add, List.nil_append, List.append_nil, bin_add, w64, if_true, Bool.not_false, decide_false, true_and, and_true, hm, happ]
        refine ⟨(k + 1, v4, A4), ⟨hltk, ?_⟩, by simp [Has, rd_s], rfl, by simp only; omega⟩
        simp only
        rw [nums_succ, List.filter_append]
        simp only [List.filter_cons, List.filter_nil, hm, decide_false, Bool.not_false, if_true]
        exact h4
    · have hltk' : ¬ ((k : Int) < ws.length) := by omega
      have hke : k = ws.length := by omega
      subst hke
      have hwH := hw1.mono ho.pre
      have hoL := AccL_ls ho e1_len
      simp (maxSteps := 4000000) -implicitDefEqProofs -dsimp (disch := omega) only [↓AW_ops, ↓AW_seq, ↓AW_cond, ↓AW_exit, ↓AOps_nil, ↓AOps_pu, ↓AOps_call, on_some, condB_f, ↓then_normal, ↓then_exit, ↓inBlock_exit, pval, rd_S, put_S, chkd, bgot, partA, eq_self, mk, List.foldl_cons, List.foldl_nil, List.replicate_succ, List.replicate_zero, List.set_cons_zero, List.set_cons_succ, List.getElem?_cons_zero, List.getElem?_cons_succ, List.drop_zero, List.take_succ_cons, List.take_nil, Option.getD_some, map_c, map_n, List.length_cons, List.length_nil, Nat.reduceAdd, Nat.reduceLeDiff, Nat.reduceEqDiff, Nat.zero_add, bin_lss, if_true, if_false, decide_false, ne_eq, hltk']
      refine CallK.of (s75 hwH hs hL2 (by omega) h1.1 (by omega)) ?_
      have p3 := pre_out H ((wsh (lists ws) ss P.toNat).flatMap Go.Eng.e1) (wsh (lists ws) ss P.toNat).length
      have hL3 := Ls_out H e1_len (wsh (lists ws) ss P.toNat)
      generalize outV 1 H (wsh (lists ws) ss P.toNat).length = y3 at *
      generalize outH H ((wsh (lists ws) ss P.toNat).flatMap Go.Eng.e1) (wsh (lists ws) ss P.toNat).length = A3 at *
      simp (maxSteps := 4000000) -implicitDefEqProofs -dsimp (disch := omega) only [↓AW_ret, ↓AOps_nil, ↓AOps_pu, on_some, extK_false, ↓then_normal, ↓FinR_ret, pval, rd_S, rd_C, put_S, resV, resL, mk, List.foldl_cons, List.foldl_nil, List.replicate_succ, List.replicate_zero, List.set_cons_zero, List.set_cons_succ, List.getElem?_cons_zero, List.getElem?_cons_succ, Option.getD_some, ne_eq]
      have hle := List.length_filter_le (fun i => !decide (i ∈ ss)) (nums ws.length)
      have hnk : (nums ws.length).length = ws.length := by simp [nums]
      have hwl := wsh_le (lists ws) ss P.toNat
      have hlack := clo_lack hls (good_noG hv) (by rw [hlsl]; exact h1) h2
      have hbm := best_most P ws
      have hsp := filter_split (fun i => decide (i ∈ ss)) (nums ws.length)
      have hin : ((nums ws.length).filter (fun i => decide (i ∈ ss))).length = ss.length := by
        have a1 := nodup_len (up_nodup h1.2) (m := (nums ws.length).filter (fun p => decide (p ∈ ss))) (fun x hx => List.mem_filter.2 ⟨mem_nums.2 (h1.1 x hx), by simpa using hx⟩)
        have a2 := nodup_len (l := (nums ws.length).filter (fun p => decide (p ∈ ss))) (m := ss) ((nums_nodup ws.length).filter _) (fun x hx => by simpa using (List.mem_filter.1 hx).2)
        omega
      have hbm2 : srv (flF P (lists ws) (noG ws)) = most P (lists ws) := hbm
      refine ⟨_, _, gc_all, _, _, _, _, by simp [h0], (p1.trans ho.pre).trans p3, hoL.mono p3, hL3, fun h => absurd h0 h, fun _ => ⟨?_, by omega⟩, by omega, by omega⟩
      rw [cvE_0, chE_0]
      refine ⟨⟨h0, by rw [hlsl]; exact filter_isS _ _⟩, ?_, fun i hi => ?_⟩
      · have := filter_isS P.toNat (wants (lists ws) ss)
        rw [Int.toNat_of_nonneg (by omega)] at this
        exact this
      · rw [hlsl] at hi
        by_cases hm : (i : Int) ∈ ss
        · right
          intro p hp
          have hpin := lst_in hls hp
          unfold wsh
          rw [List.mem_filter, mem_nums]
          refine ⟨⟨hpin.1, by have := hpin.2; omega⟩, ?_⟩
          unfold wants
          rw [List.any_eq_true]
          exact ⟨(i : Int), hm, by simpa using hp⟩
        · left
          rw [List.mem_filter, mem_nums]
          exact ⟨⟨by omega, by omega⟩, by simp [hm]⟩
  · simp (maxSteps := 4000000) -implicitDefEqProofs -dsimp (disch := omega) only [↓AW_ops, ↓AW_seq, ↓AW_cond, ↓AW_ret, ↓AOps_nil, ↓AOps_pu, on_some, extK_same, condB_t, ↓then_normal, ↓then_ret, ↓FinR_ret, pval, rd_S, rd_C, put_S, resV, resL, List.replicate_succ, List.replicate_zero, List.set_cons_zero, List.set_cons_succ, List.getElem?_cons_zero, List.getElem?_cons_succ, Option.getD_some, Nat.reduceSub, List.cons_append, List.nil_append, bin_neq, decide_true, forall_const, true_and, false_implies, ne_eq, not_false_eq_true, h0]
    exact ⟨_, _, gc_all, _, _, [], [], rfl, List.prefix_refl _, L1_nil _, L1_nil _, by simp []⟩
set_option maxRecDepth 100000 in
set_option maxHeartbeats 4000000 in
theorem s14 {P : Int} {ws : List (AV × List Int)} {v : AV} {os ps : List Int} {u t : AV} {A : AHeap} (hw : LL A v ws) (hl : ws.length ≤ 9223372036854775807) (ho : L1 A u os) (hp : L1 A t ps) : ACalls Try.prog 14 [.agg [I P, v], u, t] A (B true) A := by
  refine acalls hmix Try.func14 (by kernel_rfl) t14 3 rfl (by decide) ?_
  dsimp only [m14]
  simp (maxSteps := 4000000) -implicitDefEqProofs -dsimp (disch := omega) only [↓AW_ops, ↓AW_seq, ↓AOps_nil, ↓AOps_pu, ↓AOps_call, on_some, ↓then_normal, pval, rd_S, rd_C, put_S, chkd, bgot, AV.cells?, partA, eq_self, List.replicate_succ, List.replicate_zero, List.set_cons_zero, List.set_cons_succ, List.getElem?_cons_zero, List.getElem?_cons_succ, List.drop_zero, List.take_succ_cons, List.take_nil, Option.getD_some, map_c, map_n, List.length_cons, List.length_nil, Nat.reduceAdd, Nat.reduceSub, Nat.reduceLeDiff, Nat.reduceEqDiff, Nat.zero_add, List.cons_append, List.nil_append, if_true, if_false]
  refine CallK.of (s17 hw hl) ?_
  by_cases h : longW ws
  · rw [decide_eq_true h]
    simp (maxSteps := 4000000) -implicitDefEqProofs -dsimp (disch := omega) only [↓AW_ops, ↓AW_seq, ↓AW_cond, ↓AOps_nil, ↓AOps_pu, ↓AOps_call, ↓AOps_guard, on_some, extK_same, guardB_tf, skipS_some, condB_t, ↓then_normal, pval, rd_S, rd_C, put_S, eq_self, List.replicate_succ, List.replicate_zero, List.set_cons_zero, List.set_cons_succ, List.getElem?_cons_zero, List.getElem?_cons_succ, Option.getD_some, map_n, Nat.reduceSub, List.cons_append, List.nil_append, if_true]
    refine CallK.of (known A) ?_
    simp (maxSteps := 4000000) -implicitDefEqProofs -dsimp (disch := omega) only [↓AW_ret, ↓AOps_nil, ↓AOps_pu, on_some, extK_same, skipS_some, ↓then_normal, ↓then_ret, ↓Fin_ret, pval, rd_S, put_S, resV, resL, List.replicate_succ, List.replicate_zero, List.set_cons_zero, List.set_cons_succ, List.getElem?_cons_zero, List.getElem?_cons_succ, Option.getD_some, Nat.reduceSub, List.cons_append, List.nil_append]
    exact gc_same rfl
  · have hs := Sz_of h
    have hs1 := hs.1
    rw [decide_eq_false h]
    simp (maxSteps := 4000000) -implicitDefEqProofs -dsimp (disch := omega) only [↓AOps_pu, ↓AOps_call, ↓AOps_guard, on_some, extK_same, guardB_ff, pval, rd_S, put_S, List.replicate_succ, List.replicate_zero, List.set_cons_zero, List.set_cons_succ, List.getElem?_cons_zero, List.getElem?_cons_succ, Option.getD_some, map_c, map_n, Nat.reduceSub, List.cons_append, List.nil_append]
    refine CallK.of (s32 ho) ?_
    by_cases hgl : (40 : Int) < os.length
    · simp (maxSteps := 4000000) -implicitDefEqProofs -dsimp (disch := omega) only [↓AW_ops, ↓AW_seq, ↓AW_cond, ↓AOps_nil, ↓AOps_pu, ↓AOps_call, ↓AOps_guard, on_some, extK_same, guardB_tf, skipS_some, condB_t, ↓then_normal, pval, rd_S, rd_C, put_S, eq_self, List.replicate_succ, List.replicate_zero, List.set_cons_zero, List.set_cons_succ, List.getElem?_cons_zero, List.getElem?_cons_succ, Option.getD_some, map_n, Nat.reduceSub, List.cons_append, List.nil_append, if_true, if_false, Bool.false_eq_true, decide_true, hgl]
      refine CallK.of (known A) ?_
      simp (maxSteps := 4000000) -implicitDefEqProofs -dsimp (disch := omega) only [↓AW_ret, ↓AOps_nil, ↓AOps_pu, on_some, extK_same, skipS_some, ↓then_normal, ↓then_ret, ↓Fin_ret, pval, rd_S, put_S, resV, resL, List.replicate_succ, List.replicate_zero, List.set_cons_zero, List.set_cons_succ, List.getElem?_cons_zero, List.getElem?_cons_succ, Option.getD_some, Nat.reduceSub, List.cons_append, List.nil_append]
      exact gc_same rfl
    · simp (maxSteps := 4000000) -implicitDefEqProofs -dsimp (disch := omega) only [↓AOps_pu, ↓AOps_call, ↓AOps_guard, on_some, extK_same, guardB_ff, pval, rd_S, rd_C, put_S, List.replicate_succ, List.replicate_zero, List.set_cons_zero, List.set_cons_succ, List.getElem?_cons_zero, List.getElem?_cons_succ, Option.getD_some, map_c, map_n, Nat.reduceSub, List.cons_append, List.nil_append, if_false, Bool.false_eq_true, decide_false, hgl]
      refine CallK.of (s32 hp) ?_
      by_cases hpl : (40 : Int) < ps.length
      · simp (maxSteps := 4000000) -implicitDefEqProofs -dsimp (disch := omega) only [↓AW_ops, ↓AW_seq, ↓AW_cond, ↓AOps_nil, ↓AOps_pu, ↓AOps_call, on_some, extK_same, condB_t, ↓then_normal, pval, rd_S, rd_C, put_S, List.replicate_succ, List.replicate_zero, List.set_cons_zero, List.set_cons_succ, List.getElem?_cons_zero, List.getElem?_cons_succ, Option.getD_some, map_n, Nat.reduceSub, List.cons_append, List.nil_append, if_false, Bool.false_eq_true, decide_true, hpl]
        refine CallK.of (known A) ?_
        simp (maxSteps := 4000000) -implicitDefEqProofs -dsimp (disch := omega) only [↓AW_ret, ↓AOps_nil, ↓AOps_pu, on_some, extK_same, ↓then_normal, ↓then_ret, ↓Fin_ret, pval, rd_S, put_S, resV, resL, List.replicate_succ, List.replicate_zero, List.set_cons_zero, List.set_cons_succ, List.getElem?_cons_zero, List.getElem?_cons_succ, Option.getD_some, Nat.reduceSub, List.cons_append, List.nil_append]
        exact gc_same rfl
      · simp (maxSteps := 4000000) -implicitDefEqProofs -dsimp (disch := omega) only [↓AW_skip, ↓AW_ops, ↓AW_seq, ↓AW_cond, ↓AOps_nil, ↓AOps_pu, ↓AOps_call, on_some, extK_same, condB_f, ↓then_normal, pval, rd_S, rd_C, put_S, chkd, bgot, partA, eq_self, List.replicate_succ, List.replicate_zero, List.set_cons_zero, List.set_cons_succ, List.getElem?_cons_zero, List.getElem?_cons_succ, List.drop_zero, List.take_succ_cons, List.take_nil, Option.getD_some, map_c, map_n, List.length_cons, List.length_nil, Nat.reduceAdd, Nat.reduceSub, Nat.reduceLeDiff, Nat.reduceEqDiff, Nat.zero_add, List.cons_append, List.nil_append, if_true, if_false, Bool.false_eq_true, decide_false, hpl]
        refine CallK.of (s46 hw hs ho (by omega) hp (by omega)) ?_
        simp (maxSteps := 4000000) -implicitDefEqProofs -dsimp (disch := omega) only [↓AW_ops, ↓AW_seq, ↓AOps_nil, ↓AOps_pu, ↓AOps_call, on_some, extK_same, ↓then_normal, pval, rd_S, put_S, chkd, bgot, partA, eq_self, List.replicate_succ, List.replicate_zero, List.set_cons_zero, List.set_cons_succ, List.getElem?_cons_zero, List.getElem?_cons_succ, List.drop_zero, List.take_succ_cons, List.take_nil, Option.getD_some, map_c, map_n, List.length_cons, List.length_nil, Nat.reduceAdd, Nat.reduceSub, Nat.reduceLeDiff, Nat.reduceEqDiff, Nat.zero_add, List.cons_append, List.nil_append, if_true, if_false]
        refine CallK.of (s50 hw hs ho (by omega) hp (by omega)) ?_
        simp (maxSteps := 4000000) -implicitDefEqProofs -dsimp (disch := omega) only [↓AW_ops, ↓AW_seq, ↓AOps_nil, ↓AOps_pu, ↓AOps_call, on_some, extK_same, ↓then_normal, pval, rd_S, put_S, chkd, bgot, partA, eq_self, List.replicate_succ, List.replicate_zero, List.set_cons_zero, List.set_cons_succ, List.getElem?_cons_zero, List.getElem?_cons_succ, List.drop_zero, List.take_succ_cons, List.take_nil, Option.getD_some, map_c, map_n, List.length_cons, List.length_nil, Nat.reduceAdd, Nat.reduceSub, Nat.reduceLeDiff, Nat.reduceEqDiff, Nat.zero_add, List.cons_append, List.nil_append, if_true, if_false]
        obtain ⟨r, H', hcall, y, z, xs, ys, rfl, p1, hx, hy, k1, k2, k3, k4⟩ := s51 (P := P) hw hs
        refine CallK.of hcall ?_
        have hw1 := hw.mono p1
        simp (maxSteps := 4000000) -implicitDefEqProofs -dsimp (disch := omega) only [↓AW_ops, ↓AW_seq, ↓AOps_nil, ↓AOps_pu, ↓AOps_call, on_some, extK_false, ↓then_normal, pval, rd_S, put_S, chkd, bgot, partA, eq_self, List.replicate_succ, List.replicate_zero, List.set_cons_zero, List.set_cons_succ, List.getElem?_cons_zero, List.getElem?_cons_succ, List.drop_zero, List.take_succ_cons, List.take_nil, Option.getD_some, map_c, map_n, List.length_cons, List.length_nil, Nat.reduceAdd, Nat.reduceSub, Nat.reduceLeDiff, Nat.reduceEqDiff, Nat.zero_add, List.cons_append, List.nil_append, if_true, if_false]
        refine CallK.of (s25 hw1 hs) ?_
        by_cases h0 : vW P (lists ws) = 0
        · have hv := val_of h0
          have hls : ∀ l ∈ lists ws, ∀ p ∈ l, inP P p := fun l hl => (hv.l l hl).1
          obtain ⟨c1, c2⟩ := k2 h0
          have hM : mostN P (lists ws) = most P (lists ws) := by unfold mostN; rw [if_pos h0]
          have hcN : cvN P (lists ws) xs ys = ((most P (lists ws) : Nat) : Int) := by
            unfold cvN
            rw [if_pos c1]
            omega
          rw [hM]
          simp (maxSteps := 4000000) -implicitDefEqProofs -dsimp (disch := omega) only [↓AW_skip, ↓AW_ops, ↓AW_seq, ↓AW_cond, ↓AOps_nil, ↓AOps_pu, ↓AOps_call, ↓AOps_guard, on_some, extK_same, guardB_ff, condB_f, ↓then_normal, pval, rd_S, rd_C, put_S, chkd, bgot, partA, eq_self, List.replicate_succ, List.replicate_zero, List.set_cons_zero, List.set_cons_succ, List.getElem?_cons_zero, List.getElem?_cons_succ, List.drop_zero, List.take_succ_cons, List.take_nil, Option.getD_some, map_c, map_n, List.length_cons, List.length_nil, Nat.reduceAdd, Nat.reduceSub, Nat.reduceLeDiff, Nat.reduceEqDiff, Nat.zero_add, List.cons_append, List.nil_append, bin_neq, if_true, if_false, Bool.false_eq_true, decide_false, not_true_eq_false, h0]
          refine CallK.of (s50 hw1 hs hx (by omega) hy (by omega)) ?_
          rw [c1, hcN]
          by_cases hcE : cvE P (lists ws) os ps = 0
          · have hcov := (cvE_0.1 hcE).2.2
            have hm := meets (best_good hv) hcov
            rw [best_most] at hm
            have hge : ((most P (lists ws) : Nat) : Int) ≤ cvN P (lists ws) os ps := by
              unfold cvN
              rw [if_pos hcE]
              omega
            simp (maxSteps := 4000000) -implicitDefEqProofs -dsimp (disch := omega) only [↓AW_ops, ↓AW_seq, ↓AOps_nil, ↓AOps_pu, ↓AOps_call, ↓AOps_guard, on_some, extK_same, guardB_tt, guardB_ff, ↓then_normal, pval, rd_S, rd_C, put_S, eq_self, List.replicate_succ, List.replicate_zero, List.set_cons_zero, List.set_cons_succ, List.getElem?_cons_zero, List.getElem?_cons_succ, Option.getD_some, map_n, Nat.reduceSub, List.cons_append, List.nil_append, bin_eql, bin_neq, bin_geq, if_true, if_false, Bool.false_eq_true, decide_true, decide_false, not_true_eq_false, hcE, hge]
            refine CallK.of (known _) ?_
            simp (maxSteps := 4000000) -implicitDefEqProofs -dsimp (disch := omega) only [↓AW_ret, ↓AOps_nil, ↓AOps_pu, on_some, extK_same, ↓then_normal, ↓Fin_ret, pval, rd_S, rd_C, put_S, resV, resL, eq_self, List.replicate_succ, List.replicate_zero, List.set_cons_zero, List.set_cons_succ, List.getElem?_cons_zero, List.getElem?_cons_succ, Option.getD_some, Nat.reduceSub, List.cons_append, List.nil_append, if_true]
            exact gc_val p1 rfl
          · simp (maxSteps := 4000000) -implicitDefEqProofs -dsimp (disch := omega) only [↓AW_ops, ↓AW_seq, ↓AOps_nil, ↓AOps_pu, ↓AOps_call, ↓AOps_guard, on_some, extK_same, guardB_tt, guardB_tf, skipS_some, ↓then_normal, pval, rd_S, rd_C, put_S, eq_self, List.replicate_succ, List.replicate_zero, List.set_cons_zero, List.set_cons_succ, List.getElem?_cons_zero, List.getElem?_cons_succ, Option.getD_some, map_n, Nat.reduceSub, List.cons_append, List.nil_append, bin_eql, bin_neq, if_true, decide_true, not_false_eq_true, hcE]
            refine CallK.of (known _) ?_
            simp (maxSteps := 4000000) -implicitDefEqProofs -dsimp (disch := omega) only [↓AW_ret, ↓AOps_nil, ↓AOps_pu, on_some, extK_same, skipS_some, ↓then_normal, ↓Fin_ret, pval, rd_S, rd_C, put_S, resV, resL, eq_self, List.replicate_succ, List.replicate_zero, List.set_cons_zero, List.set_cons_succ, List.getElem?_cons_zero, List.getElem?_cons_succ, Option.getD_some, Nat.reduceSub, List.cons_append, List.nil_append, if_true]
            exact gc_val p1 rfl
        · obtain ⟨rfl, rfl⟩ := k1 h0
          have hlx : lenA y = some (I 0) := hx.len
          have hly : lenA z = some (I 0) := hy.len
          simp (maxSteps := 4000000) -implicitDefEqProofs -dsimp (disch := omega) only [↓AW_skip, ↓AW_ops, ↓AW_seq, ↓AW_cond, ↓AOps_nil, ↓AOps_pu, ↓AOps_call, ↓AOps_guard, on_some, extK_same, guardB_tt, guardB_ff, condB_t, condB_f, ↓then_normal, pval, rd_S, rd_C, put_S, eq_self, List.replicate_succ, List.replicate_zero, List.set_cons_zero, List.set_cons_succ, List.getElem?_cons_zero, List.getElem?_cons_succ, Option.getD_some, map_n, Nat.reduceSub, List.cons_append, List.nil_append, bin_eql, bin_neq, if_true, if_false, Bool.false_eq_true, decide_true, decide_false, not_true_eq_false, not_false_eq_true, h0, hlx, hly]
          refine CallK.of (known _) ?_
          simp (maxSteps := 4000000) -implicitDefEqProofs -dsimp (disch := omega) only [↓AW_ret, ↓AOps_nil, ↓AOps_pu, on_some, extK_same, ↓then_normal, ↓then_ret, ↓Fin_ret, pval, rd_S, rd_C, put_S, resV, resL, eq_self, List.replicate_succ, List.replicate_zero, List.set_cons_zero, List.set_cons_succ, List.getElem?_cons_zero, List.getElem?_cons_succ, Option.getD_some, Nat.reduceSub, List.cons_append, List.nil_append, if_true]
          exact gc_val p1 rfl
end Go.Proofs.Ytlmbobbefgcolaa

