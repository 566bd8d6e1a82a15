/- Sets of places as bits, plainly: the greatest set that can be given has as many places as the most. No conditions. -/
import Derived.Test.YtlmbobbefgcolaaP3
namespace Go.Proofs.Ytlmbobbefgcolaa
open Go Go.Eng

/-- How many bits. -/
def pc (s : Nat) : Nat := if h : s = 0 then 0 else s % 2 + pc (s / 2)
termination_by s
theorem pc_0 : pc 0 = 0 := by unfold pc; simp
theorem pc_eq (s : Nat) : pc s = s % 2 + pc (s / 2) := by
  by_cases h : s = 0
  · subst h; simp [pc_0]
  · conv => lhs; unfold pc
    rw [dif_neg h]

theorem tb_succ (x i : Nat) : x.testBit (i + 1) = (x / 2).testBit i := Nat.testBit_succ x i
theorem tb_zero (x : Nat) : x.testBit 0 = decide (x % 2 = 1) := Nat.testBit_zero x

theorem pc_add : ∀ (p s : Nat), s.testBit p = false → pc (s + 2 ^ p) = pc s + 1
  | 0, s, h => by
    rw [tb_zero, decide_eq_false_iff_not] at h
    rw [pc_eq (s + 2 ^ 0), pc_eq s]
    have : (s + 2 ^ 0) / 2 = s / 2 := by omega
    rw [this]; omega
  | p + 1, s, h => by
    rw [tb_succ] at h
    have ih := pc_add p (s / 2) h
    rw [pc_eq (s + 2 ^ (p + 1)), pc_eq s]
    have h1 : (s + 2 ^ (p + 1)) / 2 = s / 2 + 2 ^ p := by rw [Nat.pow_succ]; omega
    have h2 : (s + 2 ^ (p + 1)) % 2 = s % 2 := by rw [Nat.pow_succ]; omega
    rw [h1, h2, ih]; omega

theorem tb_add : ∀ (p s q : Nat), s.testBit p = false → (s + 2 ^ p).testBit q = (s.testBit q || decide (q = p))
  | 0, s, q, h => by
    rw [tb_zero, decide_eq_false_iff_not] at h
    cases q with
    | zero => rw [tb_zero, tb_zero]; simp; omega
    | succ q =>
      rw [tb_succ, tb_succ]
      have : (s + 2 ^ 0) / 2 = s / 2 := by omega
      rw [this]; simp
  | p + 1, s, q, h => by
    rw [tb_succ] at h
    have h1 : (s + 2 ^ (p + 1)) / 2 = s / 2 + 2 ^ p := by rw [Nat.pow_succ]; omega
    have h2 : (s + 2 ^ (p + 1)) % 2 = s % 2 := by rw [Nat.pow_succ]; omega
    cases q with
    | zero => rw [tb_zero, tb_zero, h2]; simp
    | succ q => rw [tb_succ, tb_succ, h1, tb_add p (s / 2) q h]; simp

theorem tb_sub : ∀ (p t : Nat), t.testBit p = true → ∃ s, s.testBit p = false ∧ t = s + 2 ^ p
  | 0, t, h => by
    rw [tb_zero, decide_eq_true_eq] at h
    exact ⟨t - 1, by rw [tb_zero]; simp; omega, by omega⟩
  | p + 1, t, h => by
    rw [tb_succ] at h
    obtain ⟨s, h1, h2⟩ := tb_sub p (t / 2) h
    refine ⟨2 * s + t % 2, ?_, by rw [Nat.pow_succ]; omega⟩
    rw [tb_succ, show (2 * s + t % 2) / 2 = s by omega]
    exact h1

/-- The sets that can be given, owner after owner; one owner is left out. -/
def cb (f : Nat → Bool) (l : List Int) (t : Nat) : Bool := f t || l.any (fun p => t.testBit p.toNat && f (t - 2 ^ p.toNat))
def cF (ls : List (List Int)) (wo : Int) : Nat → Nat → Bool
  | 0, t => t == 0
  | i + 1, t => if (i : Int) = wo then cF ls wo i t else cb (cF ls wo i) (lst ls i) t

/-- The places that are given, as bits. -/
def mask (g : List Int) : Nat := ((given g).map (fun p => 2 ^ p.toNat)).sum

/-- A giving to the first owners. -/
structure Pre (ls : List (List Int)) (wo : Int) (i : Nat) (g : List Int) : Prop where
  len : g.length = i
  low : ∀ k, k < i → -1 ≤ has g k
  wish : ∀ k, k < i → 0 ≤ has g k → has g k ∈ lst ls k ∧ (k : Int) ≠ wo
  inj : ∀ a b, a < i → b < i → 0 ≤ has g a → has g a = has g b → a = b

theorem given_append (g : List Int) (x : Int) : given (g ++ [x]) = given g ++ if 0 ≤ x then [x] else [] := by
  unfold given
  rw [List.filter_append]
  simp [List.filter_cons]

theorem mask_append (g : List Int) (x : Int) : mask (g ++ [x]) = mask g + if 0 ≤ x then 2 ^ x.toNat else 0 := by
  unfold mask
  rw [given_append]
  split <;> simp

theorem srv_append (g : List Int) (x : Int) : srv (g ++ [x]) = srv g + if 0 ≤ x then 1 else 0 := by
  unfold srv
  rw [List.countP_append]
  simp [List.countP_cons]

theorem has_append {g : List Int} {x : Int} {k : Nat} : has (g ++ [x]) k = if k < g.length then has g k else if k = g.length then x else -1 := by
  unfold has
  by_cases h : k < g.length
  · rw [if_pos h, List.getElem?_append_left h]
  · rw [if_neg h, List.getElem?_append_right (by omega)]
    by_cases h2 : k = g.length
    · subst h2; simp
    · rw [if_neg h2]
      have : ([x] : List Int)[k - g.length]? = none := by rw [List.getElem?_eq_none]; simp; omega
      rw [this]; rfl

/-- The bits of a mask are the places that are given. -/
theorem mask_bits {ls : List (List Int)} {wo : Int} : ∀ (i : Nat) (g : List Int), Pre ls wo i g → (∀ q : Nat, (mask g).testBit q = true ↔ (q : Int) ∈ g) ∧ pc (mask g) = srv g
  | 0, g, h => by
    have : g = [] := List.eq_nil_of_length_eq_zero h.len
    subst this
    refine ⟨fun q => ?_, ?_⟩
    · simp [mask, given]
    · simp [mask, given, srv, pc_0]
  | i + 1, g, h => by
    obtain ⟨g0, x, rfl⟩ : ∃ g0 x, g = g0 ++ [x] := ⟨g.dropLast, g.getLast (by intro e; have := h.len; rw [e] at this; cases this), (List.dropLast_concat_getLast _).symm⟩
    have hl : g0.length = i := by have := h.len; simp at this; exact this
    have h0 : Pre ls wo i g0 := by
      have e : ∀ k, k < i → has (g0 ++ [x]) k = has g0 k := fun k hk => by rw [has_append, if_pos (by omega)]
      refine ⟨hl, fun k hk => by rw [← e k hk]; exact h.low k (by omega), fun k hk h1 => by rw [← e k hk] at *; exact h.wish k (by omega) h1, fun a b ha hb h1 h2 => h.inj a b (by omega) (by omega) (by rw [e a ha]; exact h1) (by rw [e a ha, e b hb]; exact h2)⟩
    obtain ⟨m1, m2⟩ := mask_bits i g0 h0
    have hx : has (g0 ++ [x]) i = x := by rw [has_append, if_neg (by omega), if_pos (by omega)]
    by_cases hx0 : 0 ≤ x
    · have hnot : x ∉ g0 := fun hm => by
        obtain ⟨k, hk, e⟩ := List.mem_iff_getElem.1 hm
        have hh : has (g0 ++ [x]) k = x := by rw [has_append, if_pos hk, has_get (List.getElem?_eq_getElem hk), e]
        have := h.inj k i (by omega) (by omega) (by rw [hh]; exact hx0) (by rw [hh, hx])
        omega
      have hbit : (mask g0).testBit x.toNat = false := by
        cases hb : (mask g0).testBit x.toNat with
        | false => rfl
        | true => exact absurd (by have := (m1 _).1 hb; rwa [Int.toNat_of_nonneg hx0] at this) hnot
      rw [mask_append, srv_append, if_pos hx0, if_pos hx0]
      refine ⟨fun q => ?_, by rw [pc_add _ _ hbit, m2]⟩
      rw [tb_add _ _ _ hbit, Bool.or_eq_true, m1 q, decide_eq_true_eq, List.mem_append]
      constructor
      · rintro (h1 | h1)
        · exact .inl h1
        · exact .inr (by simp; omega)
      · rintro (h1 | h1)
        · exact .inl h1
        · exact .inr (by simp at h1; omega)
    · rw [mask_append, srv_append, if_neg hx0, if_neg hx0]
      refine ⟨fun q => ?_, by simpa using m2⟩
      rw [Nat.add_zero, m1 q, List.mem_append]
      constructor
      · exact .inl
      · rintro (h1 | h1)
        · exact h1
        · simp at h1; omega

theorem cF_iff {ls : List (List Int)} {wo : Int} (hls : ∀ l ∈ ls, ∀ p ∈ l, 0 ≤ p) : ∀ (i t : Nat), cF ls wo i t = true ↔ ∃ g, Pre ls wo i g ∧ mask g = t
  | 0, t => by
    rw [cF, beq_iff_eq]
    constructor
    · rintro rfl
      exact ⟨[], ⟨rfl, fun k h => by omega, fun k h => by omega, fun a b h => by omega⟩, rfl⟩
    · rintro ⟨g, hg, rfl⟩
      have : g = [] := List.eq_nil_of_length_eq_zero hg.len
      subst this; rfl
  | i + 1, t => by
    have hin : ∀ (k : Nat) p, p ∈ lst ls k → 0 ≤ p := fun k p hp => by
      rw [lst_nat] at hp
      cases hl : ls[k]? with
      | none => rw [hl] at hp; simp at hp
      | some l => rw [hl] at hp; exact hls l (List.mem_of_getElem? hl) p hp
    have ext : ∀ g x, Pre ls wo i g → (x = -1 ∨ (0 ≤ x ∧ x ∈ lst ls i ∧ (i : Int) ≠ wo ∧ x ∉ g)) → Pre ls wo (i + 1) (g ++ [x]) := fun g x hg hx => by
      have e : ∀ k, k < i → has (g ++ [x]) k = has g k := fun k hk => by rw [has_append, if_pos (by have := hg.len; omega)]
      have e2 : has (g ++ [x]) i = x := by rw [has_append, if_neg (by have := hg.len; omega), if_pos (by have := hg.len; omega)]
      refine ⟨by simp [hg.len], fun k hk => ?_, fun k hk h1 => ?_, fun a b ha hb h1 h2 => ?_⟩
      · by_cases hki : k = i
        · subst hki; rw [e2]; omega
        · rw [e k (by omega)]; exact hg.low k (by omega)
      · by_cases hki : k = i
        · subst hki
          rw [e2] at h1 ⊢
          rcases hx with hx | hx
          · omega
          · exact ⟨hx.2.1, hx.2.2.1⟩
        · rw [e k (by omega)] at *; exact hg.wish k (by omega) h1
      · have notin : ∀ k, k < i → 0 ≤ x → has g k ≠ x := fun k hk h0 he => by
          rcases hx with rfl | hx
          · omega
          · exact hx.2.2.2 (by rw [← he]; exact has_mem (by have := hg.len; omega))
        by_cases hai : a = i
        · by_cases hbi : b = i
          · omega
          · rw [hai, e2] at h1 h2
            rw [e b (by omega)] at h2
            exact absurd h2.symm (notin b (by omega) h1)
        · by_cases hbi : b = i
          · rw [e a (by omega)] at h1 h2
            rw [hbi, e2] at h2
            exact absurd h2 (notin a (by omega) (by omega))
          · rw [e a (by omega)] at h1 h2
            rw [e b (by omega)] at h2
            exact hg.inj a b (by omega) (by omega) h1 h2
    have split : ∀ g, Pre ls wo (i + 1) g → ∃ g0 x, g = g0 ++ [x] ∧ Pre ls wo i g0 ∧ (x = -1 ∨ (0 ≤ x ∧ x ∈ lst ls i ∧ (i : Int) ≠ wo ∧ x ∉ g0)) := fun g h => by
      obtain ⟨g0, x, rfl⟩ : ∃ g0 x, g = g0 ++ [x] := ⟨g.dropLast, g.getLast (by intro e; have := h.len; rw [e] at this; cases this), (List.dropLast_concat_getLast _).symm⟩
      have hl : g0.length = i := by have := h.len; simp at this; exact this
      have e : ∀ k, k < i → has (g0 ++ [x]) k = has g0 k := fun k hk => by rw [has_append, if_pos (by omega)]
      have hx : has (g0 ++ [x]) i = x := by rw [has_append, if_neg (by omega), if_pos (by omega)]
      refine ⟨g0, x, rfl, ⟨hl, fun k hk => by rw [← e k hk]; exact h.low k (by omega), fun k hk h1 => by rw [← e k hk] at *; exact h.wish k (by omega) h1, fun a b ha hb h1 h2 => h.inj a b (by omega) (by omega) (by rw [e a ha]; exact h1) (by rw [e a ha, e b hb]; exact h2)⟩, ?_⟩
      by_cases hx0 : 0 ≤ x
      · have hw := h.wish i (by omega) (by rw [hx]; exact hx0)
        rw [hx] at hw
        refine .inr ⟨hx0, hw.1, hw.2, fun hm => ?_⟩
        obtain ⟨k, hk, ek⟩ := List.mem_iff_getElem.1 hm
        have hh : has (g0 ++ [x]) k = x := by rw [has_append, if_pos hk, has_get (List.getElem?_eq_getElem hk), ek]
        have := h.inj k i (by omega) (by omega) (by rw [hh]; exact hx0) (by rw [hh, hx])
        omega
      · have := h.low i (by omega)
        rw [hx] at this
        exact .inl (by omega)
    rw [cF]
    by_cases hwo : (i : Int) = wo
    · rw [if_pos hwo, cF_iff hls i t]
      constructor
      · rintro ⟨g, hg, rfl⟩
        exact ⟨g ++ [-1], ext g (-1) hg (.inl rfl), by rw [mask_append]; simp⟩
      · rintro ⟨g, hg, rfl⟩
        obtain ⟨g0, x, rfl, h0, hx⟩ := split g hg
        rcases hx with rfl | hx
        · exact ⟨g0, h0, by rw [mask_append]; simp⟩
        · exact absurd hwo hx.2.2.1
    · rw [if_neg hwo, cb, Bool.or_eq_true, cF_iff hls i t, List.any_eq_true]
      constructor
      · rintro (⟨g, hg, rfl⟩ | ⟨p, hp, h⟩)
        · exact ⟨g ++ [-1], ext g (-1) hg (.inl rfl), by rw [mask_append]; simp⟩
        · rw [Bool.and_eq_true, cF_iff hls i] at h
          obtain ⟨h1, g, hg, hm⟩ := h
          have hp0 := hin i p hp
          obtain ⟨s, s1, s2⟩ := tb_sub _ _ h1
          have hms : mask g = s := by omega
          have hnot : p ∉ g := fun hmem => by
            have := (mask_bits i g hg).1 p.toNat |>.2 (by rw [Int.toNat_of_nonneg hp0]; exact hmem)
            rw [hms, s1] at this; cases this
          exact ⟨g ++ [p], ext g p hg (.inr ⟨hp0, hp, hwo, hnot⟩), by rw [mask_append, if_pos hp0, hms, ← s2]⟩
      · rintro ⟨g, hg, rfl⟩
        obtain ⟨g0, x, rfl, h0, hx⟩ := split g hg
        rcases hx with rfl | ⟨x0, x1, x2, x3⟩
        · exact .inl ⟨g0, h0, by rw [mask_append]; simp⟩
        · refine .inr ⟨x, x1, ?_⟩
          have hb : (mask g0).testBit x.toNat = false := by
            cases hb : (mask g0).testBit x.toNat with
            | false => rfl
            | true => exact absurd (by have := ((mask_bits i g0 h0).1 _).1 hb; rwa [Int.toNat_of_nonneg x0] at this) x3
          rw [mask_append, if_pos x0, Bool.and_eq_true, cF_iff hls i, tb_add _ _ _ hb]
          exact ⟨by simp, g0, h0, by omega⟩

/-- The greatest number of bits of those that can be given. -/
def mb (f : Nat → Bool) : Nat → Nat
  | 0 => 0
  | s + 1 => if f s = true then max (mb f s) (pc s) else mb f s
theorem mb_le (f : Nat → Bool) : ∀ n s, s < n → f s = true → pc s ≤ mb f n
  | n + 1, s, h, hf => by
    rw [mb]
    by_cases hs : s = n
    · subst hs; rw [if_pos hf]; omega
    · have := mb_le f n s (by omega) hf
      split <;> omega
theorem mb_ex (f : Nat → Bool) : ∀ n, mb f n = 0 ∨ ∃ s, s < n ∧ f s = true ∧ pc s = mb f n
  | 0 => .inl rfl
  | n + 1 => by
    rw [mb]
    by_cases hf : f n = true
    · rw [if_pos hf]
      rcases Nat.le_total (mb f n) (pc n) with h | h
      · exact .inr ⟨n, by omega, hf, by omega⟩
      · rcases mb_ex f n with h1 | ⟨s, h1, h2, h3⟩
        · exact .inl (by omega)
        · exact .inr ⟨s, by omega, h2, by omega⟩
    · rw [if_neg hf]
      rcases mb_ex f n with h1 | ⟨s, h1, h2, h3⟩
      · exact .inl h1
      · exact .inr ⟨s, by omega, h2, h3⟩

/-- The wishes without an owner's. -/
def drp (ls : List (List Int)) (wo : Int) : List (List Int) := if 0 ≤ wo then ls.set wo.toNat [] else ls
theorem drp_len (ls : List (List Int)) (wo : Int) : (drp ls wo).length = ls.length := by unfold drp; split <;> simp
theorem drp_lst {ls : List (List Int)} {wo : Int} {k : Nat} (hk : k < ls.length) : lst (drp ls wo) k = if (k : Int) = wo then [] else lst ls k := by
  rw [lst_nat, lst_nat]
  unfold drp
  by_cases h : 0 ≤ wo
  · rw [if_pos h, List.getElem?_set]
    by_cases h2 : (k : Int) = wo
    · rw [if_pos h2, if_pos (by omega)]
      by_cases h3 : wo.toNat < ls.length <;> simp [h3]
    · rw [if_neg h2, if_neg (by omega)]
  · rw [if_neg h, if_neg (by omega)]

theorem pre_good {P : Int} {ls : List (List Int)} (hls : ∀ l ∈ ls, ∀ p ∈ l, inP P p) (hP : 0 ≤ P) {wo : Int} {g : List Int} : Pre ls wo ls.length g ↔ Good P (drp ls wo) g := by
  constructor
  · intro h
    refine ⟨by rw [drp_len]; exact h.len, fun k hk => ?_, fun k hk h0 => ?_, fun a b ha hb => ?_⟩
    · rw [drp_len] at hk
      refine ⟨h.low k hk, ?_⟩
      by_cases h0 : 0 ≤ has g k
      · exact (lst_in hls (h.wish k hk h0).1).2
      · omega
    · rw [drp_len] at hk
      have := h.wish k hk h0
      rw [drp_lst hk, if_neg this.2]
      exact this.1
    · rw [drp_len] at ha hb; exact h.inj a b ha hb
  · intro h
    have hl := h.len
    rw [drp_len] at hl
    refine ⟨hl, fun k hk => (h.rng k (by rw [drp_len]; exact hk)).1, fun k hk h0 => ?_, fun a b ha hb => h.inj a b (by rw [drp_len]; exact ha) (by rw [drp_len]; exact hb)⟩
    have := h.wish k (by rw [drp_len]; exact hk) h0
    rw [drp_lst hk] at this
    split at this
    · simp at this
    · rename_i h2; exact ⟨this, h2⟩

theorem drp_in {P : Int} {ls : List (List Int)} (hls : ∀ l ∈ ls, ∀ p ∈ l, inP P p) (wo : Int) : ∀ l ∈ drp ls wo, ∀ p ∈ l, inP P p := by
  intro l hl p hp
  unfold drp at hl
  split at hl
  · rcases List.mem_or_eq_of_mem_set hl with h | rfl
    · exact hls l h p hp
    · simp at hp
  · exact hls l hl p hp

theorem mask_lt {P : Int} {ls : List (List Int)} (hls : ∀ l ∈ ls, ∀ p ∈ l, inP P p) {wo : Int} {g : List Int} (h : Pre ls wo ls.length g) : mask g < 2 ^ P.toNat := by
  refine Nat.lt_pow_two_of_testBit _ (fun q hq => ?_)
  cases hb : (mask g).testBit q with
  | false => rfl
  | true =>
    have := ((mask_bits _ g h).1 q).1 hb
    obtain ⟨k, hk, e⟩ := List.mem_iff_getElem.1 this
    have hkl : k < ls.length := by rw [← h.len]; exact hk
    have hh : has g k = (q : Int) := by rw [has_get (List.getElem?_eq_getElem hk), e]
    have := lst_in hls (h.wish k hkl (by rw [hh]; omega)).1
    rw [hh] at this
    have := this.2
    omega

/-- The document's most is the most. -/
theorem mb_most {P : Int} (hP : 0 ≤ P) {ls : List (List Int)} (hls : ∀ l ∈ ls, ∀ p ∈ l, inP P p) (wo : Int) : mb (cF ls wo ls.length) (2 ^ P.toNat) = most P (drp ls wo) := by
  have h0 : ∀ l ∈ ls, ∀ p ∈ l, 0 ≤ p := fun l hl p hp => (hls l hl p hp).1
  refine (most_eq hP (drp_in hls wo) ?_ ?_).symm
  · rcases mb_ex (cF ls wo ls.length) (2 ^ P.toNat) with h | ⟨s, h1, h2, h3⟩
    · refine ⟨List.replicate (drp ls wo).length (-1), good_none P hP _, ?_⟩
      rw [h]
      simp [srv]
    · obtain ⟨g, hg, rfl⟩ := (cF_iff h0 _ _).1 h2
      exact ⟨g, (pre_good hls hP).1 hg, by rw [← h3, (mask_bits _ g hg).2]⟩
  · intro g hg
    have hp := (pre_good hls hP).2 hg
    rw [← (mask_bits _ g hp).2]
    exact mb_le _ _ _ (mask_lt hls hp) ((cF_iff h0 _ _).2 ⟨g, hp, rfl⟩)

end Go.Proofs.Ytlmbobbefgcolaa
