/- Givings, plainly: what is filled serves the most. No conditions. -/
import Derived.Test.YtlmbobbefgcolaaP2
namespace Go.Proofs.Ytlmbobbefgcolaa
open Go Go.Eng

def flStep (P : Int) (ls : List (List Int)) (g : List Int) (i : Nat) : List Int := if has g i < 0 then (chF ls (P.toNat + 1) i (List.replicate P.toNat false, g)).2.2 else g
/-- A giving, filled. -/
def flF (P : Int) (ls : List (List Int)) (g : List Int) : List Int := (List.range ls.length).foldl (flStep P ls) g

theorem sn_new {P p : Int} (h : inP P p) : sn (List.replicate P.toNat false) p = false := by
  unfold sn
  rw [List.getElem?_replicate, if_pos (by have := h.1; have := h.2; omega)]
  rfl

theorem fl_step {P : Int} {ls : List (List Int)} (hls : ∀ l ∈ ls, ∀ p ∈ l, inP P p) {g : List Int} (hg : Good P ls g) {i : Nat} (hi : i < ls.length) :
    Good P ls (flStep P ls g i) ∧ (∀ k, k < ls.length → 0 ≤ has g k → 0 ≤ has (flStep P ls g i) k) ∧ (has (flStep P ls g i) i < 0 → ∃ T : Nat → Prop, T i ∧ Stuck ls (flStep P ls g i) T) := by
  unfold flStep
  by_cases h : has g i < 0
  · rw [if_pos h]
    have hpost := chF_spec hls (P.toNat + 1) i (List.replicate P.toNat false, g) ⟨by omega, by omega⟩ hg (by simp) (by simp [unseen])
    generalize chF ls (P.toNat + 1) i (List.replicate P.toNat false, g) = r at *
    by_cases hr : r.1 = true
    · obtain ⟨y1, y2, y3⟩ := hpost.yes hr
      rw [Int.toNat_natCast] at y2
      refine ⟨y1, fun k hk h0 => ?_, fun h1 => absurd y2.1 (by omega)⟩
      rcases y3 k hk with h4 | h4
      · rw [h4]; exact h0
      · exact h4.1
    · obtain ⟨n1, n2, n3⟩ := hpost.no (by simpa using hr)
      simp only at n1 n3
      rw [n1]
      refine ⟨hg, fun k _ h0 => h0, fun _ => ⟨fun k => k = i ∨ (0 ≤ has g k ∧ sn r.2.1 (has g k) = true), .inl rfl, ?_⟩⟩
      have held : ∀ p, inP P p → sn r.2.1 p = true → ∃ h : Nat, h < ls.length ∧ has g h = p ∧ ∀ q ∈ lst ls h, sn r.2.1 q = true := fun p hp hs => n3 p hp.1 hs (sn_new hp)
      intro j hj hT p hp
      have hin := lst_in hls hp
      have hseen : sn r.2.1 p = true := by
        rcases hT with rfl | ⟨h0, hs⟩
        · exact n2 p hp
        · obtain ⟨t, t1, t2, t3⟩ := held (has g j) ⟨h0, (hg.rng j hj).2⟩ hs
          have : j = t := hg.inj j t hj t1 h0 t2.symm
          subst this
          exact t3 p hp
      obtain ⟨t, t1, t2, _⟩ := held p hin hseen
      exact ⟨t, t1, .inr ⟨by rw [t2]; exact hin.1, by rw [t2]; exact hseen⟩, t2⟩
  · rw [if_neg h]
    exact ⟨hg, fun k _ h0 => h0, fun h1 => absurd h1 h⟩

theorem fl_inv {P : Int} {ls : List (List Int)} (hls : ∀ l ∈ ls, ∀ p ∈ l, inP P p) {g : List Int} (hg : Good P ls g) : ∀ k, k ≤ ls.length →
    Good P ls ((List.range k).foldl (flStep P ls) g) ∧ (∀ i, i < ls.length → 0 ≤ has g i → 0 ≤ has ((List.range k).foldl (flStep P ls) g) i) ∧ (∀ i, i < k → has ((List.range k).foldl (flStep P ls) g) i < 0 → ∃ T : Nat → Prop, T i ∧ Stuck ls ((List.range k).foldl (flStep P ls) g) T)
  | 0, _ => ⟨hg, fun _ _ h => h, fun i h => by omega⟩
  | k + 1, hk => by
    obtain ⟨h1, h2, h3⟩ := fl_inv hls hg k (by omega)
    rw [List.range_succ, List.foldl_append, List.foldl_cons, List.foldl_nil]
    generalize (List.range k).foldl (flStep P ls) g = gk at *
    obtain ⟨s1, s2, s3⟩ := fl_step hls h1 (show k < ls.length by omega)
    refine ⟨s1, fun i hi h0 => s2 i hi (h2 i hi h0), fun i hi hn => ?_⟩
    by_cases hik : i = k
    · subst hik; exact s3 hn
    · have hn' : has gk i < 0 := by
        rcases Int.lt_or_le (has gk i) 0 with h | h
        · exact h
        · have := s2 i (by omega) h; omega
      obtain ⟨T, t1, t2⟩ := h3 i (by omega) hn'
      exact ⟨T, t1, stuck_keep hls h1 s1 s2 t2⟩

theorem stuck_max {P : Int} {ls : List (List Int)} {g : List Int} (hg : Good P ls g) {T : Nat → Prop} (hs : Stuck ls g T) (hT : ∀ i, i < ls.length → has g i < 0 → T i) {g2 : List Int} (hg2 : Good P ls g2) : srv g2 ≤ srv g := by
  have h1 := stuck_len hg hs
  have h2 : (svT g2 T).length ≤ (wT P ls T).length := by
    have := nodup_len (svT_map_nodup hg2 T) (svT_sub hg2 T)
    rwa [List.length_map] at this
  have e1 := filter_split (dec T) (sv g)
  have e2 := filter_split (dec T) (sv g2)
  have h3 : ((sv g2).filter (fun x => !dec T x)).length ≤ ((List.range ls.length).filter (fun x => !dec T x)).length := by
    unfold sv
    rw [List.filter_filter, hg2.len]
    exact filter_len_mono (fun x _ h => by simp only [Bool.and_eq_true] at h; exact h.1)
  have h4 : ((List.range ls.length).filter (fun x => !dec T x)).length ≤ ((sv g).filter (fun x => !dec T x)).length := by
    unfold sv
    rw [List.filter_filter, hg.len]
    refine filter_len_mono (fun x hx h => ?_)
    simp only [Bool.and_eq_true, decide_eq_true_eq]
    refine ⟨h, ?_⟩
    rcases Int.lt_or_le (has g x) 0 with h5 | h5
    · have := dec_iff.2 (hT x (List.mem_range.1 hx) h5)
      rw [this] at h; cases h
    · exact h5
  rw [srv_sv, srv_sv, e1, e2]
  show (svT g2 T).length + _ ≤ (svT g T).length + _
  omega

theorem stuck_union {ls : List (List Int)} {g : List Int} : Stuck ls g (fun k => ∃ T : Nat → Prop, Stuck ls g T ∧ T k) := by
  rintro i hi ⟨T, hT, hTi⟩ p hp
  obtain ⟨h, h1, h2, h3⟩ := hT i hi hTi p hp
  exact ⟨h, h1, ⟨T, hT, h2⟩, h3⟩

theorem fl_max {P : Int} {ls : List (List Int)} (hls : ∀ l ∈ ls, ∀ p ∈ l, inP P p) {g : List Int} (hg : Good P ls g) :
    Good P ls (flF P ls g) ∧ (∀ i, i < ls.length → 0 ≤ has g i → 0 ≤ has (flF P ls g) i) ∧ ∀ g2, Good P ls g2 → srv g2 ≤ srv (flF P ls g) := by
  obtain ⟨h1, h2, h3⟩ := fl_inv hls hg ls.length (Nat.le_refl _)
  refine ⟨h1, h2, fun g2 hg2 => stuck_max h1 stuck_union (fun i hi hn => ?_) hg2⟩
  obtain ⟨T, t1, t2⟩ := h3 i hi hn
  exact ⟨T, t2, t1⟩

theorem good_none (P : Int) (hP : 0 ≤ P) (ls : List (List Int)) : Good P ls (List.replicate ls.length (-1)) := by
  have h : ∀ k, has (List.replicate ls.length (-1)) k = -1 := by
    intro k
    unfold has
    rw [List.getElem?_replicate]
    split <;> rfl
  refine ⟨by simp, fun k _ => by rw [h]; omega, fun k _ h0 => by rw [h] at h0; omega, fun i j _ _ h0 => by rw [h] at h0; omega⟩

/-- The most. -/
def most (P : Int) (ls : List (List Int)) : Nat := srv (flF P ls (List.replicate ls.length (-1)))

theorem most_spec {P : Int} (hP : 0 ≤ P) {ls : List (List Int)} (hls : ∀ l ∈ ls, ∀ p ∈ l, inP P p) : (∃ g, Good P ls g ∧ srv g = most P ls) ∧ ∀ g, Good P ls g → srv g ≤ most P ls := by
  obtain ⟨h1, _, h3⟩ := fl_max hls (good_none P hP ls)
  exact ⟨⟨_, h1, rfl⟩, h3⟩

theorem most_eq {P : Int} (hP : 0 ≤ P) {ls : List (List Int)} (hls : ∀ l ∈ ls, ∀ p ∈ l, inP P p) {m : Nat} (h1 : ∃ g, Good P ls g ∧ srv g = m) (h2 : ∀ g, Good P ls g → srv g ≤ m) : most P ls = m := by
  obtain ⟨⟨g, k1, k2⟩, k3⟩ := most_spec hP hls
  obtain ⟨g', k4, k5⟩ := h1
  have := h2 g k1
  have := k3 g' k4
  omega

end Go.Proofs.Ytlmbobbefgcolaa
