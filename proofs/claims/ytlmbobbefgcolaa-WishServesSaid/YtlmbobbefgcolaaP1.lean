/- Givings and covers, plainly: no giving serves more than a cover is large. No conditions. -/
import Derived.Test.YtlmbobbefgcolaaW4
namespace Go.Proofs.Ytlmbobbefgcolaa
open Go Go.Eng

/-- A list without repetition in another one is no longer. -/
theorem nodup_len {α : Type} [DecidableEq α] : ∀ {l m : List α}, l.Nodup → (∀ x ∈ l, x ∈ m) → l.length ≤ m.length
  | [], _, _, _ => by simp
  | a :: l, m, hn, h => by
    rw [List.nodup_cons] at hn
    have ha := h a (by simp)
    have ih := nodup_len (l := l) (m := m.erase a) hn.2 (fun x hx => by
      have : x ≠ a := fun e => hn.1 (e ▸ hx)
      exact (List.mem_erase_of_ne this).2 (h x (by simp [hx])))
    rw [List.length_erase_of_mem ha] at ih
    have : 0 < m.length := List.length_pos_of_mem ha
    simp only [List.length_cons]
    omega

/-- What an owner has. -/
def has (g : List Int) (k : Nat) : Int := (g[k]?).getD (-1)
theorem has_get {g : List Int} {k : Nat} {p : Int} (h : g[k]? = some p) : has g k = p := by simp [has, h]

theorem map_has (g : List Int) : (List.range g.length).map (has g) = g := by
  apply List.ext_getElem?
  intro i
  rw [List.getElem?_map]
  by_cases h : i < g.length
  · simp [h, has]
  · simp [h]

/-- The owners who are served. -/
def sv (g : List Int) : List Nat := (List.range g.length).filter (fun k => decide (0 ≤ has g k))
theorem mem_sv {g : List Int} {k : Nat} : k ∈ sv g ↔ k < g.length ∧ 0 ≤ has g k := by simp [sv]
theorem given_sv (g : List Int) : given g = (sv g).map (has g) := by
  unfold given sv
  conv => lhs; rw [← map_has g]
  rw [List.filter_map]
  rfl
theorem srv_sv (g : List Int) : srv g = (sv g).length := by
  unfold srv
  rw [List.countP_eq_length_filter]
  have := given_sv g
  unfold given at this
  rw [this, List.length_map]
theorem sv_nodup (g : List Int) : (sv g).Nodup := List.Pairwise.filter _ List.nodup_range

/-- What a right giving is. -/
structure Good (P : Int) (ls : List (List Int)) (g : List Int) : Prop where
  len : g.length = ls.length
  rng : ∀ k, k < ls.length → -1 ≤ has g k ∧ has g k < P
  wish : ∀ k, k < ls.length → 0 ≤ has g k → has g k ∈ lst ls k
  inj : ∀ i j, i < ls.length → j < ls.length → 0 ≤ has g i → has g i = has g j → i = j

theorem nodup_map_inj {α β : Type} {f : α → β} : ∀ {l : List α}, l.Nodup → ((l.map f).Nodup ↔ ∀ a ∈ l, ∀ b ∈ l, f a = f b → a = b)
  | [], _ => by simp
  | x :: l, hn => by
    rw [List.nodup_cons] at hn
    rw [List.map_cons, List.nodup_cons, nodup_map_inj hn.2]
    constructor
    · rintro ⟨h1, h2⟩ a ha b hb hab
      rcases List.mem_cons.1 ha with ea | ha'
      · rcases List.mem_cons.1 hb with eb | hb'
        · rw [ea, eb]
        · exact absurd (List.mem_map.2 ⟨b, hb', by rw [← hab, ea]⟩) h1
      · rcases List.mem_cons.1 hb with eb | hb'
        · exact absurd (List.mem_map.2 ⟨a, ha', by rw [hab, eb]⟩) h1
        · exact h2 a ha' b hb' hab
    · intro h
      refine ⟨fun hx => ?_, fun a ha b hb => h a (by simp [ha]) b (by simp [hb])⟩
      obtain ⟨b, hb, hab⟩ := List.mem_map.1 hx
      have := h b (by simp [hb]) x (by simp) hab
      subst this
      exact hn.1 hb

theorem lst_nat {ls : List (List Int)} {k : Nat} : lst ls (k : Int) = (ls[k]?).getD [] := by simp [lst]

theorem good_iff {P : Int} {ls : List (List Int)} {g : List Int} : gE P ls g = 0 ↔ vW P ls = 0 ∧ Good P ls g := by
  constructor
  · intro h
    unfold gE at h
    split at h
    · rename_i hv
      split at h
      · rename_i h1
        split at h
        · rename_i h2
          split at h
          · rename_i h3
            refine ⟨hv, h1.1, fun k hk => ?_, fun k hk h0 => ?_, fun i j hi hj h0 hij => ?_⟩
            · obtain ⟨p, hp⟩ : ∃ p, g[k]? = some p := ⟨_, List.getElem?_eq_getElem (by omega)⟩
              rw [has_get hp]
              exact h1.2 p (List.mem_of_getElem? hp)
            · obtain ⟨p, hp⟩ : ∃ p, g[k]? = some p := ⟨_, List.getElem?_eq_getElem (by omega)⟩
              obtain ⟨l, hl⟩ : ∃ l, ls[k]? = some l := ⟨_, List.getElem?_eq_getElem hk⟩
              rw [has_get hp] at h0 ⊢
              rw [lst_nat, hl]
              exact h2 _ (List.mem_of_getElem? (zip_get hp hl)) h0
            · rw [given_sv, nodup_map_inj (sv_nodup g)] at h3
              exact h3 i (mem_sv.2 ⟨by omega, h0⟩) j (mem_sv.2 ⟨by omega, by omega⟩) hij
          · cases h
        · cases h
      · cases h
    · rename_i hv; exact absurd h hv
  · rintro ⟨hv, hg⟩
    refine gE_0 hv ⟨hg.len, fun p hp => ?_⟩ (fun x hx => ?_) ?_
    · obtain ⟨k, hk, rfl⟩ := List.mem_iff_getElem.1 hp
      have := hg.rng k (by rw [← hg.len]; exact hk)
      rwa [has_get (List.getElem?_eq_getElem hk)] at this
    · obtain ⟨k, hk⟩ := List.mem_iff_getElem?.1 hx
      rw [List.getElem?_zip_eq_some] at hk
      have hlt : k < ls.length := (List.getElem?_eq_some_iff.1 hk.2).1
      intro h0
      have := hg.wish k hlt (by rw [has_get hk.1]; exact h0)
      rw [has_get hk.1, lst_nat, hk.2] at this
      exact this
    · rw [given_sv, nodup_map_inj (sv_nodup g)]
      intro a ha b hb hab
      rw [mem_sv] at ha hb
      exact hg.inj a b (by rw [← hg.len]; exact ha.1) (by rw [← hg.len]; exact hb.1) ha.2 hab

theorem filter_split {α : Type} (p : α → Bool) (l : List α) : l.length = (l.filter p).length + (l.filter (fun x => !p x)).length := by
  induction l with
  | nil => rfl
  | cons a l ih => by_cases h : p a <;> simp [h] <;> omega

/-- No giving serves more than a cover is large. -/
theorem meets {P : Int} {ls : List (List Int)} {g os ps : List Int} (hg : Good P ls g) (hc : cov ls os ps) : srv g ≤ os.length + ps.length := by
  rw [srv_sv, filter_split (fun k : Nat => decide ((k : Int) ∈ os)) (sv g)]
  have h1 : ((sv g).filter (fun k : Nat => decide ((k : Int) ∈ os))).length ≤ os.length := by
    have := nodup_len (l := ((sv g).filter (fun k : Nat => decide ((k : Int) ∈ os))).map (fun k : Nat => (k : Int))) (m := os)
      (by rw [nodup_map_inj (List.Pairwise.filter _ (sv_nodup g))]; intro a _ b _ h; omega)
      (fun x hx => by
        obtain ⟨k, hk, rfl⟩ := List.mem_map.1 hx
        simpa using (List.mem_filter.1 hk).2)
    simpa using this
  have h2 : ((sv g).filter (fun k : Nat => !decide ((k : Int) ∈ os))).length ≤ ps.length := by
    have := nodup_len (l := ((sv g).filter (fun k : Nat => !decide ((k : Int) ∈ os))).map (has g)) (m := ps)
      (by
        rw [nodup_map_inj (List.Pairwise.filter _ (sv_nodup g))]
        intro a ha b hb h
        have ha' := mem_sv.1 (List.mem_filter.1 ha).1
        have hb' := mem_sv.1 (List.mem_filter.1 hb).1
        exact hg.inj a b (by rw [← hg.len]; exact ha'.1) (by rw [← hg.len]; exact hb'.1) ha'.2 h)
      (fun x hx => by
        obtain ⟨k, hk, rfl⟩ := List.mem_map.1 hx
        have hk1 := mem_sv.1 (List.mem_filter.1 hk).1
        have hk2 : ¬ (k : Int) ∈ os := by simpa using (List.mem_filter.1 hk).2
        have hkl : k < ls.length := by rw [← hg.len]; exact hk1.1
        rcases hc k hkl with h | h
        · exact absurd h hk2
        · exact h _ (hg.wish k hkl hk1.2))
    simpa using this
  omega

theorem cvE_0 {P : Int} {ls : List (List Int)} {os ps : List Int} : cvE P ls os ps = 0 ↔ chE P ls os = 0 ∧ isS P ps ∧ cov ls os ps := by
  unfold cvE
  by_cases h1 : chE P ls os = 0
  · by_cases h2 : isS P ps
    · by_cases h3 : cov ls os ps <;> simp [h1, h2, h3]
    · simp [h1, h2]
  · simp [h1]

end Go.Proofs.Ytlmbobbefgcolaa
