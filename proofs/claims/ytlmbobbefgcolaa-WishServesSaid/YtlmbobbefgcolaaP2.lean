/- Givings, plainly: a giving that is filled by chains of changes serves the most. No conditions. -/
import Derived.Test.YtlmbobbefgcolaaP1
namespace Go.Proofs.Ytlmbobbefgcolaa
open Go Go.Eng

abbrev St := List Bool × List Int
/-- Whether a place has been seen. -/
def sn (b : List Bool) (p : Int) : Bool := (b[p.toNat]?).getD true

def goF (rec : Int → St → Bool × St) (i : Int) : List Int → St → Bool × St
  | [], s => (false, s)
  | p :: ps, s =>
    if sn s.1 p = true then goF rec i ps s
    else if fpos (fun y => decide (p = y)) s.2 < 0 then (true, (s.1.set p.toNat true, s.2.set i.toNat p))
    else if (rec (fpos (fun y => decide (p = y)) s.2) (s.1.set p.toNat true, s.2)).1 = true then
      (true, ((rec (fpos (fun y => decide (p = y)) s.2) (s.1.set p.toNat true, s.2)).2.1, (rec (fpos (fun y => decide (p = y)) s.2) (s.1.set p.toNat true, s.2)).2.2.set i.toNat p))
    else goF rec i ps (rec (fpos (fun y => decide (p = y)) s.2) (s.1.set p.toNat true, s.2)).2
/-- A chain of changes. -/
def chF (ls : List (List Int)) : Nat → Int → St → Bool × St
  | 0, _, s => (false, s)
  | m + 1, i, s => goF (chF ls m) i (lst ls i) s

def unseen (b : List Bool) : Nat := b.count false

theorem sn_set {b : List Bool} {p q : Int} (hq : 0 ≤ q) (hp : 0 ≤ p) : sn (b.set p.toNat true) q = (decide (q = p) || sn b q) := by
  unfold sn
  rw [List.getElem?_set]
  by_cases h : p.toNat = q.toNat
  · have : q = p := by omega
    subst this
    by_cases h2 : q.toNat < b.length <;> simp [h2]
  · have : q ≠ p := by omega
    simp [h, this]

theorem unseen_set {b : List Bool} {p : Int} (h : sn b p = false) : unseen (b.set p.toNat true) + 1 = unseen b := by
  unfold sn at h
  unfold unseen
  generalize p.toNat = k at *
  induction b generalizing k with
  | nil => simp at h
  | cons a b ih =>
    cases k with
    | zero =>
      simp at h
      subst h
      simp
    | succ k =>
      have := ih k (by simpa using h)
      rw [List.set_cons_succ]
      cases a <;> simp <;> omega

/-- What a call of the chain tells. -/
structure Post (P : Int) (ls : List (List Int)) (i : Int) (ps : List Int) (s : St) (r : Bool × St) : Prop where
  len : r.2.1.length = s.1.length
  mono : ∀ q, 0 ≤ q → sn s.1 q = true → sn r.2.1 q = true
  cnt : unseen r.2.1 ≤ unseen s.1
  no : r.1 = false → r.2.2 = s.2 ∧ (∀ p ∈ ps, sn r.2.1 p = true) ∧ ∀ p, 0 ≤ p → sn r.2.1 p = true → sn s.1 p = false → ∃ h : Nat, h < ls.length ∧ has s.2 h = p ∧ ∀ q ∈ lst ls h, sn r.2.1 q = true
  yes : r.1 = true → Good P ls r.2.2 ∧ (0 ≤ has r.2.2 i.toNat ∧ sn s.1 (has r.2.2 i.toNat) = false) ∧ ∀ k, k < ls.length → has r.2.2 k = has s.2 k ∨ (0 ≤ has r.2.2 k ∧ sn s.1 (has r.2.2 k) = false)

theorem has_set {g : List Int} {i k : Nat} {p : Int} (hi : i < g.length) : has (g.set i p) k = if k = i then p else has g k := by
  unfold has
  rw [List.getElem?_set]
  by_cases h : i = k
  · subst h; simp [hi]
  · have : k ≠ i := fun e => h e.symm
    simp [h, this]

theorem good_set {P : Int} {ls : List (List Int)} {g : List Int} (hg : Good P ls g) {i : Nat} {p : Int} (hi : i < ls.length) (hp : inP P p) (hw : p ∈ lst ls i) (hfree : ∀ k, k < ls.length → k ≠ i → has g k ≠ p) : Good P ls (g.set i p) := by
  have hi' : i < g.length := by rw [hg.len]; exact hi
  refine ⟨by simp [hg.len], fun k hk => ?_, fun k hk => ?_, fun a b ha hb => ?_⟩
  · rw [has_set hi']
    split
    · have := hp.1; have := hp.2; omega
    · exact hg.rng k hk
  · rw [has_set hi']
    split
    · rename_i h; subst h; intro _; exact hw
    · exact hg.wish k hk
  · rw [has_set hi', has_set hi']
    by_cases h1 : a = i
    · by_cases h2 : b = i
      · intro _ _; omega
      · rw [if_pos h1, if_neg h2]
        intro _ h; exact absurd h.symm (hfree b hb h2)
    · by_cases h2 : b = i
      · rw [if_neg h1, if_pos h2]
        intro _ h; exact absurd h (hfree a ha h1)
      · rw [if_neg h1, if_neg h2]
        exact hg.inj a b ha hb

theorem fpos_neg {p : Int} {g : List Int} (h : fpos (fun y => decide (p = y)) g < 0) : p ∉ g := by
  intro hp
  have := (fpos_iff (fun y => decide (p = y)) g).2 (by simpa using hp)
  omega

theorem fpos_get {p : Int} {g : List Int} (h : ¬ fpos (fun y => decide (p = y)) g < 0) : ∃ k : Nat, k < g.length ∧ fpos (fun y => decide (p = y)) g = k ∧ has g k = p := by
  unfold fpos at h ⊢
  cases hf : g.findIdx? (fun y => decide (p = y)) with
  | none => rw [hf] at h; simp at h
  | some k =>
    rw [List.findIdx?_eq_some_iff_getElem] at hf
    obtain ⟨h1, h2, _⟩ := hf
    have h3 : p = g[k] := by simpa using h2
    exact ⟨k, h1, rfl, by rw [h3]; exact has_get (List.getElem?_eq_getElem h1)⟩

theorem has_mem {g : List Int} {k : Nat} (hk : k < g.length) : has g k ∈ g := by
  rw [has_get (List.getElem?_eq_getElem hk)]; exact List.getElem_mem hk

theorem goF_spec {P : Int} {ls : List (List Int)} (hls : ∀ l ∈ ls, ∀ p ∈ l, inP P p) {rec : Int → St → Bool × St} {m : Nat}
    (hrec : ∀ (i : Int) (s : St), inP ls.length i → Good P ls s.2 → s.1.length = P.toNat → unseen s.1 < m → Post P ls i (lst ls i) s (rec i s)) {i : Int} (hi : inP ls.length i) :
    ∀ (ps : List Int) (s : St), (∀ p ∈ ps, p ∈ lst ls i ∧ inP P p) → Good P ls s.2 → s.1.length = P.toNat → unseen s.1 < m + 1 → Post P ls i ps s (goF rec i ps s)
  | [], s, _, _, _, _ => ⟨rfl, fun _ _ h => h, Nat.le_refl _, fun _ => ⟨rfl, by simp [goF], fun p hp h1 h2 => by simp [goF] at h1; rw [h1] at h2; cases h2⟩, fun h => by simp [goF] at h⟩
  | p :: ps, s, hps, hg, hlen, hcnt => by
    have hi0 : ((i.toNat : Nat) : Int) = i := by have := hi.1; omega
    have hil : i.toNat < ls.length := by have := hi.1; have := hi.2; omega
    have hp := hps p (by simp)
    have ih := fun s hg hlen hcnt => goF_spec hls hrec hi ps s (fun q hq => hps q (by simp [hq])) hg hlen hcnt
    unfold goF
    by_cases hsn : sn s.1 p = true
    · rw [if_pos hsn]
      have h := ih s hg hlen hcnt
      refine ⟨h.len, h.mono, h.cnt, fun e => ?_, h.yes⟩
      obtain ⟨h1, h2, h3⟩ := h.no e
      refine ⟨h1, fun q hq => ?_, h3⟩
      rcases List.mem_cons.1 hq with rfl | hq
      · exact h.mono _ hp.2.1 hsn
      · exact h2 q hq
    · rw [if_neg hsn]
      have hsn' : sn s.1 p = false := by simpa using hsn
      have hun := unseen_set hsn'
      have hmono1 : ∀ q, 0 ≤ q → sn s.1 q = true → sn (s.1.set p.toNat true) q = true := fun q hq h => by rw [sn_set hq hp.2.1, h, Bool.or_true]
      have hself : sn (s.1.set p.toNat true) p = true := by rw [sn_set hp.2.1 hp.2.1]; simp
      by_cases hf : fpos (fun y => decide (p = y)) s.2 < 0
      · rw [if_pos hf]
        have hnot := fpos_neg hf
        have hgs := good_set hg hil hp.2 (by rw [hi0]; exact hp.1) (fun k hk _ e => hnot (by rw [← e]; exact has_mem (by rw [hg.len]; exact hk)))
        have hi' : i.toNat < s.2.length := by rw [hg.len]; exact hil
        refine ⟨by simp, hmono1, by simp only; omega, fun e => by simp at e, fun _ => ⟨hgs, ?_, fun k hk => ?_⟩⟩
        · simp only
          rw [has_set hi', if_pos rfl]
          exact ⟨hp.2.1, hsn'⟩
        · simp only
          rw [has_set hi']
          split
          · exact .inr ⟨hp.2.1, hsn'⟩
          · exact .inl rfl
      · rw [if_neg hf]
        obtain ⟨h, hh1, hh2, hh3⟩ := fpos_get hf
        have hhl : h < ls.length := by rw [← hg.len]; exact hh1
        have hR := hrec (h : Int) (s.1.set p.toNat true, s.2) ⟨by omega, by omega⟩ hg (by simp [hlen]) (by simp only; omega)
        rw [hh2]
        generalize rec (h : Int) (s.1.set p.toNat true, s.2) = r at *
        by_cases hr : r.1 = true
        · rw [if_pos hr]
          obtain ⟨y1, y2, y3⟩ := hR.yes hr
          simp only at y2 y3
          rw [Int.toNat_natCast] at y2
          have hfree : ∀ k, k < ls.length → has r.2.2 k ≠ p := fun k hk e => by
            rcases y3 k hk with h4 | h4
            · have : k = h := hg.inj k h hk hhl (by rw [← h4, e]; exact hp.2.1) (by rw [← h4, e, hh3])
              subst this
              rw [e, hself] at y2
              cases y2.2
            · rw [e, hself] at h4; cases h4.2
          have hgs := good_set y1 hil hp.2 (by rw [hi0]; exact hp.1) (fun k hk _ => hfree k hk)
          have hi' : i.toNat < r.2.2.length := by rw [y1.len]; exact hil
          refine ⟨by simp only; rw [hR.len]; simp, fun q hq hs => hR.mono q hq (hmono1 q hq hs), by have := hR.cnt; simp only at *; omega, fun e => by simp at e, fun _ => ⟨hgs, ?_, fun k hk => ?_⟩⟩
          · simp only
            rw [has_set hi', if_pos rfl]
            exact ⟨hp.2.1, hsn'⟩
          · simp only
            rw [has_set hi']
            split
            · exact .inr ⟨hp.2.1, hsn'⟩
            · rcases y3 k hk with h4 | h4
              · exact .inl h4
              · refine .inr ⟨h4.1, ?_⟩
                cases hs : sn s.1 (has r.2.2 k) with
                | false => rfl
                | true => rw [hmono1 _ h4.1 hs] at h4; cases h4.2
        · rw [if_neg hr]
          have hr' : r.1 = false := by simpa using hr
          obtain ⟨n1, n2, n3⟩ := hR.no hr'
          simp only at n1 n3
          have hc := hR.cnt
          simp only at hc
          have h := ih r.2 (by rw [n1]; exact hg) (by rw [hR.len]; simp [hlen]) (by omega)
          have hm2 : ∀ q, 0 ≤ q → sn s.1 q = true → sn r.2.1 q = true := fun q hq hs => hR.mono q hq (hmono1 q hq hs)
          refine ⟨by rw [h.len, hR.len]; simp, fun q hq hs => h.mono q hq (hm2 q hq hs), by have := h.cnt; omega, fun e => ?_, fun e => ?_⟩
          · obtain ⟨k1, k2, k3⟩ := h.no e
            refine ⟨by rw [k1, n1], fun q hq => ?_, fun q hq h1 h2 => ?_⟩
            · rcases List.mem_cons.1 hq with rfl | hq
              · exact h.mono _ hp.2.1 (hR.mono _ hp.2.1 hself)
              · exact k2 q hq
            · by_cases h3 : sn r.2.1 q = true
              · have up : ∀ (t : Nat), (∀ w ∈ lst ls t, sn r.2.1 w = true) → t < ls.length → ∀ w ∈ lst ls t, sn (goF rec i ps r.2).2.1 w = true := fun t ht htl w hw => by
                  refine h.mono w ?_ (ht w hw)
                  have hml : lst ls t ∈ ls := by
                    rw [lst_nat, List.getElem?_eq_getElem htl]; exact List.getElem_mem htl
                  exact (hls _ hml w hw).1
                by_cases h4 : q = p
                · subst h4
                  exact ⟨_, hhl, hh3, up _ n2 hhl⟩
                · obtain ⟨t, t1, t2, t3⟩ := n3 q hq h3 (by rw [sn_set hq hp.2.1, h2]; simp [h4])
                  exact ⟨t, t1, t2, up t t3 t1⟩
              · obtain ⟨t, t1, t2, t3⟩ := k3 q hq h1 (by simpa using h3)
                exact ⟨t, t1, by rw [← n1]; exact t2, t3⟩
          · obtain ⟨k1, k2, k3⟩ := h.yes e
            have unsee : ∀ q, 0 ≤ q → sn r.2.1 q = false → sn s.1 q = false := fun q hq h1 => by
              cases hs : sn s.1 q with
              | false => rfl
              | true => rw [hm2 q hq hs] at h1; cases h1
            refine ⟨k1, ⟨k2.1, unsee _ k2.1 k2.2⟩, fun k hk => ?_⟩
            rcases k3 k hk with h4 | h4
            · exact .inl (by rw [h4, n1])
            · exact .inr ⟨h4.1, unsee _ h4.1 h4.2⟩

theorem lst_in {P : Int} {ls : List (List Int)} (hls : ∀ l ∈ ls, ∀ p ∈ l, inP P p) {i : Int} {p : Int} (h : p ∈ lst ls i) : inP P p := by
  unfold lst at h
  cases hl : ls[i.toNat]? with
  | none => rw [hl] at h; simp at h
  | some l => rw [hl] at h; exact hls l (List.mem_of_getElem? hl) p h

theorem chF_spec {P : Int} {ls : List (List Int)} (hls : ∀ l ∈ ls, ∀ p ∈ l, inP P p) : ∀ (m : Nat) (i : Int) (s : St), inP ls.length i → Good P ls s.2 → s.1.length = P.toNat → unseen s.1 < m → Post P ls i (lst ls i) s (chF ls m i s)
  | 0, _, _, _, _, _, h => by omega
  | m + 1, i, s, hi, hg, hlen, hcnt => goF_spec hls (chF_spec hls m) hi (lst ls i) s (fun p hp => ⟨hp, lst_in hls hp⟩) hg hlen hcnt

/-- Owners all of whose places are held by owners among them. -/
def Stuck (ls : List (List Int)) (g : List Int) (T : Nat → Prop) : Prop := ∀ i, i < ls.length → T i → ∀ p ∈ lst ls i, ∃ h, h < ls.length ∧ T h ∧ has g h = p

/-- A list without repetition in another one that is no longer has all of it. -/
theorem nodup_cover {α : Type} [DecidableEq α] {l m : List α} (hn : l.Nodup) (h : ∀ x ∈ l, x ∈ m) (hl : m.length ≤ l.length) : ∀ x ∈ m, x ∈ l := by
  intro x hx
  rcases Decidable.em (x ∈ l) with h1 | h1
  · exact h1
  · have := nodup_len hn (m := m.erase x) (fun y hy => (List.mem_erase_of_ne (show y ≠ x from fun e => h1 (e ▸ hy))).2 (h y hy))
    rw [List.length_erase_of_mem hx] at this
    have := List.length_pos_of_mem hx
    omega

noncomputable def dec (T : Nat → Prop) (k : Nat) : Bool := @decide (T k) (Classical.propDecidable _)
theorem dec_iff {T : Nat → Prop} {k : Nat} : dec T k = true ↔ T k := by unfold dec; exact @decide_eq_true_iff _ (Classical.propDecidable _)

/-- The served ones among some, and what they wish. -/
noncomputable def svT (g : List Int) (T : Nat → Prop) : List Nat := (sv g).filter (dec T)
noncomputable def wT (P : Int) (ls : List (List Int)) (T : Nat → Prop) : List Int := (nums P.toNat).filter (fun p => @decide (∃ i, i < ls.length ∧ T i ∧ p ∈ lst ls i) (Classical.propDecidable _))
theorem mem_wT {P : Int} {ls : List (List Int)} {T : Nat → Prop} {p : Int} : p ∈ wT P ls T ↔ inP P p ∧ ∃ i, i < ls.length ∧ T i ∧ p ∈ lst ls i := by
  unfold wT inP
  rw [List.mem_filter, mem_nums]
  rw [@decide_eq_true_iff _ (Classical.propDecidable _)]
  constructor
  · rintro ⟨h1, h2⟩; exact ⟨by omega, h2⟩
  · rintro ⟨h1, h2⟩; exact ⟨by omega, h2⟩
theorem mem_svT {P : Int} {ls : List (List Int)} {g : List Int} (hg : Good P ls g) {T : Nat → Prop} {k : Nat} : k ∈ svT g T ↔ k < ls.length ∧ 0 ≤ has g k ∧ T k := by
  unfold svT
  rw [List.mem_filter, mem_sv, dec_iff, hg.len, and_assoc]
theorem nums_nodup (n : Nat) : (nums n).Nodup := by
  unfold nums
  rw [nodup_map_inj List.nodup_range]
  intro a _ b _ h
  omega

theorem svT_map_nodup {P : Int} {ls : List (List Int)} {g : List Int} (hg : Good P ls g) (T : Nat → Prop) : ((svT g T).map (has g)).Nodup := by
  rw [nodup_map_inj (show (svT g T).Nodup from List.Pairwise.filter _ (sv_nodup g))]
  intro a ha b hb h
  have ha := (mem_svT hg).1 ha
  have hb := (mem_svT hg).1 hb
  exact hg.inj a b ha.1 hb.1 ha.2.1 h

theorem svT_sub {P : Int} {ls : List (List Int)} {g : List Int} (hg : Good P ls g) (T : Nat → Prop) : ∀ p ∈ (svT g T).map (has g), p ∈ wT P ls T := by
  intro p hp
  obtain ⟨k, hk, rfl⟩ := List.mem_map.1 hp
  have hk := (mem_svT hg).1 hk
  exact mem_wT.2 ⟨⟨hk.2.1, (hg.rng k hk.1).2⟩, k, hk.1, hk.2.2, hg.wish k hk.1 hk.2.1⟩

theorem stuck_len {P : Int} {ls : List (List Int)} {g : List Int} (hg : Good P ls g) {T : Nat → Prop} (hs : Stuck ls g T) : (wT P ls T).length ≤ (svT g T).length := by
  have := nodup_len (l := wT P ls T) (m := (svT g T).map (has g)) (List.Pairwise.filter _ (nums_nodup _)) (fun p hp => by
    obtain ⟨h1, i, hi, hT, hpi⟩ := mem_wT.1 hp
    obtain ⟨h, h2, h3, h4⟩ := hs i hi hT p hpi
    exact List.mem_map.2 ⟨h, (mem_svT hg).2 ⟨h2, by rw [h4]; exact h1.1, h3⟩, h4⟩)
  simpa using this

theorem filter_len_mono {α : Type} {p q : α → Bool} {l : List α} (h : ∀ x ∈ l, p x = true → q x = true) : (l.filter p).length ≤ (l.filter q).length := by
  induction l with
  | nil => simp
  | cons a l ih =>
    have ih := ih (fun x hx => h x (by simp [hx]))
    have ha := h a (by simp)
    simp only [List.filter_cons]
    by_cases h1 : p a = true
    · rw [if_pos h1, if_pos (ha h1)]; simpa using ih
    · rw [if_neg h1]
      split
      · simp only [List.length_cons]; omega
      · exact ih

theorem svT_filter {P : Int} {ls : List (List Int)} {g : List Int} (hg : Good P ls g) (T : Nat → Prop) : svT g T = (List.range ls.length).filter (fun k => decide (0 ≤ has g k) && dec T k) := by
  unfold svT sv
  rw [List.filter_filter, hg.len]
  congr 1
  funext k
  exact Bool.and_comm _ _

theorem stuck_keep {P : Int} {ls : List (List Int)} (hls : ∀ l ∈ ls, ∀ p ∈ l, inP P p) {g g' : List Int} (hg : Good P ls g) (hg' : Good P ls g') (hk : ∀ k, k < ls.length → 0 ≤ has g k → 0 ≤ has g' k) {T : Nat → Prop} (hs : Stuck ls g T) : Stuck ls g' T := by
  have h1 := stuck_len hg hs
  have h2 : (svT g T).length ≤ (svT g' T).length := by
    rw [svT_filter hg, svT_filter hg']
    refine filter_len_mono (fun k hk' h => ?_)
    simp only [Bool.and_eq_true, decide_eq_true_eq] at h ⊢
    exact ⟨hk k (List.mem_range.1 hk') h.1, h.2⟩
  intro i hi hT p hp
  have hc := nodup_cover (svT_map_nodup hg' T) (svT_sub hg' T) (by rw [List.length_map]; omega) p
  have hin : inP P p := lst_in hls hp
  obtain ⟨k, hk1, hk2⟩ := List.mem_map.1 (hc (mem_wT.2 ⟨hin, i, hi, hT, hp⟩))
  have hk1 := (mem_svT hg').1 hk1
  exact ⟨k, hk1.1, hk1.2.2, hk2⟩

end Go.Proofs.Ytlmbobbefgcolaa
