/- What the law's proof rests on, part 6: for all that is said in each line. No conditions. -/
import Derived.Test.YtmblehbjedpjoaaRows
import Derived.Test.YtmblehbjedpjoaaDbC
namespace Go.Proofs.Ytmblehbjedpjoaa
open Go Go.Eng
theorem tot_app (f g : List (Int × Int)) : tot (f ++ g) = tot f + tot g := by simp [tot, sumZ]
theorem len_app (f g : List (Int × Int)) : len (f ++ g) = len f + len g := by simp [len, sumZ]
theorem tot_cons (z : Int × Int) (f : List (Int × Int)) : tot (z :: f) = z.1 * z.2 + tot f := by simp [tot, sumZ]
theorem len_cons (z : Int × Int) (f : List (Int × Int)) : len (z :: f) = z.1 + len f := by simp [len, sumZ]
theorem len_rev : ∀ f : List (Int × Int), len f.reverse = len f
  | [] => rfl
  | z :: f => by rw [List.reverse_cons, len_app, len_rev f, len_cons, len_cons]; simp [len, sumZ]; omega
theorem tot_rev : ∀ f : List (Int × Int), tot f.reverse = tot f
  | [] => rfl
  | z :: f => by rw [List.reverse_cons, tot_app, tot_rev f, tot_cons, tot_cons]; simp [tot, sumZ]; omega
theorem upTo_shift (c : Int) (x : Rat) : ∀ (f : List (Int × Int)) (b : Int), upTo (b + c) f (x + (c : Rat)) = upTo b f x
  | [], _ => rfl
  | z :: f, b => by
    have e : b + c + z.1 = b + z.1 + c := by omega
    rw [upTo, upTo, e, upTo_shift c x f (b + z.1)]
    have h : clamp (x + (c : Rat)) ((b + c : Int) : Rat) ((b + z.1 + c : Int) : Rat) = clamp x (b : Rat) ((b + z.1 : Int) : Rat) + (c : Rat) := by
      rw [Rat.intCast_add, Rat.intCast_add _ c]
      unfold clamp
      grind
    rw [h, Rat.intCast_add b c]
    grind
theorem clamp_turn (x a l : Rat) (hl : 0 ≤ l) : l - clamp (a + l - x) 0 l = clamp x a (a + l) - a := by
  unfold clamp
  grind
theorem upTo_rev (x : Rat) : ∀ (f : List (Int × Int)), (∀ z ∈ f, 1 ≤ z.1) → upTo 0 f.reverse x = ((tot f : Int) : Rat) - upTo 0 f (((len f : Int) : Rat) - x)
  | [], _ => by simp [upTo, tot, sumZ, Rat.sub_self]
  | z :: f, h => by
    have hz := h z (by simp)
    have ih := upTo_rev x f (fun y hy => h y (by simp [hy]))
    rw [List.reverse_cons, upTo_append, Int.zero_add, len_rev, ih, upTo, upTo, Rat.add_zero, tot_cons, len_cons, upTo]
    have hs := upTo_shift z.1 (((len f : Int) : Rat) - x) f 0
    have e1 : ((len f : Int) : Rat) - x + (z.1 : Rat) = ((z.1 + len f : Int) : Rat) - x := by rw [Rat.intCast_add]; grind
    rw [e1] at hs
    rw [Int.zero_add] at hs ⊢
    rw [hs]
    have hc := clamp_turn x ((len f : Int) : Rat) (z.1 : Rat) (cast_nonneg (by omega))
    have e2 : ((len f : Int) : Rat) + (z.1 : Rat) - x = ((z.1 + len f : Int) : Rat) - x := by rw [Rat.intCast_add]; grind
    have e3 : ((len f : Int) : Rat) + (z.1 : Rat) = ((len f + z.1 : Int) : Rat) := by rw [Rat.intCast_add]
    rw [e2, e3, ← int0] at hc
    rw [← hc]
    simp only [Rat.intCast_add, Rat.intCast_mul]
    have := int0
    generalize clamp ((z.1 : Rat) + ((len f : Int) : Rat) - x) ((0 : Int) : Rat) (z.1 : Rat) = c at *
    generalize upTo 0 f (((len f : Int) : Rat) - x) = d at *
    grind
theorem KG.rev {L : List Int} {V : List (List Int)} (h : KG L V) : KG L.reverse (V.map List.reverse) := by
  refine ⟨by simpa using h.l1, by simpa using h.l6, by simpa using h.v1, by simpa using h.v5, fun n hn => h.ls n (by simpa using hn), fun r hr => ?_, fun r hr y hy => ?_, fun r hr => ?_⟩
  · obtain ⟨s, hs, rfl⟩ := List.mem_map.1 hr
    simpa using h.rl s hs
  · obtain ⟨s, hs, rfl⟩ := List.mem_map.1 hr
    exact h.rv s hs y (by simpa using hy)
  · obtain ⟨s, hs, rfl⟩ := List.mem_map.1 hr
    obtain ⟨y, hy, h0⟩ := h.rp s hs
    exact ⟨y, by simpa using hy, h0⟩
theorem sum_rev (L : List Int) : L.reverse.sum = L.sum := List.sum_reverse L
theorem zip_rev : ∀ {L r : List Int}, r.length = L.length → L.reverse.zip r.reverse = (L.zip r).reverse
  | [], [], _ => rfl
  | a :: L, b :: r, h => by
    have h1 : r.length = L.length := by simpa using h
    rw [List.reverse_cons, List.reverse_cons, List.zip_append (by simp [h1]), zip_rev h1]
    show _ = ((a, b) :: L.zip r).reverse
    rw [List.reverse_cons]
    rfl
theorem q_den (q : Rat) : q * ((q.den : Int) : Rat) = (q.num : Rat) := by
  have e := R_self q
  have h := Rat.div_mul_cancel (a := (q.num : Rat)) (cast_ne (d := (q.den : Int)) (by have := q.den_pos; omega))
  rw [← e] at h
  exact h
/-- A good place. -/
theorem isK_q {L : List Int} {V : List (List Int)} (hg : KG L V) {r : Int × Int} (h : isK L r) : rp (qr r) = r ∧ (0 ≤ qr r ∧ qr r ≤ ((L.sum : Int) : Rat)) ∧ ((qr r).den : Int) ≤ 1000000 := by
  obtain ⟨_, k2, k3, k4⟩ := isK_R hg h
  obtain ⟨s, hs⟩ : ∃ s, s ∈ V := List.exists_mem_of_length_pos (by have := hg.v1; omega)
  have h1 := (k4 s hs).le
  rw [hg.lenz hs] at h1
  exact ⟨by unfold rp; rw [k2, k3], h1, by rw [k3]; exact h.1.1.2⟩
theorem isK_tp {L : List Int} {V : List (List Int)} (hg : KG L V) {r : Int × Int} (h : isK L r) : isK L.reverse (rp (((L.sum : Int) : Rat) - qr r)) ∧ qr (rp (((L.sum : Int) : Rat) - qr r)) = ((L.sum : Int) : Rat) - qr r := by
  obtain ⟨_, ⟨h1, h2⟩, h3⟩ := isK_q hg h
  refine rp_isK hg.rev (by grind) (by rw [sum_rev]; grind) ?_
  have hd : Dv ((qr r).den : Int) (((L.sum : Int) : Rat) - qr r) := (Dv_int _ _).sub ⟨(qr r).num, q_den _⟩
  have := Dv_den (by have := (qr r).den_pos; omega) hd
  omega
theorem chain_rev {L : List Int} {V : List (List Int)} (hg : KG L V) : ∀ (pcs : List Pc) (a : Int × Int) (acc : List Pc), chainR L a pcs → isK L a → chainR L.reverse (rp (((L.sum : Int) : Rat) - qr a)) acc → chainR L.reverse (0, 1) ((pcs.map (tp L.sum)).reverse ++ acc)
  | [], a, acc, h, _, h2 => by
    have ha : a = (L.sum, 1) := h
    subst ha
    rw [qr_one, Rat.sub_self] at h2
    exact h2
  | p :: ps, a, acc, h, ha, h2 => by
    obtain ⟨h3, h4, h5, h6, h7⟩ := h
    rw [List.map_cons, List.reverse_cons, List.append_assoc]
    refine chain_rev hg ps p.s _ h7 h5 ?_
    obtain ⟨i1, i2⟩ := isK_tp hg h4
    obtain ⟨j1, j2⟩ := isK_tp hg h5
    refine ⟨rfl, j1, i1, ?_, ?_⟩
    · show ¬ qr (rp (((L.sum : Int) : Rat) - qr p.r)) < qr (rp (((L.sum : Int) : Rat) - qr p.s))
      rw [i2, j2]
      grind
    · show chainR L.reverse (rp (((L.sum : Int) : Rat) - qr p.r)) acc
      rw [h3]
      exact h2
structure TR (L : List Int) (V : List (List Int)) (pcs : List Pc) : Prop where
  cp : CP L.reverse (V.map List.reverse) (trnP L.sum pcs)
  w : ∀ p ∈ trnP L.sum pcs, W p.r.1 ∧ W p.s.1
theorem isK_W {L : List Int} {V : List (List Int)} (hg : KG L V) {r : Int × Int} (a : isK L r) : W r.1 := by
  have hLs := hg.sum
  have m1 := Int.mul_le_mul hLs.2 a.1.1.2 (by have := a.1.1.1; omega) (by omega : (0 : Int) ≤ 120)
  have := a.2
  constructor <;> omega
/-- The pieces that the knife makes. -/
theorem knE_facts {L : List Int} {V : List (List Int)} (hg : KG L V) : ((knE L V).map Pc.o).Perm (rg0 V.length) ∧ chainR L (0, 1) (knE L V) ∧ ∃ E : Int, (0 < E ∧ E ≤ 1000000) ∧ ∀ q ∈ knE L V, Dv E (qr q.r) ∧ Dv E (qr q.s) := by
  have hlen : (rg0 V.length).length = V.length := by simp [rg0]
  obtain ⟨h1, h2, ⟨E, hE, _, hEq⟩, _⟩ := kn_facts hg V.length (rg0 V.length) ((0 : Int) : Rat) V.length hlen hg.v1 (KI.start hg)
  exact ⟨h1, h2, E, hE, hEq⟩
theorem knE_isK {L : List Int} {V : List (List Int)} (hg : KG L V) {p : Pc} (hp : p ∈ knE L V) : isK L p.r ∧ isK L p.s ∧ qr p.r ≤ qr p.s := (knE_ok hg).1.at hp
theorem trn_ok {L : List Int} {V : List (List Int)} (hg : KG L V) : TR L V (knE L V) := by
  obtain ⟨h1, h2, E, hE, hD⟩ := knE_facts hg
  have hin : ∀ q ∈ trnP L.sum (knE L V), ∃ p ∈ knE L V, q = tp L.sum p := fun q hq => by
    unfold trnP at hq
    obtain ⟨p, hp, rfl⟩ := List.mem_map.1 hq
    exact ⟨p, List.mem_reverse.1 hp, rfl⟩
  refine ⟨CP_of hg.rev ?_ ?_ hE ?_, ?_⟩
  · have e : (trnP L.sum (knE L V)).map Pc.o = ((knE L V).map Pc.o).reverse := by
      unfold trnP
      rw [List.map_map, ← List.map_reverse]
      rfl
    rw [e, List.length_map]
    exact (List.reverse_perm _).trans h1
  · have := chain_rev hg (knE L V) (0, 1) [] h2 (isK_ends hg).1 (by
      rw [qr_zero]
      show rp (((L.sum : Int) : Rat) - ((0 : Int) : Rat)) = (L.reverse.sum, 1)
      rw [sum_rev, int0, show ((L.sum : Int) : Rat) - 0 = ((L.sum : Int) : Rat) by grind]
      rfl)
    rw [List.append_nil, ← List.map_reverse] at this
    exact this
  · intro q hq
    obtain ⟨p, hp, rfl⟩ := hin q hq
    obtain ⟨i1, i2, _⟩ := knE_isK hg hp
    obtain ⟨d1, d2⟩ := hD p hp
    refine ⟨?_, ?_⟩
    · show Dv E (qr (rp (((L.sum : Int) : Rat) - qr p.s)))
      rw [(isK_tp hg i2).2]
      exact (Dv_int _ _).sub d2
    · show Dv E (qr (rp (((L.sum : Int) : Rat) - qr p.r)))
      rw [(isK_tp hg i1).2]
      exact (Dv_int _ _).sub d1
  · intro q hq
    obtain ⟨p, hp, rfl⟩ := hin q hq
    obtain ⟨i1, i2, _⟩ := knE_isK hg hp
    exact ⟨isK_W hg.rev (isK_tp hg i2).1, isK_W hg.rev (isK_tp hg i1).1⟩
theorem rg0_nodup (n : Nat) : (rg0 n).Nodup := by
  unfold rg0
  refine List.Pairwise.map _ ?_ List.nodup_range
  intro a b h e
  exact h (by omega)
theorem same_o {pcs : List Pc} (h : (pcs.map Pc.o).Nodup) {p q : Pc} (hp : p ∈ pcs) (hq : q ∈ pcs) (e : p.o = q.o) : p = q := by
  obtain ⟨i, hi, rfl⟩ := List.mem_iff_getElem.1 hp
  obtain ⟨j, hj, rfl⟩ := List.mem_iff_getElem.1 hq
  have : i = j := by
    have h1 := List.pairwise_iff_getElem.1 h
    rcases Nat.lt_trichotomy i j with h2 | h2 | h2
    · exact absurd (by rw [List.getElem_map, List.getElem_map]; exact e) (h1 i j (by simpa using hi) (by simpa using hj) h2)
    · exact h2
    · exact absurd (by rw [List.getElem_map, List.getElem_map]; exact e.symm) (h1 j i (by simpa using hj) (by simpa using hi) h2)
  subst this
  rfl
theorem trn_own {L : List Int} {V : List (List Int)} (hg : KG L V) {o : Nat} {k : Nat} {p : Pc} (h : At (knE L V) o k p) : ∃ j, At (trnP L.sum (knE L V)) o j (tp L.sum p) := by
  obtain ⟨h1, _⟩ := knE_facts hg
  have hn : ((knE L V).map Pc.o).Nodup := h1.nodup_iff.2 (rg0_nodup _)
  obtain ⟨hm, ho⟩ := h.o
  obtain ⟨j, q, hq⟩ := At.ex (pcs := trnP L.sum (knE L V)) (o := (o : Int)) ⟨tp L.sum p, by unfold trnP; exact List.mem_map_of_mem (List.mem_reverse.2 hm), ho⟩
  obtain ⟨qm, qo⟩ := hq.o
  unfold trnP at qm
  obtain ⟨p2, hp2, rfl⟩ := List.mem_map.1 qm
  have : p2 = p := same_o hn (List.mem_reverse.1 hp2) hm (by rw [ho]; exact qo)
  subst this
  exact ⟨j, hq⟩
theorem pwo_rev {L : List Int} {V : List (List Int)} (hg : KG L V) {r : List Int} (hr : r ∈ V) {p : Pc} (h1 : isK L p.r) (h2 : isK L p.s) : pwo (L.reverse.zip r.reverse) (tp L.sum p) = pwo (L.zip r) p := by
  have hz := zip_rev (hg.rl r hr)
  have hpos := all_pos (hg.gd hr).2
  unfold pwo
  show upTo 0 _ (qr (rp (((L.sum : Int) : Rat) - qr p.r))) - upTo 0 _ (qr (rp (((L.sum : Int) : Rat) - qr p.s))) = _
  rw [hz, upTo_rev _ _ hpos, upTo_rev _ _ hpos, hg.lenz hr, (isK_tp hg h1).2, (isK_tp hg h2).2]
  have e : ∀ a b : Rat, a - (a - b) = b := fun a b => by grind
  rw [e, e]
  grind
theorem rowOf_rev {V : List (List Int)} {o : Nat} (ho : o < V.length) : rowOf (V.map List.reverse) (o : Int) = (rowOf V o).reverse := by
  unfold rowOf
  simp [List.getElem?_eq_getElem ho]
theorem parts_rev {L : List Int} {V : List (List Int)} (hg : KG L V) {P : Nat → Pc} (hP : ∀ o : Nat, o < V.length → ∃ k, At (knE L V) o k (P o)) : prts L.reverse (V.map List.reverse) (fun o => tp L.sum (P o)) = prts L V P := by
  unfold prts
  rw [List.length_map]
  refine List.map_congr_left (fun o ho => ?_)
  have ho' : o < V.length := List.mem_range.1 ho
  have hr : rowOf V (o : Int) ∈ V := by
    unfold rowOf
    simp [List.getElem?_eq_getElem ho']
  obtain ⟨k, hk⟩ := hP o ho'
  obtain ⟨i1, i2, _⟩ := knE_isK hg hk.o.1
  show pwo (L.reverse.zip (rowOf (V.map List.reverse) (o : Int))) _ / ((tot (L.reverse.zip (rowOf (V.map List.reverse) (o : Int))) : Int) : Rat) = _
  rw [rowOf_rev ho', pwo_rev hg hr i1 i2, zip_rev (hg.rl _ hr), tot_rev]
theorem KG.alike {L : List Int} {V : List (List Int)} (h : KG L V) {r : List Int} (hr : r ∈ V) : KG L (List.replicate V.length r) := by
  have e : ∀ s ∈ List.replicate V.length r, s = r := fun s hs => (List.mem_replicate.1 hs).2
  exact ⟨h.l1, h.l6, by simpa using h.v1, by simpa using h.v5, h.ls, fun s hs => by rw [e s hs]; exact h.rl r hr, fun s hs => by rw [e s hs]; exact h.rv r hr, fun s hs => by rw [e s hs]; exact h.rp r hr⟩
theorem cqI_alike {L r : List Int} {n : Nat} {o : Nat} (ho : o < n) (p : Rat) : cqI L (List.replicate n r) p o = cq (L.zip r) p n := by
  unfold cqI fOf rowOf
  simp [ho]
theorem bestF_same (c : Int → Rat) (q : Rat) : ∀ (l : List Int) (out : Int), c out = q → (∀ i ∈ l, c i = q) → bestF c out l = out
  | [], _, _, _ => rfl
  | i :: l, out, h, hl => by
    rw [bestF, if_neg (by rw [h, hl i (by simp)]; exact Rat.lt_irrefl), bestF_same c q l out h (fun j hj => hl j (by simp [hj]))]
/-- One of the pieces. -/
def alP (L : List Int) (f : List (Int × Int)) (n k : Nat) : Pc := ⟨k, rp (eqA f n k), if k + 1 = n then (L.sum, 1) else rp (eqA f n (k + 1))⟩
theorem rg0_drop (n k : Nat) (h : k < n) : (rg0 n).drop k = (k : Int) :: (rg0 n).drop (k + 1) := by
  have hl : k < (rg0 n).length := by simp [rg0, h]
  rw [List.drop_eq_getElem_cons hl]
  congr 1
  simp [rg0]
theorem pw_eqW (f : List (Int × Int)) (n : Nat) : pw f 1 n = eqW f n 1 := by
  unfold pw eqW
  rw [Int.mul_comm]
  rfl
theorem without_rg0 (n k : Nat) : without ((k : Int) :: (rg0 n).drop (k + 1)) k = (rg0 n).drop (k + 1) := by
  unfold without
  rw [List.filter_cons, if_neg (by simp), List.filter_eq_self]
  intro x hx
  have hnd : ((k : Int) :: (rg0 n).drop (k + 1)).Nodup ∨ n ≤ k := by
    rcases Nat.lt_or_ge k n with h | h
    · exact .inl (rg0_drop n k h ▸ (rg0_nodup n).sublist (List.drop_sublist _ _))
    · exact .inr h
  rcases hnd with h | h
  · have := (List.nodup_cons.1 h).1
    have hne : ¬ x = (k : Int) := fun e => this (e ▸ hx)
    simp [hne]
  · rw [List.drop_eq_nil_of_le (by simp [rg0]; omega)] at hx
    cases hx
theorem kn_alike {L r : List Int} {n : Nat} (hn : 0 < n ∧ n ≤ 8) (hf : good (L.zip r)) : ∀ (m k : Nat), k + m = n → 1 ≤ m → kn L (List.replicate n r) m ((rg0 n).drop k) (eqA (L.zip r) n k) = ((List.range n).drop k).map (alP L (L.zip r) n)
  | 0, _, _, h => by omega
  | 1, k, h, _ => by
    rw [rg0_drop n k (by omega), List.drop_eq_nil_of_le (by simp [rg0]; omega), kn]
    have hl : k < (List.range n).length := by simp; omega
    rw [List.drop_eq_getElem_cons hl, List.drop_eq_nil_of_le (by simp; omega)]
    simp [alP, show k + 1 = n by omega]
  | m + 2, k, h, _ => by
    have hst := eqA_step hf hn (show k + 1 ≤ n by omega)
    have hc : ∀ o : Nat, o < n → cqI L (List.replicate n r) (eqA (L.zip r) n k) o = eqA (L.zip r) n (k + 1) := fun o ho => by
      rw [cqI_alike ho, cq, pw_eqW, hst]
      rfl
    have hmem : ∀ i ∈ rg0 n, cqI L (List.replicate n r) (eqA (L.zip r) n k) i = eqA (L.zip r) n (k + 1) := fun i hi => by
      obtain ⟨o, ho, rfl⟩ := List.mem_map.1 hi
      exact hc o (List.mem_range.1 ho)
    have hb : bestF (cqI L (List.replicate n r) (eqA (L.zip r) n k)) (k : Int) ((rg0 n).drop k) = k := bestF_same _ (eqA (L.zip r) n (k + 1)) _ _ (hc k (by omega)) (fun i hi => hmem i (List.mem_of_mem_drop hi))
    have hl : k < (List.range n).length := by simp; omega
    have hk : (List.range n)[k] = k := by simp
    have ih := kn_alike hn hf (m + 1) (k + 1) (by omega) (by omega)
    rw [List.drop_eq_getElem_cons hl, hk, List.map_cons, ← ih]
    rw [rg0_drop n k (by omega), rg0_drop n (k + 1) (by omega)] at hb ⊢
    rw [kn, hb, hc k (by omega), ← rg0_drop n (k + 1) (by omega), without_rg0]
    simp only [alP, if_neg (show ¬ k + 1 = n by omega)]
theorem eqA_0 {f : List (Int × Int)} (n : Nat) : eqA f n 0 = ((0 : Int) : Rat) := by
  unfold eqA
  have z : eqW f n 0 = 0 := by unfold eqW; rw [show (((0 : Nat) : Int) * tot f : Int) = 0 from Int.zero_mul _, int0, Rat.div_def, Rat.zero_mul]
  rw [z]
  unfold plc
  rfl
theorem knE_alike {L : List Int} {V : List (List Int)} (hg : KG L V) {r : List Int} (hr : r ∈ V) : knE L (List.replicate V.length r) = (List.range V.length).map (alP L (L.zip r) V.length) := by
  have h1 := hg.v1
  have h5 := hg.v5
  have := kn_alike (L := L) (r := r) (n := V.length) (by omega) (hg.gd hr) V.length 0 (by omega) h1
  unfold knE
  rw [List.length_replicate, ← eqA_0 (f := L.zip r) V.length]
  exact this
/-- Each piece is worth the same. -/
theorem alP_worth {L : List Int} {V : List (List Int)} (hg : KG L V) {r : List Int} (hr : r ∈ V) {p : Pc} (hp : p ∈ knE L (List.replicate V.length r)) : pwo (L.zip r) p = eqW (L.zip r) V.length 1 := by
  have h1 := hg.v1
  have h5 := hg.v5
  have hn : 0 < V.length ∧ V.length ≤ 8 := by omega
  rw [knE_alike hg hr] at hp
  obtain ⟨k, hk, rfl⟩ := List.mem_map.1 hp
  have hk' : k < V.length := List.mem_range.1 hk
  have hf := hg.gd hr
  have hq : ∀ j, j ≤ V.length → qr (rp (eqA (L.zip r) V.length j)) = eqA (L.zip r) V.length j := fun j hj => by
    obtain ⟨_, ⟨a1, a2⟩, _, a4⟩ := eqA_facts hf hn hj
    exact (rp_isK hg a1 (by rw [← hg.lenz hr]; exact a2) (by omega)).2
  have hst : ∀ j, j + 1 ≤ V.length → eqW (L.zip r) V.length (j + 1) - eqW (L.zip r) V.length j = eqW (L.zip r) V.length 1 := fun j hj => by
    unfold eqW
    have : (((j + 1 : Nat) : Int) * tot (L.zip r) : Int) = (j : Int) * tot (L.zip r) + ((1 : Nat) : Int) * tot (L.zip r) := by rw [Int.natCast_add, Int.add_mul]
    rw [this, Rat.intCast_add]
    generalize (((j : Int) * tot (L.zip r) : Int) : Rat) = p at *
    generalize ((((1 : Nat) : Int) * tot (L.zip r) : Int) : Rat) = q at *
    generalize (((V.length : Int)) : Rat) = d at *
    grind
  have hend : upTo 0 (L.zip r) (qr (alP L (L.zip r) V.length k).s) = eqW (L.zip r) V.length (k + 1) := by
    unfold alP
    by_cases h : k + 1 = V.length
    · simp only [if_pos h]
      rw [qr_one, upTo_end hg hr, h]
      unfold eqW
      have hd : (((V.length : Int)) : Rat) ≠ 0 := cast_ne (by omega)
      rw [Rat.intCast_mul]
      generalize (((V.length : Int)) : Rat) = d at *
      grind
    · simp only [if_neg h]
      rw [hq _ (by omega), (eqA_facts hf hn (show k + 1 ≤ V.length by omega)).2.2.1]
  unfold pwo
  rw [hend]
  show _ - upTo 0 (L.zip r) (qr (rp (eqA (L.zip r) V.length k))) = _
  rw [hq _ (by omega), (eqA_facts hf hn (show k ≤ V.length by omega)).2.2.1, hst k (by omega)]
end Go.Proofs.Ytmblehbjedpjoaa

namespace Go.Proofs.Ytmblehbjedpjoaa
open Go Go.Eng
/-- selion/seliontop.TopKnife [loop [1, 7, 16, 17, 18], loop [1, 7, 16, 17, 19], loop [7, 20, 21, 23]] -/
def m9 : MFun := ⟨241, [1, 3, 12, 16], [.mov (.s 2)],
 .seq (.ops [⟨(some 1), some (.junk), none, false, .pu (.bnew (.s 0))⟩,
   ⟨(some 2), some undefA, none, false, .pu (.mov (.c (.bool false)))⟩])
 (.seq (.seq (.ops [⟨(some 25), some undefA, none, false, .ha (.blds 1 2 [.int .i64 0] [(0, 1, (.c (.int .i64 3))), (1, 1, (.c (.int .i64 4)))])⟩,
   ⟨(some 26), some undefA, none, false, .ha (.blds 1 2 [.int .i64 0] [(0, 1, (.c (.int .i64 2))), (1, 1, (.c (.int .i64 0)))])⟩,
   ⟨(some 27), some undefA, none, false, .ha (.blds 1 1 [.nilS] [(0, 1, (.s 26))])⟩,
   ⟨(some 28), some undefA, none, false, .pu (.build [.nilS, .nilS] [(0, 1, (.s 25)), (1, 1, (.s 27))])⟩,
   ⟨(some 29), some undefA, none, false, .call 22 [(.s 28), (.c (.int .i64 0))]⟩,
   ⟨(some 24), some undefA, none, false, .pu (.mov (.s 29))⟩,
   ⟨(some 30), some undefA, none, false, .pu (.extr 0 (.s 24))⟩,
   ⟨(some 31), some undefA, none, false, .pu (.extr 1 (.s 24))⟩,
   ⟨(some 3), some (.junk), none, false, .pu (.bnew (.c (.agg [.int .i64 0, .int .i64 0])))⟩,
   ⟨(some 3), none, none, false, .pu (.bset none 3 0 2 (.s 30))⟩,
   ⟨(some 4), some undefA, none, false, .pu (.mov (.s 31))⟩])
 (.seq (.ops [⟨(some 32), some undefA, none, false, .pu (.mov (.s 4))⟩,
   ⟨(some 33), some undefA, none, false, .pu (.bin .neq (.s 32) (.c (.int .i64 0)))⟩,
   ⟨(some 34), some undefA, none, false, .pu (.mov (.s 33))⟩,
   ⟨(some 35), some undefA, (some (34, false)), false, .pu (.bget none 3 0 2 true)⟩,
   ⟨(some 36), some undefA, (some (34, false)), false, .pu (.build [.int .i64 0, .int .i64 0] [(0, 1, (.c (.int .i64 3))), (1, 1, (.c (.int .i64 2)))])⟩,
   ⟨(some 37), some undefA, (some (34, false)), false, .pu (.eqs true [true, true] (.s 35) (.s 36))⟩,
   ⟨(some 38), some undefA, none, false, .pu (.pick (.s 34) (.c (.bool true)) (.s 37))⟩])
 (.cond (.s 38) (.seq (.ops [⟨(some 2), some undefA, none, false, .pu (.mov (.c (.bool false)))⟩])
  (.ret))
 (.skip))))
 (.seq (.seq (.ops [⟨(some 39), some undefA, none, false, .pu (.bget none 1 0 2 true)⟩,
   ⟨(some 40), some undefA, none, false, .call 13 [(.s 39)]⟩])
 (.cond (.s 40) (.seq (.ops [⟨(some 2), some undefA, none, false, .pu (.mov (.c (.bool true)))⟩])
  (.ret))
 (.skip)))
 (.seq (.ops [⟨(some 42), some undefA, none, false, .pu (.bget none 1 0 2 true)⟩,
   ⟨(some 43), some undefA, none, false, .call 32 [(.s 42)]⟩,
   ⟨(some 41), some undefA, none, false, .pu (.mov (.s 43))⟩,
   ⟨(some 44), some undefA, none, false, .pu (.extr 0 (.s 41))⟩,
   ⟨(some 45), some undefA, none, false, .pu (.extr 1 (.s 41))⟩,
   ⟨(some 5), some undefA, none, false, .pu (.mov (.s 44))⟩,
   ⟨(some 6), some undefA, none, false, .pu (.mov (.s 45))⟩])
 (.seq (.seq (.ops [⟨(some 46), some undefA, none, false, .pu (.mov (.s 6))⟩,
   ⟨(some 47), some undefA, none, false, .pu (.bin .neq (.s 46) (.c (.int .i64 0)))⟩])
 (.cond (.s 47) (.seq (.ops [⟨(some 48), some undefA, none, false, .pu (.bget none 1 0 2 true)⟩,
    ⟨(some 49), some undefA, none, false, .call 26 [(.s 48)]⟩,
    ⟨(some 50), some undefA, none, false, .pu (.mov (.s 6))⟩,
    ⟨(some 51), some undefA, none, false, .pu (.bin .eql (.s 49) (.s 50))⟩,
    ⟨(some 52), some undefA, none, false, .pu (.mov (.s 51))⟩,
    ⟨(some 53), some undefA, (some (52, true)), false, .pu (.mov (.s 5))⟩,
    ⟨(some 54), some undefA, (some (52, true)), false, .pu (.len (.s 53))⟩,
    ⟨(some 55), some undefA, (some (52, true)), false, .pu (.bin .eql (.s 54) (.c (.int .i64 0)))⟩,
    ⟨(some 56), some undefA, none, false, .pu (.pick (.s 52) (.s 55) (.c (.bool false)))⟩,
    ⟨(some 2), some undefA, none, false, .pu (.mov (.s 56))⟩])
  (.ret))
 (.skip)))
 (.seq (.ops [⟨(some 57), some undefA, none, false, .pu (.badr none 1)⟩,
   ⟨(some 58), some undefA, none, false, .pu (.bget (some 57) 1 1 1 false)⟩,
   ⟨(some 59), some undefA, none, false, .pu (.len (.s 58))⟩,
   ⟨(some 7), some undefA, none, false, .pu (.mov (.s 59))⟩])
 (.seq (.ops [⟨(some 61), some undefA, none, false, .pu (.bget none 1 0 2 true)⟩,
   ⟨(some 62), some undefA, none, false, .pu (.mov (.s 5))⟩,
   ⟨(some 63), some undefA, none, false, .call 31 [(.s 61), (.s 62)]⟩,
   ⟨(some 60), some undefA, none, false, .pu (.mov (.s 63))⟩,
   ⟨(some 64), some undefA, none, false, .pu (.extr 0 (.s 60))⟩,
   ⟨(some 65), some undefA, none, false, .pu (.extr 1 (.s 60))⟩,
   ⟨(some 8), some undefA, none, false, .pu (.mov (.s 64))⟩,
   ⟨(some 9), some undefA, none, false, .pu (.mov (.s 65))⟩])
 (.seq (.ops [⟨(some 67), some undefA, none, false, .pu (.bget none 1 0 2 true)⟩,
   ⟨(some 68), some undefA, none, false, .pu (.mov (.s 5))⟩,
   ⟨(some 69), some undefA, none, false, .call 34 [(.s 67), (.s 68)]⟩,
   ⟨(some 66), some undefA, none, false, .pu (.mov (.s 69))⟩,
   ⟨(some 70), some undefA, none, false, .pu (.extr 0 (.s 66))⟩,
   ⟨(some 71), some undefA, none, false, .pu (.extr 1 (.s 66))⟩,
   ⟨(some 10), some undefA, none, false, .pu (.mov (.s 70))⟩,
   ⟨(some 11), some undefA, none, false, .pu (.mov (.s 71))⟩])
 (.seq (.seq (.ops [⟨(some 72), some undefA, none, false, .pu (.mov (.s 5))⟩,
   ⟨(some 73), some undefA, none, false, .pu (.len (.s 72))⟩,
   ⟨(some 74), some undefA, none, false, .pu (.mov (.s 7))⟩,
   ⟨(some 75), some undefA, none, false, .pu (.bin .neq (.s 73) (.s 74))⟩,
   ⟨(some 76), some undefA, none, false, .pu (.mov (.s 75))⟩,
   ⟨(some 77), some undefA, (some (76, false)), false, .pu (.mov (.s 9))⟩,
   ⟨(some 78), some undefA, (some (76, false)), false, .pu (.bin .neq (.s 77) (.c (.int .i64 0)))⟩,
   ⟨(some 79), some undefA, none, false, .pu (.pick (.s 76) (.c (.bool true)) (.s 78))⟩,
   ⟨(some 80), some undefA, none, false, .pu (.mov (.s 79))⟩,
   ⟨(some 81), some undefA, (some (80, false)), false, .pu (.mov (.s 8))⟩,
   ⟨(some 82), some undefA, (some (80, false)), false, .pu (.len (.s 81))⟩,
   ⟨(some 83), some undefA, (some (80, false)), false, .pu (.mov (.s 7))⟩,
   ⟨(some 84), some undefA, (some (80, false)), false, .pu (.bin .neq (.s 82) (.s 83))⟩,
   ⟨(some 85), some undefA, none, false, .pu (.pick (.s 80) (.c (.bool true)) (.s 84))⟩,
   ⟨(some 86), some undefA, none, false, .pu (.mov (.s 85))⟩,
   ⟨(some 87), some undefA, (some (86, false)), false, .pu (.mov (.s 11))⟩,
   ⟨(some 88), some undefA, (some (86, false)), false, .pu (.bin .neq (.s 87) (.c (.int .i64 0)))⟩,
   ⟨(some 89), some undefA, none, false, .pu (.pick (.s 86) (.c (.bool true)) (.s 88))⟩,
   ⟨(some 90), some undefA, none, false, .pu (.mov (.s 89))⟩,
   ⟨(some 91), some undefA, (some (90, false)), false, .pu (.mov (.s 10))⟩,
   ⟨(some 92), some undefA, (some (90, false)), false, .pu (.not (.s 91))⟩,
   ⟨(some 93), some undefA, none, false, .pu (.pick (.s 90) (.c (.bool true)) (.s 92))⟩])
 (.cond (.s 93) (.seq (.ops [⟨(some 2), some undefA, none, false, .pu (.mov (.c (.bool false)))⟩])
  (.ret))
 (.skip)))
 (.seq (.ops [⟨(some 95), some undefA, none, false, .pu (.bget none 1 0 2 true)⟩,
   ⟨(some 96), some undefA, none, false, .call 38 [(.s 95)]⟩,
   ⟨(some 94), some undefA, none, false, .pu (.mov (.s 96))⟩,
   ⟨(some 97), some undefA, none, false, .pu (.extr 0 (.s 94))⟩,
   ⟨(some 98), some undefA, none, false, .pu (.extr 1 (.s 94))⟩,
   ⟨(some 12), some (.junk), none, false, .pu (.bnew (.c (.agg [.nilS, .nilS])))⟩,
   ⟨(some 12), none, none, false, .pu (.bset none 12 0 2 (.s 97))⟩,
   ⟨(some 9), some undefA, none, false, .pu (.mov (.s 98))⟩])
 (.seq (.ops [⟨(some 100), some undefA, none, false, .pu (.bget none 1 0 2 true)⟩,
   ⟨(some 101), some undefA, none, false, .pu (.mov (.s 5))⟩,
   ⟨(some 102), some undefA, none, false, .call 39 [(.s 100), (.s 101)]⟩,
   ⟨(some 99), some undefA, none, false, .pu (.mov (.s 102))⟩,
   ⟨(some 103), some undefA, none, false, .pu (.extr 0 (.s 99))⟩,
   ⟨(some 104), some undefA, none, false, .pu (.extr 1 (.s 99))⟩,
   ⟨(some 13), some undefA, none, false, .pu (.mov (.s 103))⟩,
   ⟨(some 11), some undefA, none, false, .pu (.mov (.s 104))⟩])
 (.seq (.ops [⟨(some 106), some undefA, none, false, .pu (.bget none 12 0 2 true)⟩,
   ⟨(some 107), some undefA, none, false, .pu (.mov (.s 13))⟩,
   ⟨(some 108), some undefA, none, false, .call 31 [(.s 106), (.s 107)]⟩,
   ⟨(some 105), some undefA, none, false, .pu (.mov (.s 108))⟩,
   ⟨(some 109), some undefA, none, false, .pu (.extr 0 (.s 105))⟩,
   ⟨(some 110), some undefA, none, false, .pu (.extr 1 (.s 105))⟩,
   ⟨(some 14), some undefA, none, false, .pu (.mov (.s 109))⟩,
   ⟨(some 15), some undefA, none, false, .pu (.mov (.s 110))⟩])
 (.seq (.seq (.ops [⟨(some 111), some undefA, none, false, .pu (.mov (.s 9))⟩,
   ⟨(some 112), some undefA, none, false, .pu (.bin .neq (.s 111) (.c (.int .i64 0)))⟩,
   ⟨(some 113), some undefA, none, false, .pu (.mov (.s 112))⟩,
   ⟨(some 114), some undefA, (some (113, false)), false, .pu (.mov (.s 11))⟩,
   ⟨(some 115), some undefA, (some (113, false)), false, .pu (.bin .neq (.s 114) (.c (.int .i64 0)))⟩,
   ⟨(some 116), some undefA, none, false, .pu (.pick (.s 113) (.c (.bool true)) (.s 115))⟩,
   ⟨(some 117), some undefA, none, false, .pu (.mov (.s 116))⟩,
   ⟨(some 118), some undefA, (some (117, false)), false, .pu (.mov (.s 15))⟩,
   ⟨(some 119), some undefA, (some (117, false)), false, .pu (.bin .neq (.s 118) (.c (.int .i64 0)))⟩,
   ⟨(some 120), some undefA, none, false, .pu (.pick (.s 117) (.c (.bool true)) (.s 119))⟩,
   ⟨(some 121), some undefA, none, false, .pu (.mov (.s 120))⟩,
   ⟨(some 122), some undefA, (some (121, false)), false, .pu (.mov (.s 14))⟩,
   ⟨(some 123), some undefA, (some (121, false)), false, .pu (.mov (.s 8))⟩,
   ⟨(some 124), some undefA, (some (121, false)), false, .call 17 [(.s 122), (.s 123)]⟩,
   ⟨(some 125), some undefA, (some (121, false)), false, .pu (.not (.s 124))⟩,
   ⟨(some 126), some undefA, none, false, .pu (.pick (.s 121) (.c (.bool true)) (.s 125))⟩])
 (.cond (.s 126) (.seq (.ops [⟨(some 2), some undefA, none, false, .pu (.mov (.c (.bool false)))⟩])
  (.ret))
 (.skip)))
 (.seq (.ops [⟨(some 127), some undefA, none, false, .pu (.bget none 1 0 2 true)⟩,
   ⟨(some 128), some undefA, none, false, .call 40 [(.s 127)]⟩,
   ⟨(some 16), some (.junk), none, false, .pu (.bnew (.c (.agg [.nilS, .nilS])))⟩,
   ⟨(some 16), none, none, false, .pu (.bset none 16 0 2 (.s 128))⟩])
 (.seq (.ops [⟨(some 17), some undefA, none, false, .pu (.mov (.c (.nilS)))⟩])
 (.seq (.seq (.ops [⟨(some 18), some undefA, none, false, .pu (.mov (.c (.int .i64 0)))⟩])
 (.block 0 (.loop (.seq (.seq (.ops [⟨(some 129), some undefA, none, false, .pu (.mov (.s 18))⟩,
     ⟨(some 130), some undefA, none, false, .pu (.badr none 1)⟩,
     ⟨(some 131), some undefA, none, false, .pu (.bget (some 130) 1 0 1 false)⟩,
     ⟨(some 132), some undefA, none, false, .pu (.len (.s 131))⟩,
     ⟨(some 133), some undefA, none, false, .pu (.bin .lss (.s 129) (.s 132))⟩])
   (.cond (.s 133) (.skip)
   (.exit 0)))
   (.seq (.block 1 (.ops [⟨(some 136), some undefA, none, true, .pu (.mov (.s 17))⟩,
      ⟨(some 137), some undefA, none, true, .pu (.badr none 1)⟩,
      ⟨(some 138), some undefA, none, true, .pu (.bget (some 137) 1 0 1 false)⟩,
      ⟨(some 139), some undefA, none, true, .pu (.mov (.s 18))⟩,
      ⟨(some 140), some undefA, none, true, .pu (.idx 1 (.s 138) (.s 139))⟩,
      ⟨(some 141), some undefA, none, true, .ld (.ld 1 false (.s 140))⟩,
      ⟨(some 142), some undefA, none, true, .pu (.badr none 1)⟩,
      ⟨(some 143), some undefA, none, true, .pu (.bget (some 142) 1 1 1 false)⟩,
      ⟨(some 144), some undefA, none, true, .pu (.idx 1 (.s 143) (.c (.int .i64 0)))⟩,
      ⟨(some 145), some undefA, none, true, .ld (.ld 1 false (.s 144))⟩,
      ⟨(some 146), some undefA, none, true, .pu (.mov (.s 18))⟩,
      ⟨(some 147), some undefA, none, true, .pu (.idx 1 (.s 145) (.s 146))⟩,
      ⟨(some 148), some undefA, none, true, .ld (.ld 1 false (.s 147))⟩,
      ⟨(some 149), some undefA, none, false, .pu (.build [.int .i64 0, .int .i64 0] [(0, 1, (.s 141)), (1, 1, (.s 148))])⟩,
      ⟨(some 150), some undefA, none, false, .ha (.blds 2 1 [.int .i64 0, .int .i64 0] [(0, 2, (.s 149))])⟩,
      ⟨(some 151), some undefA, none, false, .ha (.app 2 (.s 136) (.s 150))⟩,
      ⟨(some 17), some undefA, none, false, .pu (.mov (.s 151))⟩]))
   (.ops [⟨(some 134), some undefA, none, false, .pu (.mov (.s 18))⟩,
     ⟨(some 135), some undefA, none, false, .pu (.bin .add (.s 134) (.c (.int .i64 1)))⟩,
     ⟨(some 18), some undefA, none, false, .pu (.mov (.s 135))⟩]))))))
 (.seq (.seq (.ops [⟨(some 19), some undefA, none, false, .pu (.mov (.c (.int .i64 0)))⟩])
 (.block 2 (.loop (.seq (.seq (.ops [⟨(some 152), some undefA, none, false, .pu (.mov (.s 19))⟩,
     ⟨(some 153), some undefA, none, false, .pu (.mov (.s 7))⟩,
     ⟨(some 154), some undefA, none, false, .pu (.bin .lss (.s 152) (.s 153))⟩])
   (.cond (.s 154) (.skip)
   (.exit 2)))
   (.seq (.block 3 (.ops [⟨(some 157), some undefA, none, true, .pu (.badr none 16)⟩,
      ⟨(some 158), some undefA, none, true, .pu (.bget (some 157) 16 1 1 false)⟩,
      ⟨(some 159), some undefA, none, true, .pu (.mov (.s 19))⟩,
      ⟨(some 160), some undefA, none, true, .ha (.blds 1 0 [.int .i64 0] [])⟩,
      ⟨(some 161), some undefA, none, false, .pu (.badr none 1)⟩,
      ⟨(some 162), some undefA, none, false, .pu (.bget (some 161) 1 1 1 false)⟩,
      ⟨(some 163), some undefA, none, false, .pu (.idx 1 (.s 162) (.c (.int .i64 0)))⟩,
      ⟨(some 164), some undefA, none, true, .ld (.ld 1 false (.s 163))⟩,
      ⟨(some 165), some undefA, none, false, .ha (.app 1 (.s 160) (.s 164))⟩,
      ⟨(some 166), some undefA, none, false, .pu (.idx 1 (.s 158) (.s 159))⟩,
      ⟨none, some undefA, none, false, .ha (.st 1 (.s 166) (.s 165))⟩]))
   (.ops [⟨(some 155), some undefA, none, false, .pu (.mov (.s 19))⟩,
     ⟨(some 156), some undefA, none, false, .pu (.bin .add (.s 155) (.c (.int .i64 1)))⟩,
     ⟨(some 19), some undefA, none, false, .pu (.mov (.s 156))⟩]))))))
 (.seq (.ops [⟨(some 168), some undefA, none, false, .pu (.mov (.s 17))⟩,
   ⟨(some 169), some undefA, none, false, .pu (.mov (.s 7))⟩,
   ⟨(some 170), some undefA, none, false, .call 41 [(.s 168), (.s 169)]⟩,
   ⟨(some 167), some undefA, none, false, .pu (.mov (.s 170))⟩,
   ⟨(some 171), some undefA, none, false, .pu (.extr 0 (.s 167))⟩,
   ⟨(some 172), some undefA, none, false, .pu (.extr 1 (.s 167))⟩,
   ⟨(some 20), some undefA, none, false, .pu (.mov (.s 171))⟩,
   ⟨(some 9), some undefA, none, false, .pu (.mov (.s 172))⟩])
 (.seq (.ops [⟨(some 174), some undefA, none, false, .pu (.bget none 16 0 2 true)⟩,
   ⟨(some 175), some undefA, none, false, .call 32 [(.s 174)]⟩,
   ⟨(some 173), some undefA, none, false, .pu (.mov (.s 175))⟩,
   ⟨(some 176), some undefA, none, false, .pu (.extr 0 (.s 173))⟩,
   ⟨(some 177), some undefA, none, false, .pu (.extr 1 (.s 173))⟩,
   ⟨(some 21), some undefA, none, false, .pu (.mov (.s 176))⟩,
   ⟨(some 11), some undefA, none, false, .pu (.mov (.s 177))⟩])
 (.seq (.ops [⟨(some 179), some undefA, none, false, .pu (.bget none 16 0 2 true)⟩,
   ⟨(some 180), some undefA, none, false, .pu (.mov (.s 21))⟩,
   ⟨(some 181), some undefA, none, false, .call 42 [(.s 179), (.s 180)]⟩,
   ⟨(some 178), some undefA, none, false, .pu (.mov (.s 181))⟩,
   ⟨(some 182), some undefA, none, false, .pu (.extr 0 (.s 178))⟩,
   ⟨(some 183), some undefA, none, false, .pu (.extr 1 (.s 178))⟩,
   ⟨(some 22), some undefA, none, false, .pu (.mov (.s 182))⟩,
   ⟨(some 15), some undefA, none, false, .pu (.mov (.s 183))⟩])
 (.seq (.seq (.ops [⟨(some 184), some undefA, none, false, .pu (.mov (.s 9))⟩,
   ⟨(some 185), some undefA, none, false, .pu (.bin .neq (.s 184) (.c (.int .i64 0)))⟩,
   ⟨(some 186), some undefA, none, false, .pu (.mov (.s 185))⟩,
   ⟨(some 187), some undefA, (some (186, false)), false, .pu (.mov (.s 11))⟩,
   ⟨(some 188), some undefA, (some (186, false)), false, .pu (.bin .neq (.s 187) (.c (.int .i64 0)))⟩,
   ⟨(some 189), some undefA, none, false, .pu (.pick (.s 186) (.c (.bool true)) (.s 188))⟩,
   ⟨(some 190), some undefA, none, false, .pu (.mov (.s 189))⟩,
   ⟨(some 191), some undefA, (some (190, false)), false, .pu (.mov (.s 15))⟩,
   ⟨(some 192), some undefA, (some (190, false)), false, .pu (.bin .neq (.s 191) (.c (.int .i64 0)))⟩,
   ⟨(some 193), some undefA, none, false, .pu (.pick (.s 190) (.c (.bool true)) (.s 192))⟩,
   ⟨(some 194), some undefA, none, false, .pu (.mov (.s 193))⟩,
   ⟨(some 195), some undefA, (some (194, false)), false, .pu (.mov (.s 22))⟩,
   ⟨(some 196), some undefA, (some (194, false)), false, .pu (.len (.s 195))⟩,
   ⟨(some 197), some undefA, (some (194, false)), false, .pu (.bin .gtr (.s 196) (.c (.int .i64 0)))⟩,
   ⟨(some 198), some undefA, none, false, .pu (.pick (.s 194) (.c (.bool true)) (.s 197))⟩,
   ⟨(some 199), some undefA, none, false, .pu (.mov (.s 198))⟩,
   ⟨(some 200), some undefA, (some (199, false)), false, .pu (.mov (.s 21))⟩,
   ⟨(some 201), some undefA, (some (199, false)), false, .pu (.len (.s 200))⟩,
   ⟨(some 202), some undefA, (some (199, false)), false, .pu (.mov (.s 7))⟩,
   ⟨(some 203), some undefA, (some (199, false)), false, .pu (.bin .neq (.s 201) (.s 202))⟩,
   ⟨(some 204), some undefA, none, false, .pu (.pick (.s 199) (.c (.bool true)) (.s 203))⟩,
   ⟨(some 205), some undefA, none, false, .pu (.mov (.s 204))⟩,
   ⟨(some 206), some undefA, (some (205, false)), false, .pu (.mov (.s 20))⟩,
   ⟨(some 207), some undefA, (some (205, false)), false, .pu (.len (.s 206))⟩,
   ⟨(some 208), some undefA, (some (205, false)), false, .pu (.mov (.s 7))⟩,
   ⟨(some 209), some undefA, (some (205, false)), false, .pu (.bin .sub (.s 208) (.c (.int .i64 1)))⟩,
   ⟨(some 210), some undefA, (some (205, false)), false, .pu (.bin .neq (.s 207) (.s 209))⟩,
   ⟨(some 211), some undefA, none, false, .pu (.pick (.s 205) (.c (.bool true)) (.s 210))⟩])
 (.cond (.s 211) (.seq (.ops [⟨(some 2), some undefA, none, false, .pu (.mov (.c (.bool false)))⟩])
  (.ret))
 (.skip)))
 (.seq (.seq (.ops [⟨(some 23), some undefA, none, false, .pu (.mov (.c (.int .i64 0)))⟩])
 (.block 4 (.loop (.seq (.seq (.ops [⟨(some 212), some undefA, none, false, .pu (.mov (.s 23))⟩,
     ⟨(some 213), some undefA, none, false, .pu (.mov (.s 7))⟩,
     ⟨(some 214), some undefA, none, false, .pu (.bin .lss (.s 212) (.s 213))⟩])
   (.cond (.s 214) (.skip)
   (.exit 4)))
   (.seq (.block 5 (.seq (.ops [⟨(some 217), some undefA, none, false, .pu (.mov (.s 21))⟩,
      ⟨(some 218), some undefA, none, false, .pu (.mov (.s 23))⟩,
      ⟨(some 219), some undefA, none, false, .pu (.idx 5 (.s 217) (.s 218))⟩,
      ⟨(some 220), some undefA, none, false, .pu (.fad 0 (.s 219))⟩,
      ⟨(some 221), some undefA, none, true, .ld (.ld 1 false (.s 220))⟩,
      ⟨(some 222), some undefA, none, true, .pu (.mov (.s 23))⟩,
      ⟨(some 223), some undefA, none, false, .pu (.bin .neq (.s 221) (.s 222))⟩,
      ⟨(some 224), some undefA, none, false, .pu (.mov (.s 223))⟩,
      ⟨(some 225), some undefA, (some (224, false)), false, .pu (.mov (.s 23))⟩,
      ⟨(some 226), some undefA, (some (224, false)), false, .pu (.bin .gtr (.s 225) (.c (.int .i64 0)))⟩,
      ⟨(some 227), some undefA, (some (224, false)), false, .pu (.mov (.s 226))⟩,
      ⟨(some 228), some undefA, (some (227, true)), true, .pu (.mov (.s 21))⟩,
      ⟨(some 229), some undefA, (some (227, true)), true, .pu (.mov (.s 23))⟩,
      ⟨(some 230), some undefA, (some (227, true)), true, .pu (.idx 5 (.s 228) (.s 229))⟩,
      ⟨(some 231), some undefA, (some (227, true)), true, .pu (.fad 1 (.s 230))⟩,
      ⟨(some 232), some undefA, (some (227, true)), true, .ld (.ld 2 true (.s 231))⟩,
      ⟨(some 233), some undefA, (some (227, true)), true, .pu (.mov (.s 20))⟩,
      ⟨(some 234), some undefA, (some (227, true)), true, .pu (.mov (.s 23))⟩,
      ⟨(some 235), some undefA, (some (227, true)), true, .pu (.bin .sub (.s 234) (.c (.int .i64 1)))⟩,
      ⟨(some 236), some undefA, (some (227, true)), true, .pu (.idx 2 (.s 233) (.s 235))⟩,
      ⟨(some 237), some undefA, (some (227, true)), true, .ld (.ld 2 true (.s 236))⟩,
      ⟨(some 238), some undefA, (some (227, true)), false, .pu (.eqs true [true, true] (.s 232) (.s 237))⟩,
      ⟨(some 239), some undefA, (some (224, false)), false, .pu (.pick (.s 227) (.s 238) (.c (.bool false)))⟩,
      ⟨(some 240), some undefA, none, false, .pu (.pick (.s 224) (.c (.bool true)) (.s 239))⟩])
    (.cond (.s 240) (.seq (.ops [⟨(some 2), some undefA, none, false, .pu (.mov (.c (.bool false)))⟩])
     (.ret))
    (.skip))))
   (.ops [⟨(some 215), some undefA, none, false, .pu (.mov (.s 23))⟩,
     ⟨(some 216), some undefA, none, false, .pu (.bin .add (.s 215) (.c (.int .i64 1)))⟩,
     ⟨(some 23), some undefA, none, false, .pu (.mov (.s 216))⟩]))))))
 (.seq (.ops [⟨(some 2), some undefA, none, false, .pu (.mov (.c (.bool true)))⟩])
 (.ret)))))))))))))))))))))))⟩
theorem t9 : trF Try.prog [1, 3, 12, 16] [] Try.f9 = some m9 := by kernel_rfl
end Go.Proofs.Ytmblehbjedpjoaa

namespace Go.Proofs.Ytmblehbjedpjoaa
open Go Go.Eng
theorem app_fresh {α : Type} {es : Nat} {e : α → List AV} {B : AHeap} {y : AV} {ys : List α} (hy : Ls es e B y ys) {n : Nat} (hn : B[n]? = some (.cells true [])) (h0 : 0 < ys.length) (hl : ys.length ≤ lim) :
    appA es B (.sl es n 0 0 true) y = some (.sl es B.length 0 ys.length false, B ++ [.cells true (ys.flatMap e)]) := by
  unfold appA
  rw [hy.hc]
  have : ys.length ≠ 0 := by omega
  simp [this, hn, hl]
def k34 : AObj := .cells true [I 3, I 4]
def k20 : AObj := .cells true [I 2, I 0]
def kW (A : AHeap) : List (AV × List Int) := [(.sl 1 (A ++ [k34]).length 0 2 true, [2, 0])]
theorem half_ex (A : AHeap) : ACalls Try.prog 22 [.agg [.sl 1 A.length 0 2 true, .sl 1 (A ++ [k34] ++ [k20]).length 0 1 true], I 0] (A ++ [k34] ++ [k20] ++ [.cells true [.sl 1 (A ++ [k34]).length 0 2 true]]) (.tuple [.agg [I 3, I 2], I 0]) (A ++ [k34] ++ [k20] ++ [.cells true [.sl 1 (A ++ [k34]).length 0 2 true]]) := by
  have h1 : L1 (A ++ [k34] ++ [k20] ++ [.cells true [.sl 1 (A ++ [k34]).length 0 2 true]]) (.sl 1 A.length 0 2 true) [3, 4] := (OL.new_mk e1_len A [(3 : Int), 4] true).ls.mono ((pre_app _ _).trans (pre_app _ _))
  have h2 : LL (A ++ [k34] ++ [k20] ++ [.cells true [.sl 1 (A ++ [k34]).length 0 2 true]]) (.sl 1 (A ++ [k34] ++ [k20]).length 0 1 true) (kW A) := by
    refine ⟨(OL.new_mk e0_len (A ++ [k34] ++ [k20]) (kW A) true).ls, fun x hx => ?_⟩
    simp only [kW, List.mem_cons, List.not_mem_nil, or_false] at hx
    subst hx
    exact (OL.new_mk e1_len (A ++ [k34]) [(2 : Int), 0] true).ls.mono (pre_app _ _)
  have := s22 h1 h2 ⟨by simp, by simp [kW], by simp [kW]⟩ 0
  have e1 : hV' [3, 4] (lists (kW A)) 0 = .agg [I 3, I 2] := by
    show hV' [3, 4] [[2, 0]] 0 = .agg [I 3, I 2]
    have e : hP [(3, 2), (4, 0)] = some ((3 : Rat) / 2) := by decide +kernel
    unfold hV'
    rw [if_pos (by decide)]
    show oR (hP [(3, 2), (4, 0)]) = _
    rw [e]
    show R ((3 : Rat) / 2) = _
    have e2 : ((3 : Rat) / 2).num = 3 ∧ ((3 : Rat) / 2).den = 2 := by decide +kernel
    unfold R
    rw [e2.1, e2.2]
    rfl
  have e2 : oE [3, 4] (lists (kW A)) 0 = 0 := by
    show oE [3, 4] [[2, 0]] 0 = 0
    decide
  rw [e1, e2] at this
  exact this
theorem pre_set2 {H H1 : AHeap} (h : H <+: H1) {n : Nat} (hn : n < H.length) (o : AObj) : H.set n o <+: H1.set n o := by
  obtain ⟨t, rfl⟩ := h
  rw [List.set_append_left _ _ hn]
  exact ⟨t, rfl⟩
/-- The rows of a table become one row's copies. -/
structure AK (B A8 H : AHeap) (m : Nat) (y : AV) (r : List Int) (n i : Nat) (ws : List (AV × List Int)) : Prop where
  hb : B <+: A8
  hm : B.length ≤ m ∧ m < A8.length
  hy : y = .sl 1 m 0 n false
  hi : i ≤ n
  hl : ws.length = n
  hp : A8.set m (.cells true (ws.flatMap e0)) <+: H
  hr : ∀ j, j < i → ∃ n', ws[j]? = some (.sl 1 n' 0 r.length false, r) ∧ A8.length ≤ n' ∧ H[n']? = some (.cells true (r.flatMap e1))
theorem AK.pre {B A8 H : AHeap} {m : Nat} {y : AV} {r : List Int} {n i : Nat} {ws : List (AV × List Int)} (h : AK B A8 H m y r n i ws) : B <+: H := (pre_set h.hb h.hm.1 _).trans h.hp
theorem AK.ol {B A8 H : AHeap} {m : Nat} {y : AV} {r : List Int} {n i : Nat} {ws : List (AV × List Int)} (h : AK B A8 H m y r n i ws) : OL 1 e0 B H m y ws :=
  ⟨e0_len, h.pre, h.hm.1, pre_get h.hp (List.getElem?_set_self h.hm.2), false, by rw [h.hl]; exact h.hy⟩
theorem AK.step {B A8 H : AHeap} {m : Nat} {y v : AV} {r : List Int} {n i : Nat} {ws : List (AV × List Int)} (h : AK B A8 H m y r n i ws) (hin : i < n) (hv : L1 B v r) (h0 : 0 < r.length) (hl : r.length ≤ 1000) :
    ∃ v' H2 H3 ws', appA 1 (H ++ [.cells true []]) (.sl 1 H.length 0 0 true) v = some (v', H2) ∧ stA 1 (.ptr (nm y) (of y + i * 1)) v' H2 = some H3 ∧ AK B A8 H3 m y r n (i + 1) ws' := by
  have p1 : H <+: H ++ [AObj.cells true []] := pre_app _ _
  have happ := app_fresh (hv.mono (h.pre.trans p1)) (get_new H (.cells true [])) h0 (by simp [lim]; omega)
  have p2 : H ++ [AObj.cells true []] <+: H ++ [AObj.cells true []] ++ [AObj.cells true (r.flatMap e1)] := pre_app _ _
  have hol : OL 1 e0 B (H ++ [AObj.cells true []] ++ [AObj.cells true (r.flatMap e1)]) m y ws := (h.ol.mono p1).mono p2
  have hst := hol.st (i := i) (by rw [h.hl]; exact hin) (.sl 1 (H ++ [AObj.cells true []]).length 0 r.length false) (.sl 1 (H ++ [AObj.cells true []]).length 0 r.length false, r) rfl
  have hA : A8.length ≤ H.length := by
    have := h.hp.length_le
    simpa using this
  refine ⟨_, _, _, ws.set i (.sl 1 (H ++ [AObj.cells true []]).length 0 r.length false, r), happ, hst, h.hb, h.hm, h.hy, hin, by simp [h.hl], ?_, fun j hj => ?_⟩
  · have := pre_set2 ((h.hp.trans p1).trans p2) (n := m) (by simp; exact h.hm.2) (.cells true ((ws.set i (.sl 1 (H ++ [AObj.cells true []]).length 0 r.length false, r)).flatMap e0))
    rwa [List.set_set] at this
  · have hm := h.hm.2
    by_cases e : j = i
    · subst e
      refine ⟨(H ++ [AObj.cells true []]).length, List.getElem?_set_self (by rw [h.hl]; exact hin), by simp; omega, ?_⟩
      rw [List.getElem?_set_ne (by simp; omega)]
      exact get_new _ _
    · obtain ⟨n', h1, h2, h3⟩ := h.hr j (by omega)
      refine ⟨n', by rw [List.getElem?_set_ne (by omega)]; exact h1, h2, ?_⟩
      rw [List.getElem?_set_ne (by omega)]
      exact pre_get (p1.trans p2) h3
theorem AK.end {B A8 H : AHeap} {m : Nat} {y : AV} {r : List Int} {n : Nat} {ws : List (AV × List Int)} (h : AK B A8 H m y r n n ws) : LL H y ws ∧ lists ws = List.replicate n r := by
  have hx : ∀ x ∈ ws, L1 H x.1 x.2 ∧ x.2 = r := fun x hx => by
    obtain ⟨j, hj⟩ := List.mem_iff_getElem?.1 hx
    have hjl := (List.getElem?_eq_some_iff.1 hj).1
    obtain ⟨n', h1, h2, h3⟩ := h.hr j (by rw [← h.hl]; exact hjl)
    rw [h1] at hj
    cases hj
    exact ⟨row_l1 (A := B) (by rw [List.append_nil]; exact h3), rfl⟩
  refine ⟨⟨h.ol.ls, fun x hx' => (hx x hx').1⟩, ?_⟩
  rw [List.eq_replicate_iff]
  refine ⟨by simp [h.hl], fun s hs => ?_⟩
  obtain ⟨x, hx', rfl⟩ := List.mem_map.1 hs
  exact (hx x hx').2
end Go.Proofs.Ytmblehbjedpjoaa

namespace Go.Proofs.Ytmblehbjedpjoaa
open Go Go.Eng
section
variable {L : List Int} {ws : List (AV × List Int)} {x y : AV} {A : AHeap}
set_option maxRecDepth 40000 in
set_option maxHeartbeats 64000000 in
theorem s9 (hL : L1 A x L) (hV : LL A y ws) (hl : ws.length ≤ 9223372036854775807) : ACalls Try.prog 9 [.agg [x, y]] A (B true) A := by
  refine acalls hmix Try.func9 (by kernel_rfl) t9 1 rfl (by decide) ?_
  rw [start1]
  have hh := half_ex A
  dsimp only [m9]
  simp (maxSteps := 4000000) -implicitDefEqProofs -dsimp (disch := omega) only [↓AW_ops, ↓AW_seq, ↓AOps_nil, ↓AOps_pu, ↓AOps_ha, ↓AOps_call, on_some, extK_app, ↓then_normal, pval, hval, rd_mkS, rd_mkS0, Nat.reduceBEq, Nat.reduceLT, rd_C, put_mkS, AV.cells?, splice, fillA, repl, beq_self_eq_true, eq_self, List.drop_zero, List.drop_succ_cons, List.drop_nil, List.take_zero, List.take_succ_cons, Option.map_some, map_c, map_n, List.length_cons, List.length_nil, Nat.reduceAdd, Nat.reduceSub, Nat.reduceLeDiff, Nat.zero_add, List.cons_append, List.nil_append, List.append_nil, if_true, Bool.cond_true, Bool.cond_false, and_true, repl]
  rw [show (AObj.cells true [I 3, I 4]) = k34 from rfl, show (AObj.cells true [I 2, I 0]) = k20 from rfl]
  have pA : A <+: (A ++ [k34] ++ [k20] ++ [AObj.cells true [.sl 1 (A ++ [k34]).length 0 2 true]]) := (pre_app _ _).trans ((pre_app _ _).trans (pre_app _ _))
  refine CallK.of hh ?_
  generalize (A ++ [k34] ++ [k20] ++ [AObj.cells true [.sl 1 (A ++ [k34]).length 0 2 true]]) = A1 at pA ⊢
  have hL1 := hL.mono pA
  have hV1 := hV.mono pA
  simp (maxSteps := 4000000) -implicitDefEqProofs -dsimp (disch := omega) only [↓AW_skip, ↓AW_ops, ↓AW_seq, ↓AW_cond, ↓AOps_nil, ↓AOps_pu, ↓AOps_call, ↓AOps_guard, on_some, extK_same, guardB_ff, condB_f, ↓then_normal, pval, rd_mkS, rd_mkS0, Nat.reduceBEq, Nat.reduceLT, rd_C, put_mkS, chkd, bput, bgot, AV.cells?, splice, partA, fillA, eqc, beq_self_eq_true, eq_self, List.getElem?_cons_zero, List.getElem?_cons_succ, List.drop_zero, List.drop_succ_cons, List.drop_nil, List.take_zero, List.take_succ_cons, List.take_nil, Option.map_some, map_c, map_n, List.length_cons, List.length_nil, Nat.reduceAdd, Nat.reduceSub, Nat.reduceLeDiff, Nat.reduceEqDiff, Nat.zero_add, List.cons_append, List.nil_append, List.append_nil, bin_neq, if_true, if_false, Bool.false_eq_true, Bool.not_true, Bool.true_and, decide_false, Bool.cond_true, Bool.cond_false, and_true, ne_eq, not_true_eq_false]
  refine CallK.of (c_Long hL1 hV1 hl) ?_
  by_cases h : longK L ws
  · simp (maxSteps := 4000000) -implicitDefEqProofs -dsimp (disch := omega) only [↓AW_ops, ↓AW_seq, ↓AW_cond, ↓AW_ret, ↓AOps_nil, ↓AOps_pu, on_some, extK_same, condB_t, ↓then_normal, ↓then_ret, ↓Fin_ret, pval, rd_mkS, rd_mkS0, Nat.reduceBEq, Nat.reduceLT, rd_C, put_mkS, resV, resL, beq_self_eq_true, Nat.reduceAdd, Nat.reduceSub, if_true, decide_true, Bool.cond_true, Bool.cond_false, h]
    exact gc_val pA rfl
  have hs := Sz_of h
  simp (maxSteps := 4000000) -implicitDefEqProofs -dsimp (disch := omega) only [↓AW_skip, ↓AW_ops, ↓AW_seq, ↓AW_cond, ↓AOps_nil, ↓AOps_pu, ↓AOps_call, on_some, extK_same, condB_f, ↓then_normal, pval, rd_mkS, rd_mkS0, Nat.reduceBEq, Nat.reduceLT, put_mkS, chkd, bgot, partA, beq_self_eq_true, eq_self, List.getElem?_cons_zero, List.drop_zero, List.take_succ_cons, List.take_nil, map_c, map_n, List.length_cons, List.length_nil, Nat.reduceAdd, Nat.reduceSub, Nat.reduceLeDiff, Nat.reduceEqDiff, Nat.zero_add, if_true, if_false, decide_false, Bool.cond_true, Bool.cond_false, h]
  by_cases h0 : kE L (lists ws) = 0
  case neg =>
    refine CallK.of (knife_err hL1 hV1 hs h0).1 ?_
    simp (maxSteps := 4000000) -implicitDefEqProofs -dsimp (disch := omega) only [↓AW_ops, ↓AW_seq, ↓AW_cond, ↓AOps_nil, ↓AOps_pu, ↓AOps_call, on_some, extK_same, condB_t, ↓then_normal, pval, rd_mkS, rd_mkS0, Nat.reduceBEq, Nat.reduceLT, rd_C, put_mkS, chkd, bgot, partA, beq_self_eq_true, eq_self, List.getElem?_cons_zero, List.getElem?_cons_succ, List.drop_zero, List.take_succ_cons, List.take_nil, map_c, map_n, List.length_cons, List.length_nil, Nat.reduceAdd, Nat.reduceSub, Nat.reduceLeDiff, Nat.reduceEqDiff, Nat.zero_add, bin_neq, if_true, if_false, decide_true, Bool.cond_true, Bool.cond_false, not_false_eq_true, h0]
    refine CallK.of (s26 hL1 hV1 hs.l hs.v hs.w) ?_
    simp (maxSteps := 4000000) -implicitDefEqProofs -dsimp (disch := omega) only [↓AW_ret, ↓AOps_nil, ↓AOps_pu, ↓AOps_guard, on_some, extK_same, guardB_tt, ↓then_normal, ↓then_ret, ↓Fin_ret, pval, rd_mkS, rd_mkS0, Nat.reduceBEq, Nat.reduceLT, rd_C, put_mkS, resV, resL, beq_self_eq_true, eq_self, Nat.reduceAdd, Nat.reduceSub, bin_eql, if_true, decide_true, Bool.cond_true, Bool.cond_false, lenA]
    exact gc_val pA rfl
  have hg := KG.of h0
  obtain ⟨hCP, hW, hlen, P, hP⟩ := knE_ok hg
  have hn1 := hg.v1
  have hn5 := hg.v5
  have hll : (lists ws).length = ws.length := by simp
  rw [hll] at hP hlen hn1 hn5
  have cK := s32 hL1 hV1 hs hg
  have p2 := pre_out A1 ((knE L (lists ws)).flatMap e5) (knE L (lists ws)).length
  have q2 := Ls_out A1 e5_len (knE L (lists ws))
  generalize outV 5 A1 (knE L (lists ws)).length = v1 at *
  generalize outH A1 ((knE L (lists ws)).flatMap e5) (knE L (lists ws)).length = A2 at *
  refine CallK.of cK ?_
  have hL2 := hL1.mono p2
  have hV2 := hV1.mono p2
  have q2l := q2.len
  rw [hlen] at q2l
  simp (maxSteps := 4000000) -implicitDefEqProofs -dsimp (disch := omega) only [↓AW_skip, ↓AW_ops, ↓AW_seq, ↓AW_cond, ↓AOps_nil, ↓AOps_pu, ↓AOps_call, on_some, extK_false, condB_f, ↓then_normal, pval, rd_mkS, rd_mkS0, Nat.reduceBEq, Nat.reduceLT, rd_C, put_mkS, chkd, isAdr, bgot, AV.cells?, partA, beq_self_eq_true, eq_self, List.getElem?_cons_zero, List.getElem?_cons_succ, List.drop_zero, List.drop_succ_cons, List.take_succ_cons, List.take_nil, map_c, map_n, List.length_cons, List.length_nil, Nat.reduceAdd, Nat.reduceSub, Nat.reduceLeDiff, Nat.reduceEqDiff, Nat.zero_add, bin_neq, if_true, if_false, Bool.false_eq_true, decide_false, Bool.cond_true, Bool.cond_false, not_true_eq_false, hV1.ls.len]
  have cP := s31 hL2 hV2 hs hg q2 (by omega) hW hCP P (fun o ho => (hP o ho).1)
  have hprl : (prts L (lists ws) P).length = ws.length := by simp [prts]
  have p3 := pre_out A2 (((prts L (lists ws) P).map rp).flatMap e2) ((prts L (lists ws) P).map rp).length
  have q3 := Ls_out A2 e2_len ((prts L (lists ws) P).map rp)
  generalize outV 2 A2 ((prts L (lists ws) P).map rp).length = v2 at *
  generalize outH A2 (((prts L (lists ws) P).map rp).flatMap e2) ((prts L (lists ws) P).map rp).length = A3 at *
  refine CallK.of cP ?_
  have hL3 := hL2.mono p3
  have hV3 := hV2.mono p3
  have q3l := q3.len
  rw [List.length_map, hprl] at q3l
  have q2_3 := q2.mono p3
  simp (maxSteps := 4000000) -implicitDefEqProofs -dsimp (disch := omega) only [↓AW_ops, ↓AW_seq, ↓AOps_nil, ↓AOps_pu, ↓AOps_call, on_some, extK_false, ↓then_normal, pval, rd_mkS, rd_mkS0, Nat.reduceBEq, Nat.reduceLT, put_mkS, chkd, bgot, partA, beq_self_eq_true, eq_self, List.getElem?_cons_zero, List.getElem?_cons_succ, List.drop_zero, List.take_succ_cons, List.take_nil, map_c, map_n, List.length_cons, List.length_nil, Nat.reduceAdd, Nat.reduceSub, Nat.reduceLeDiff, Nat.reduceEqDiff, Nat.zero_add, if_true, if_false, Bool.cond_true, Bool.cond_false]
  refine CallK.of (s34 hL3 hV3 hs hg q2_3 (by omega) hW hCP P hP) ?_
  simp (maxSteps := 4000000) -implicitDefEqProofs -dsimp (disch := omega) only [↓AW_skip, ↓AW_ops, ↓AW_seq, ↓AW_cond, ↓AOps_nil, ↓AOps_pu, ↓AOps_call, ↓AOps_guard, on_some, extK_same, guardB_ff, condB_f, ↓then_normal, pval, rd_mkS, rd_mkS0, Nat.reduceBEq, Nat.reduceLT, rd_C, put_mkS, chkd, bgot, partA, beq_self_eq_true, eq_self, List.getElem?_cons_zero, List.getElem?_cons_succ, List.drop_zero, List.take_succ_cons, List.take_nil, map_c, map_n, List.length_cons, List.length_nil, Nat.reduceAdd, Nat.reduceSub, Nat.reduceLeDiff, Nat.reduceEqDiff, Nat.zero_add, bin_neq, if_true, if_false, Bool.false_eq_true, Bool.not_true, decide_false, Bool.cond_true, Bool.cond_false, not_true_eq_false, q2l, q3l]
  obtain ⟨r4, A4, c4, x4, y4, ws4, rfl, p4, hx4, hy4, hw4⟩ := s38 hL3 hV3 hs hg
  refine CallK.of c4 ?_
  have hL4 := hL3.mono p4
  have hV4 := hV3.mono p4
  have q2_4 := q2_3.mono p4
  have q3_4 := q3.mono p4
  simp (maxSteps := 4000000) -implicitDefEqProofs -dsimp (disch := omega) only [↓AW_ops, ↓AW_seq, ↓AOps_nil, ↓AOps_pu, ↓AOps_call, on_some, extK_false, ↓then_normal, pval, rd_mkS, rd_mkS0, Nat.reduceBEq, Nat.reduceLT, rd_C, put_mkS, chkd, bput, bgot, AV.cells?, splice, partA, beq_self_eq_true, eq_self, List.getElem?_cons_zero, List.getElem?_cons_succ, List.drop_zero, List.drop_succ_cons, List.drop_nil, List.take_zero, List.take_succ_cons, List.take_nil, map_c, map_n, List.length_cons, List.length_nil, Nat.reduceAdd, Nat.reduceSub, Nat.reduceLeDiff, Nat.reduceEqDiff, Nat.zero_add, List.nil_append, List.append_nil, if_true, if_false, Bool.cond_true, Bool.cond_false, ne_eq, not_true_eq_false]
  -- the pieces from the other end
  have cT := s39 hL4 hV4 hs hg q2_4 (by omega) hW hCP
  have htl : (trnP L.sum (knE L (lists ws))).length = ws.length := by simp [trnP, hlen]
  have p5 := pre_out A4 ((trnP L.sum (knE L (lists ws))).flatMap e5) (trnP L.sum (knE L (lists ws))).length
  have q5 := Ls_out A4 e5_len (trnP L.sum (knE L (lists ws)))
  generalize outV 5 A4 (trnP L.sum (knE L (lists ws))).length = v5 at *
  generalize outH A4 ((trnP L.sum (knE L (lists ws))).flatMap e5) (trnP L.sum (knE L (lists ws))).length = A5 at *
  refine CallK.of cT ?_
  simp (maxSteps := 4000000) -implicitDefEqProofs -dsimp (disch := omega) only [↓AW_ops, ↓AW_seq, ↓AOps_nil, ↓AOps_pu, ↓AOps_call, on_some, extK_false, ↓then_normal, pval, rd_mkS, rd_mkS0, Nat.reduceBEq, Nat.reduceLT, put_mkS, chkd, bgot, partA, beq_self_eq_true, eq_self, List.getElem?_cons_zero, List.getElem?_cons_succ, List.drop_zero, List.take_succ_cons, List.take_nil, map_c, map_n, List.length_cons, List.length_nil, Nat.reduceAdd, Nat.reduceSub, Nat.reduceLeDiff, Nat.reduceEqDiff, Nat.zero_add, if_true, if_false, Bool.cond_true, Bool.cond_false]
  have hTR := trn_ok hg
  have hx5 := hx4.mono p5
  have hy5 := hy4.mono p5
  have hs4 : Sz L.reverse ws4 := by
    have e := congrArg List.length hw4
    simp only [List.length_map] at e
    have hlL := hs.l
    refine ⟨by simpa using hlL, by have := hs.v; omega, fun w hw => ?_⟩
    have hm : w.2 ∈ (lists ws).map List.reverse := by rw [← hw4]; exact mem_lists hw
    obtain ⟨s, hsm, he⟩ := List.mem_map.1 hm
    have := hg.rl s hsm
    rw [← he, List.length_reverse]
    omega
  have hw4l : ws4.length = ws.length := by
    have e := congrArg List.length hw4
    simpa using e
  have cQ := s31 hx5 hy5 hs4 (by rw [hw4]; exact hg.rev) q5 (by omega) hTR.w (by rw [hw4]; exact hTR.cp) (fun o => tp L.sum (P o)) (fun o ho => by
    obtain ⟨k, hk⟩ := (hP o (by omega)).1
    exact trn_own hg hk)
  rw [hw4, parts_rev hg (fun o ho => (hP o (by omega)).1)] at cQ
  have p6 := pre_out A5 (((prts L (lists ws) P).map rp).flatMap e2) ((prts L (lists ws) P).map rp).length
  have q6 := Ls_out A5 e2_len ((prts L (lists ws) P).map rp)
  generalize outV 2 A5 ((prts L (lists ws) P).map rp).length = v6 at *
  generalize outH A5 (((prts L (lists ws) P).map rp).flatMap e2) ((prts L (lists ws) P).map rp).length = A6 at *
  refine CallK.of cQ ?_
  simp (maxSteps := 4000000) -implicitDefEqProofs -dsimp (disch := omega) only [↓AW_ops, ↓AW_seq, ↓AOps_nil, ↓AOps_pu, ↓AOps_call, ↓AOps_guard, on_some, extK_false, guardB_ff, ↓then_normal, pval, rd_mkS, rd_mkS0, Nat.reduceBEq, Nat.reduceLT, rd_C, put_mkS, beq_self_eq_true, eq_self, List.getElem?_cons_zero, List.getElem?_cons_succ, map_c, map_n, Nat.reduceAdd, Nat.reduceSub, bin_neq, if_true, if_false, Bool.false_eq_true, decide_false, Bool.cond_true, Bool.cond_false, not_true_eq_false]
  have q3_6 := q3_4.mono (p5.trans p6)
  refine CallK.of (s17 q6 q3_6 (by simp [hprl]; omega)) ?_
  simp (maxSteps := 4000000) -implicitDefEqProofs -dsimp (disch := omega) only [↓AW_skip, ↓AW_ops, ↓AW_seq, ↓AW_cond, ↓AOps_nil, ↓AOps_pu, ↓AOps_call, ↓AOps_guard, on_some, extK_same, guardB_ff, condB_f, ↓then_normal, pval, rd_mkS, rd_mkS0, Nat.reduceBEq, Nat.reduceLT, rd_C, put_mkS, chkd, bgot, partA, beq_self_eq_true, eq_self, List.getElem?_cons_zero, List.drop_zero, List.take_succ_cons, List.take_nil, map_c, map_n, List.length_cons, List.length_nil, Nat.reduceAdd, Nat.reduceSub, Nat.reduceLeDiff, Nat.reduceEqDiff, Nat.zero_add, if_true, if_false, Bool.false_eq_true, Bool.not_true, decide_true, Bool.cond_true, Bool.cond_false]
  have hL6 := hL4.mono (p5.trans p6)
  have hV6 := hV4.mono (p5.trans p6)
  obtain ⟨r7, A7, c7, B7, x7, y7, ws7, p6b, p7b, hx7, hn7, hw7, rfl⟩ := s40 hL6 hV6 hs.l hs.v hs.w
  refine CallK.of c7 ?_
  have p7 : A6 <+: A7 := p6b.trans p7b
  have hL7 := hL6.mono p7
  have hV7 := hV6.mono p7
  obtain ⟨w0, hw0⟩ : ∃ w0, ws[0]? = some w0 := ⟨_, List.getElem?_eq_getElem (by omega)⟩
  have hr0 : w0.2 ∈ lists ws := mem_lists (List.mem_of_getElem? hw0)
  have hrl := hg.rl _ hr0
  have hl1 := hg.l1
  have hl6 := hg.l6
  simp (maxSteps := 4000000) -implicitDefEqProofs -dsimp (disch := omega) only [↓AW_ops, ↓AW_seq, ↓AW_block, ↓AOps_nil, ↓AOps_pu, on_some, extK_false, ↓then_normal, pval, rd_mkS, rd_mkS0, Nat.reduceBEq, Nat.reduceLT, rd_C, put_mkS, ↓AW_toLoop, chkd, bput, AV.cells?, splice, beq_self_eq_true, eq_self, List.drop_succ_cons, List.drop_nil, List.take_zero, List.length_cons, List.length_nil, Nat.reduceAdd, Nat.reduceSub, Nat.reduceLeDiff, Nat.zero_add, List.nil_append, List.append_nil, if_true, if_false, decide_true, Bool.cond_true, Bool.cond_false, ne_eq, not_true_eq_false]
  -- the zones
  refine LoopK.byS (fun z : Nat × AV × AHeap => z.1 ≤ L.length ∧ AccL 2 e2 A7 z.2.2 z.2.1 ((L.zip w0.2).take z.1)) (fun z => [(1, .agg [x, y]), (7, I ws.length), (16, .agg [x7, y7]), (17, z.2.1), (18, I z.1)]) (fun z => z.2.2) (fun z => L.length - z.1) (0, .nilS, A7) ⟨by simp only; omega, AccL.nil (List.prefix_refl _)⟩ (by simp [Has, rd_mkS]) rfl ?_
  rintro ⟨i, u8, A8⟩ ⟨hi, hu8⟩
  simp only at hi hu8
  have hL8 := hL7.mono hu8.pre
  have hV8 := hV7.mono hu8.pre
  by_cases hlt : i < L.length
  · obtain ⟨a, ha⟩ : ∃ a, L[i]? = some a := ⟨_, List.getElem?_eq_getElem hlt⟩
    obtain ⟨b, hb⟩ : ∃ b, w0.2[i]? = some b := ⟨_, List.getElem?_eq_getElem (by omega)⟩
    have hlt' : (i : Int) < L.length := by omega
    have h0w : 0 < ws.length := by omega
    have hib : i < w0.2.length := by omega
    have hrow := hV8.inn w0 (List.mem_of_getElem? hw0)
    have hzz : (L.zip w0.2)[i]? = some (a, b) := by rw [List.getElem?_zip_eq_some]; exact ⟨ha, hb⟩
    obtain ⟨v9, A9, happ, h9⟩ := hu8.push e2_len (a, b) (by rw [List.length_take]; simp [lim]; omega)
    simp only [e2] at happ
    have hix0 : idxA 1 y (.int .i64 0) = some (.ptr (nm y) (of y)) := by have := hV8.ls.idx (k := .i64) (i := 0) h0w; simpa using this
    have hld0 : ldA 1 false (.ptr (nm y) (of y)) A8 = some w0.1 := by have := hV8.ls.ld0 hw0 1 false (by decide); simpa [partA, e0] using this
    simp (maxSteps := 4000000) -implicitDefEqProofs -dsimp (disch := omega) only [↓AW_skip, ↓AW_ops, ↓AW_seq, ↓AW_cond, ↓AW_block, ↓AOps_nil, ↓AOps_pu, ↓AOps_ld, ↓AOps_ha, on_some, extK_false, extK_app, condB_t, ↓then_normal, ↓inBlock_normal, pval, lval, hval_blds, hval_app, rd_mkS, rd_mkS0, Nat.reduceBEq, Nat.reduceLT, mkS_len, rd_C, put_mkS, chkd, isAdr, bgot, cells_agg, cells_int, splice, partA, fillA, repl, beq_self_eq_true, eq_self, List.getElem?_cons_zero, List.getElem?_cons_succ, List.drop_zero, List.drop_succ_cons, List.drop_nil, List.take_zero, List.take_succ_cons, List.take_nil, Option.map_some, map_c, map_n, List.length_cons, List.length_nil, Nat.reduceAdd, Nat.reduceLeDiff, Nat.zero_add, List.cons_append, List.nil_append, List.append_nil, bin_add, bin_lss, w64, if_true, if_false, Bool.false_eq_true, decide_true, Bool.cond_true, Bool.cond_false, Go.Eng.e1, true_and, and_true, hlt', hL8.len, hL8.idx hlt, hL8.ld0 ha 1 false (by decide), hix0, hld0, hrow.idx hib, hrow.ld0 hb 1 false (by decide), happ]
    refine ⟨(i + 1, v9, A9), ⟨hlt, ?_⟩, by simp [Has, rd_mkS], rfl, by simp only; omega⟩
    simp only
    rw [List.take_add_one, hzz]
    exact h9
  have hii : i = L.length := by omega
  subst hii
  have hlt' : ¬ ((L.length : Int) < L.length) := by omega
  simp (maxSteps := 4000000) -implicitDefEqProofs -dsimp (disch := omega) only [↓AW_ops, ↓AW_seq, ↓AW_cond, ↓AW_block, ↓AW_exit, ↓AOps_nil, ↓AOps_pu, on_some, condB_f, ↓then_normal, ↓then_exit, ↓inBlock_exit, pval, rd_mkS, rd_mkS0, Nat.reduceBEq, Nat.reduceLT, rd_C, put_mkS, ↓AW_toLoop, chkd, isAdr, bgot, AV.cells?, partA, beq_self_eq_true, eq_self, List.getElem?_cons_zero, List.drop_zero, List.take_zero, List.take_succ_cons, List.length_cons, List.length_nil, Nat.reduceAdd, Nat.reduceLeDiff, Nat.zero_add, bin_lss, if_true, if_false, Bool.false_eq_true, decide_false, Bool.cond_true, Bool.cond_false, hlt', hL8.len]
  -- all alike
  rw [List.take_of_length_le (by rw [hg.zlen hr0]; exact Nat.le_refl _)] at hu8
  have hw7l : ws7.length = ws.length := by
    have e := congrArg List.length hw7
    simpa using e
  obtain ⟨a1, a2, a3⟩ := hn7.acc
  rcases a3 with ⟨a4, _⟩ | ⟨_, m, hym, hmB, hmo⟩
  · exfalso
    have : ws7 = [] := List.eq_nil_of_length_eq_zero (by simpa using a4)
    rw [this] at hw7l
    simp at hw7l
    omega
  have hmA : m < A7.length := (List.getElem?_eq_some_iff.1 hmo).1
  have hA78 := hu8.pre.length_le
  have hB7L := hL6.mono p6b
  have hB7V := hV6.mono p6b
  have hK0 : AK B7 A8 A8 m y7 w0.2 ws.length 0 ws7 := ⟨p7b.trans hu8.pre, ⟨hmB, by omega⟩, by rw [← hw7l]; exact hym, Nat.zero_le _, hw7l, by rw [set_same (pre_get hu8.pre hmo)]; exact List.prefix_refl _, fun j hj => by omega⟩
  refine LoopK.byS (fun z : Nat × AHeap × List (AV × List Int) => AK B7 A8 z.2.1 m y7 w0.2 ws.length z.1 z.2.2) (fun z => [(1, .agg [x, y]), (7, I ws.length), (16, .agg [x7, y7]), (17, u8), (19, I z.1)]) (fun z => z.2.1) (fun z => ws.length - z.1) (0, A8, ws7) hK0 (by simp [Has, rd_mkS]) rfl ?_
  rintro ⟨i, H9, ws9⟩ hK
  simp only at hK
  have hKi := hK.hi
  by_cases hlt : i < ws.length
  · have hlt' : (i : Int) < ws.length := by omega
    have h0w : 0 < ws.length := by omega
    have hrow := hB7V.inn w0 (List.mem_of_getElem? hw0)
    obtain ⟨v', H2, H3, ws', happ, hst, hK'⟩ := hK.step hlt hrow (by omega) (by omega)
    have hVe := hB7V.mono (hK.pre.trans (pre_app H9 [AObj.cells true []]))
    have hix0 : idxA 1 y (.int .i64 0) = some (.ptr (nm y) (of y)) := by have := hVe.ls.idx (k := .i64) (i := 0) h0w; simpa using this
    have hld0 : ldA 1 false (.ptr (nm y) (of y)) (H9 ++ [AObj.cells true []]) = some w0.1 := by have := hVe.ls.ld0 hw0 1 false (by decide); simpa [partA, e0] using this
    have hidx := hK.ol.ls.idx (k := .i64) (i := i) (by rw [hK.hl]; exact hlt)
    simp (maxSteps := 4000000) -implicitDefEqProofs -dsimp (disch := omega) only [↓AW_skip, ↓AW_ops, ↓AW_seq, ↓AW_cond, ↓AW_block, ↓AOps_nil, ↓AOps_pu, ↓AOps_ld, ↓AOps_ha, on_some, extK_false, extK_app, condB_t, ↓then_normal, ↓inBlock_normal, pval, lval, hval_st, hval_blds, hval_app, rd_mkS, rd_mkS0, Nat.reduceBEq, Nat.reduceLT, mkS_len, rd_C, put_mkS, putS_none, chkd, isAdr, bgot, cells_agg, partA, fillA, repl, beq_self_eq_true, eq_self, List.getElem?_cons_zero, List.getElem?_cons_succ, List.drop_zero, List.drop_succ_cons, List.take_succ_cons, List.take_nil, Option.map_some, map_n, List.length_cons, List.length_nil, Nat.reduceAdd, Nat.reduceLeDiff, Nat.zero_add, bin_add, bin_lss, w64, if_true, if_false, Bool.false_eq_true, decide_true, Bool.cond_true, Bool.cond_false, true_and, hlt', hix0, hld0, happ, hidx, hst, repl]
    exact ⟨(i + 1, H3, ws'), hK', by simp [Has, rd_mkS], rfl, by simp only; omega⟩
  have hii : i = ws.length := by omega
  subst hii
  have hlt' : ¬ ((ws.length : Int) < ws.length) := by omega
  simp (maxSteps := 4000000) -implicitDefEqProofs -dsimp (disch := omega) only [↓AW_ops, ↓AW_seq, ↓AW_cond, ↓AW_exit, ↓AOps_nil, ↓AOps_pu, ↓AOps_call, on_some, condB_f, ↓then_normal, ↓then_exit, ↓inBlock_exit, pval, rd_mkS, rd_mkS0, Nat.reduceBEq, Nat.reduceLT, put_mkS, beq_self_eq_true, eq_self, map_c, map_n, bin_lss, if_true, decide_false, Bool.cond_true, Bool.cond_false, hlt']
  obtain ⟨hV9, hla⟩ := hK.end
  have hL9 := hx7.mono hK.pre
  have p9 : A <+: H9 := (((pA.trans p2).trans (p3.trans p4)).trans ((p5.trans p6).trans p6b)).trans hK.pre
  have hz9 : L2 H9 u8 (L.zip w0.2) := (AccL_ls (AccL_set hu8 hmA _) e2_len).mono hK.hp
  have hf := hg.gd hr0
  have hzl := hg.zlen hr0
  have hvE : vE (L.zip w0.2) = 0 := vE_good (by rw [hzl]; omega) hf.2
  have heE : eqE (L.zip w0.2) ws.length = 0 := by unfold eqE; rw [if_pos hvE, if_pos (by omega)]
  have heL : (eqL (L.zip w0.2) ws.length).length = ws.length - 1 := by simp [eqL, heE]
  have cE := s41 hz9 (ws.length : Int) (by constructor <;> omega)
  have p10 := pre_out H9 ((eqL (L.zip w0.2) ws.length).flatMap e2) (eqL (L.zip w0.2) ws.length).length
  have q10 := Ls_out H9 e2_len (eqL (L.zip w0.2) ws.length)
  rw [heE] at cE
  generalize outV 2 H9 (eqL (L.zip w0.2) ws.length).length = v10 at *
  generalize outH H9 ((eqL (L.zip w0.2) ws.length).flatMap e2) (eqL (L.zip w0.2) ws.length).length = A10 at *
  have q10l := q10.len
  rw [heL] at q10l
  refine CallK.of cE ?_
  simp (maxSteps := 4000000) -implicitDefEqProofs -dsimp (disch := omega) only [↓AW_ops, ↓AW_seq, ↓AOps_nil, ↓AOps_pu, ↓AOps_call, on_some, extK_false, ↓then_normal, pval, rd_mkS, rd_mkS0, Nat.reduceBEq, Nat.reduceLT, put_mkS, chkd, bgot, partA, beq_self_eq_true, eq_self, List.getElem?_cons_zero, List.getElem?_cons_succ, List.drop_zero, List.take_succ_cons, List.take_nil, map_c, map_n, List.length_cons, List.length_nil, Nat.reduceAdd, Nat.reduceLeDiff, Nat.reduceEqDiff, Nat.zero_add, if_true, if_false, Bool.cond_true, Bool.cond_false]
  have hL10 := hL9.mono p10
  have hV10 := hV9.mono p10
  have hg9 : KG L (lists ws9) := by
    have := hg.alike hr0
    rw [hll] at this
    rw [hla]; exact this
  have hw9l : ws9.length = ws.length := hK.hl
  have hs9 : Sz L ws9 := ⟨hs.l, by have := hs.v; omega, fun w hw => by have := hg9.rl _ (mem_lists hw); have := hs.l; omega⟩
  obtain ⟨hCP9, hW9, hlen9, P9, hP9⟩ := knE_ok hg9
  have hkE : knE L (lists ws9) = (List.range ws.length).map (alP L (L.zip w0.2) ws.length) := by
    have := knE_alike hg hr0
    rw [hll] at this
    rw [hla]; exact this
  have hll9 : (lists ws9).length = ws.length := by simp [hw9l]
  rw [hll9] at hlen9
  have cK9 := s32 hL10 hV10 hs9 hg9
  have p11 := pre_out A10 ((knE L (lists ws9)).flatMap e5) (knE L (lists ws9)).length
  have q11 := Ls_out A10 e5_len (knE L (lists ws9))
  generalize outV 5 A10 (knE L (lists ws9)).length = v11 at *
  generalize outH A10 ((knE L (lists ws9)).flatMap e5) (knE L (lists ws9)).length = A11 at *
  have q11l := q11.len
  rw [hlen9] at q11l
  refine CallK.of cK9 ?_
  simp (maxSteps := 4000000) -implicitDefEqProofs -dsimp (disch := omega) only [↓AW_ops, ↓AW_seq, ↓AOps_nil, ↓AOps_pu, ↓AOps_call, on_some, extK_false, ↓then_normal, pval, rd_mkS, rd_mkS0, Nat.reduceBEq, Nat.reduceLT, put_mkS, chkd, bgot, partA, beq_self_eq_true, eq_self, List.getElem?_cons_zero, List.getElem?_cons_succ, List.drop_zero, List.take_succ_cons, List.take_nil, map_c, map_n, List.length_cons, List.length_nil, Nat.reduceAdd, Nat.reduceLeDiff, Nat.reduceEqDiff, Nat.zero_add, if_true, if_false, Bool.cond_true, Bool.cond_false]
  have q10_11 := q10.mono p11
  have cV := s42 (hL10.mono p11) (hV10.mono p11) hs9 q11 (by omega) hW9 hg9 hCP9 (fun o ho => by
    obtain ⟨k, hk⟩ := (hP9 o (by rw [hll9]; omega)).1
    exact ⟨_, hk.o.1, hk.o.2⟩) (fun i j k l w p q hi hj hp hq => by
    have hw : w.2 = w0.2 := by
      have h1 : w.2 ∈ lists ws9 := mem_lists (List.mem_of_getElem? hi)
      rw [hla] at h1
      exact (List.mem_replicate.1 h1).2
    have hmm : ∀ p ∈ knE L (lists ws9), pwo (L.zip w0.2) p = eqW (L.zip w0.2) (lists ws).length 1 := fun p hp => alP_worth hg hr0 (by rw [hll, ← hla]; exact hp)
    rw [hw, hmm p hp.o.1, hmm q hq.o.1]
    exact Rat.le_refl)
  refine CallK.of cV ?_
  have hsub : ((ws.length - 1 : Nat) : Int) = (ws.length : Int) - 1 := by omega
  rw [hsub] at q10l
  have hln : lenA AV.nilS = some (I 0) := rfl
  simp (maxSteps := 4000000) -implicitDefEqProofs -dsimp (disch := omega) only [↓AW_skip, ↓AW_ops, ↓AW_seq, ↓AW_cond, ↓AW_block, ↓AOps_nil, ↓AOps_pu, ↓AOps_guard, on_some, extK_same, guardB_ff, condB_f, ↓then_normal, pval, rd_mkS, rd_mkS0, Nat.reduceBEq, Nat.reduceLT, rd_C, put_mkS, ↓AW_toLoop, beq_self_eq_true, eq_self, List.getElem?_cons_zero, List.getElem?_cons_succ, bin_sub, bin_neq, bin_gtr, w64, if_true, if_false, Bool.false_eq_true, decide_false, Bool.cond_true, Bool.cond_false, not_true_eq_false, Int.reduceLT, q11l, q10l, hln]
  refine LoopK.byS (fun k : Nat => k ≤ ws.length) (fun k => [(7, I ws.length), (20, v10), (21, v11), (23, I k)]) (fun _ => A11) (fun k => ws.length - k) 0 (Nat.zero_le _) (by simp [Has, rd_mkS]) rfl ?_
  intro k hk
  by_cases hlt : k < ws.length
  · have hlt' : (k : Int) < ws.length := by omega
    have hlk : k < (knE L (lists ws9)).length := by omega
    have hz : (knE L (lists ws9))[k]? = some (alP L (L.zip w0.2) ws.length k) := by rw [hkE]; simp [hlt]
    have g0 : ldA 1 false (.ptr (nm v11) (of v11 + k * 5)) A11 = some (I (k : Int)) := by have := q11.ld0 hz 1 false (by decide); simpa [partA, e5, alP] using this
    have g1 : ldA 2 true (.ptr (nm v11) (of v11 + k * 5 + 1)) A11 = some (R (eqA (L.zip w0.2) ws.length k)) := by have := q11.ld hz 2 1 true (by decide); simpa [partA, e5, alP, rp] using this
    have gi := q11.idx (k := .i64) hlk
    by_cases hk0 : k = 0
    · subst hk0
      have hk1 : ¬ ((0 : Nat) : Int) > 0 := by omega
      have g0' : ldA 1 false (.ptr (nm v11) (of v11)) A11 = some (I ((0 : Nat) : Int)) := by simpa using g0
      have gi' : idxA 5 v11 (I ((0 : Nat) : Int)) = some (.ptr (nm v11) (of v11)) := by simpa using gi
      have gi2 : idxA 5 v11 (I 0) = some (.ptr (nm v11) (of v11)) := by simpa using gi
      have hk3 : ¬ (0 : Int) > 0 := by omega
      have hk4 : (0 : Int) < ws.length := by omega
      simp (maxSteps := 4000000) -implicitDefEqProofs -dsimp (disch := omega) only [↓AW_skip, ↓AW_ops, ↓AW_seq, ↓AW_cond, ↓AW_block, ↓AOps_nil, ↓AOps_pu, ↓AOps_ld, ↓AOps_guard, on_some, guardB_ft, guardB_ff, skipS_some, condB_t, condB_f, ↓then_normal, ↓inBlock_normal, pval, lval, rd_mkS, rd_mkS0, Nat.reduceBEq, Nat.reduceLT, mkS_len, rd_C, put_mkS, beq_self_eq_true, eq_self, Nat.add_zero, bin_add, bin_neq, bin_lss, bin_gtr, w64, if_true, if_false, Bool.false_eq_true, decide_true, decide_false, Bool.cond_true, Bool.cond_false, true_and, not_true_eq_false, hlt', gi', g0', hk1]
      exact ⟨1, by omega, by simp [Has, rd_mkS], by omega⟩
    · have hk1 : (k : Int) > 0 := by omega
      have hk2 : (0 : Int) < (k : Int) := by omega
      obtain ⟨j, rfl⟩ : ∃ j, k = j + 1 := ⟨k - 1, by omega⟩
      have hj : (((j + 1 : Nat) : Int) - 1) = (j : Int) := by omega
      have hjl : j < (eqL (L.zip w0.2) ws.length).length := by omega
      have hzj : (eqL (L.zip w0.2) ws.length)[j]? = some (pR (eqA (L.zip w0.2) ws.length (j + 1))) := by
        have hjn : j < ws.length - 1 := by omega
        unfold eqL
        rw [if_pos heE]
        simp [hjn]
      have c0 : ldA 2 true (.ptr (nm v10) (of v10 + j * 2)) A11 = some (R (eqA (L.zip w0.2) ws.length (j + 1))) := by have := q10_11.ld0 hzj 2 true (by decide); simpa [partA, e2] using this
      have ci := q10_11.idx (k := .i64) hjl
      simp (maxSteps := 4000000) -implicitDefEqProofs -dsimp (disch := omega) only [↓AW_skip, ↓AW_ops, ↓AW_seq, ↓AW_cond, ↓AW_block, ↓AOps_nil, ↓AOps_pu, ↓AOps_ld, ↓AOps_guard, on_some, guardB_tt, guardB_ff, condB_t, condB_f, ↓then_normal, ↓inBlock_normal, pval, lval, rd_mkS, rd_mkS0, Nat.reduceBEq, Nat.reduceLT, mkS_len, rd_C, put_mkS, eqc, beq_self_eq_true, eq_self, Option.map_some, Nat.add_zero, bin_add, bin_sub, bin_neq, bin_lss, bin_gtr, w64, if_true, if_false, Bool.false_eq_true, Bool.not_true, Bool.true_and, decide_true, decide_false, Bool.cond_true, Bool.cond_false, true_and, not_true_eq_false, hlt', gi, g0, hk1, g1, hj, ci, c0]
      exact ⟨j + 1 + 1, by omega, by simp [Has, rd_mkS], by omega⟩
  have hlt' : ¬ ((k : Int) < ws.length) := by omega
  simp (maxSteps := 4000000) -implicitDefEqProofs -dsimp (disch := omega) only [↓AW_ops, ↓AW_seq, ↓AW_cond, ↓AW_exit, ↓AW_ret, ↓AOps_nil, ↓AOps_pu, on_some, condB_f, ↓then_normal, ↓then_exit, ↓inBlock_exit, ↓Fin_ret, pval, rd_mkS, rd_mkS0, Nat.reduceBEq, Nat.reduceLT, rd_C, put_mkS, resV, resL, beq_self_eq_true, eq_self, bin_lss, if_true, decide_false, Bool.cond_true, Bool.cond_false, hlt']
  exact gc_val (p9.trans (p10.trans p11)) rfl
end
end Go.Proofs.Ytmblehbjedpjoaa

