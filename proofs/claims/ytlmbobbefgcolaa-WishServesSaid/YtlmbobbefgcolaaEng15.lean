/- The abstract machine, part 15: what a region's translation has looked at; code. No conditions. -/
import Derived.Test.YtlmbobbefgcolaaEng14
namespace Go.Eng
open Go

theorem zipAll {α : Type} {l : List α} {p : α × Nat → Bool} (h : l.zipIdx.all p = true) {i : Nat} {x : α} (hx : l[i]? = some x) : p (x, i) = true := by
  refine List.all_eq_true.1 h (x, i) ?_
  rw [List.mem_zipIdx_iff_getElem?]
  exact hx

theorem envOf_spec (P : Program) (bx : List Nat) : ∀ (ops : List Oper) (k : Nat) (E : BoxEnv), ∃ X, envOf P bx ops k E = E ++ X ∧
    ∀ e ∈ X, ∃ o s x f q fd E1, k ≤ e.1 ∧ ops[e.1 - k]? = some o ∧ o.op = .fieldAddr s x f ∧ o.dst = some e.2.1 ∧ addrOf bx E1 x = some q ∧ E1 <+: E ++ X ∧ fieldOf P s f = some fd ∧ e.2.2.1 = q.2.1 ∧ e.2.2.2 = q.2.2 + fd.offset
  | [], k, E => ⟨[], by simp [envOf], by simp⟩
  | o :: r, k, E => by
    have shift : ∀ (E' : BoxEnv) (X : BoxEnv), (∀ e ∈ X, ∃ o s x f q fd E1, k + 1 ≤ e.1 ∧ r[e.1 - (k + 1)]? = some o ∧ o.op = .fieldAddr s x f ∧ o.dst = some e.2.1 ∧ addrOf bx E1 x = some q ∧ E1 <+: E' ++ X ∧ fieldOf P s f = some fd ∧ e.2.2.1 = q.2.1 ∧ e.2.2.2 = q.2.2 + fd.offset) →
        ∀ e ∈ X, ∃ o' s x f q fd E1, k ≤ e.1 ∧ (o :: r)[e.1 - k]? = some o' ∧ o'.op = .fieldAddr s x f ∧ o'.dst = some e.2.1 ∧ addrOf bx E1 x = some q ∧ E1 <+: E' ++ X ∧ fieldOf P s f = some fd ∧ e.2.2.1 = q.2.1 ∧ e.2.2.2 = q.2.2 + fd.offset := by
      intro E' X h e he
      obtain ⟨o', s, x, f, q, fd, E1, h1, h2, h3⟩ := h e he
      refine ⟨o', s, x, f, q, fd, E1, by omega, ?_, h3⟩
      rw [show e.1 - k = (e.1 - (k + 1)) + 1 by omega]
      simpa using h2
    unfold envOf
    split
    · rename_i s a f d hop hd
      split
      · rename_i chk b off fd ha hf
        obtain ⟨X, hX, hs⟩ := envOf_spec P bx r (k + 1) (E ++ [(k, d, b, off + fd.offset)])
        refine ⟨(k, d, b, off + fd.offset) :: X, by rw [hX]; simp, fun e he => ?_⟩
        simp only [List.mem_cons] at he
        rcases he with rfl | he
        · exact ⟨o, s, a, f, (chk, b, off), fd, E, Nat.le_refl _, by simp, hop, hd, ha, List.prefix_append _ _, hf, rfl, rfl⟩
        · have := shift _ X hs e he
          simpa using this
      · obtain ⟨X, hX, hs⟩ := envOf_spec P bx r (k + 1) E
        exact ⟨X, hX, shift E X hs⟩
    · obtain ⟨X, hX, hs⟩ := envOf_spec P bx r (k + 1) E
      exact ⟨X, hX, shift E X hs⟩

theorem addrOf_prefix {bx : List Nat} {E1 E : BoxEnv} (h : E1 <+: E) {x : Operand} {q : Option Nat × Nat × Nat} (hq : addrOf bx E1 x = some q) : addrOf bx E x = some q := by
  obtain ⟨X, rfl⟩ := h
  cases x with
  | tmp t =>
    simp only [addrOf] at hq ⊢
    split at hq
    · rename_i ht; rw [if_pos ht]; exact hq
    · rename_i ht
      rw [if_neg ht]
      simp only [Option.map_eq_some_iff] at hq ⊢
      obtain ⟨e, he, heq⟩ := hq
      exact ⟨e, by simp only [envFind] at he ⊢; rw [List.find?_append, he]; rfl, heq⟩
  | _ => simp [addrOf] at hq

theorem masks_spec : ∀ (ops : List Oper) (acc : List Nat), ∃ X, masks ops acc = acc ++ X ∧ X.length = ops.length ∧
    ∀ (i : Nat) o, ops[i]? = some o → ∀ j, (((masks ops acc)[acc.length + i]?).getD 0).testBit j = true → ∃ e ∈ o.after, Region.binds .any e = true ∧ (j = e.on ∨ (e.on < acc.length + i ∧ (((masks ops acc)[e.on]?).getD 0).testBit j = true))
  | [], acc => ⟨[], by simp [masks], rfl, by simp⟩
  | o :: r, acc => by
    obtain ⟨X, hX, hl, hs⟩ := masks_spec r (acc ++ [o.after.toList.foldl (fun s e => if Region.binds .any e then s ||| (1 <<< e.on) ||| (acc[e.on]?).getD 0 else s) 0])
    have hm : masks (o :: r) acc = masks r (acc ++ [o.after.toList.foldl (fun s e => if Region.binds .any e then s ||| (1 <<< e.on) ||| (acc[e.on]?).getD 0 else s) 0]) := rfl
    refine ⟨o.after.toList.foldl (fun s e => if Region.binds .any e then s ||| (1 <<< e.on) ||| (acc[e.on]?).getD 0 else s) 0 :: X, by rw [hm, hX]; simp, by simp [hl], fun i o' hi j hj => ?_⟩
    cases i with
    | zero =>
      simp at hi
      subst hi
      rw [hm, hX] at hj ⊢
      have hat : ((acc ++ [o.after.toList.foldl (fun s e => if Region.binds .any e then s ||| (1 <<< e.on) ||| (acc[e.on]?).getD 0 else s) 0] ++ X)[acc.length + 0]?).getD 0 = o.after.toList.foldl (fun s e => if Region.binds .any e then s ||| (1 <<< e.on) ||| (acc[e.on]?).getD 0 else s) 0 := by simp
      rw [hat] at hj
      have fold : ∀ (l : List Edge) (s : Nat), (l.foldl (fun s e => if Region.binds .any e then s ||| (1 <<< e.on) ||| (acc[e.on]?).getD 0 else s) s).testBit j = true → s.testBit j = true ∨ ∃ e ∈ l, Region.binds .any e = true ∧ (j = e.on ∨ ((acc[e.on]?).getD 0).testBit j = true) := by
        intro l
        induction l with
        | nil => intro s h; exact .inl h
        | cons e l ih =>
          intro s h
          simp only [List.foldl_cons] at h
          rcases ih _ h with h | ⟨e', he', h'⟩
          · split at h
            · rename_i hb
              simp only [Nat.testBit_or, Bool.or_eq_true] at h
              rcases h with (h | h) | h
              · exact .inl h
              · refine .inr ⟨e, by simp, hb, .inl ?_⟩
                rw [Nat.shiftLeft_eq, Nat.one_mul, Nat.testBit_two_pow] at h
                exact (of_decide_eq_true h).symm
              · exact .inr ⟨e, by simp, hb, .inr h⟩
            · exact .inl h
          · exact .inr ⟨e', by simp [he'], h'⟩
      rcases fold _ _ hj with h | ⟨e, he, hb, h⟩
      · simp at h
      · refine ⟨e, by simpa using he, hb, ?_⟩
        rcases h with h | h
        · exact .inl h
        · right
          have hlt : e.on < acc.length := by
            refine Decidable.by_contra fun hn => ?_
            rw [List.getElem?_eq_none (by omega)] at h
            simp at h
          refine ⟨by omega, ?_⟩
          rw [List.append_assoc, List.getElem?_append_left hlt]
          exact h
    | succ i =>
      have := hs i o' (by simpa using hi) j (by rw [hm] at hj; simpa [Nat.add_assoc, Nat.add_comm 1 i] using hj)
      rw [hm]
      simpa [Nat.add_assoc, Nat.add_comm 1 i] using this

section
variable {P : Program} {ρ0 : Ren} {H0 : AHeap} {w0 : World} {bx : List Nat}

theorem mapM_zip {α β : Type} {f : α × Nat → Option β} {l : List α} {r : List β} (h : l.zipIdx.mapM f = some r) : r.length = l.length ∧ ∀ (i : Nat) x, l[i]? = some x → ∃ y, r[i]? = some y ∧ f (x, i) = some y := by
  obtain ⟨h1, h2⟩ := mapM_some h
  refine ⟨by simpa using h1.symm, fun i x hx => h2 i (x, i) ?_⟩
  simp [List.getElem?_zipIdx, hx]

theorem region_facts {ops : List Oper} {draw : Bool} {l : List MOp} (h : trRegion P bx ops draw = some l) :
    RegionOk P bx ops draw (envOf P bx ops 0 []) l (prec draw (masks ops [])) ∧ (∀ (i : Nat) o, ops[i]? = some o → ∀ e ∈ o.after, Region.binds .any e = true → e.on < i) ∧
      (draw = true → ∀ (i j : Nat) a b, l[i]? = some b → l[j]? = some a → j < i → prec draw (masks ops []) i j = true ∨ indep a b = true) := by
  unfold trRegion at h
  simp only at h
  split at h
  · cases h
  rename_i l' hl
  split at h
  case isFalse => cases h
  rename_i hok
  cases h
  obtain ⟨hlen, hop⟩ := mapM_zip hl
  simp only [regionOk, Bool.and_eq_true] at hok
  obtain ⟨⟨⟨⟨c1, c2⟩, c3⟩, c4⟩, c5⟩ := hok
  obtain ⟨X, hX, hspec⟩ := envOf_spec P bx ops 0 []
  refine ⟨⟨hlen, ?_, ?_, ?_, ?_, ?_⟩, ?_, ?_⟩
  · intro i o ho
    obtain ⟨m, hm, htr⟩ := hop i o ho
    exact ⟨m, _, hm, htr⟩
  · intro i j o o' d ho ho' hd hd'
    have k := zipAll c1 ho
    simp only [hd] at k
    have k2 := zipAll k ho'
    simp only [hd', Bool.or_eq_true, beq_iff_eq, bne_self_eq_false, Bool.false_eq_true, or_false] at k2
    exact k2
  · intro i o j ho hj
    have k := zipAll c3 ho
    exact List.all_eq_true.1 k j hj
  · intro e he k o ho hb
    have k1 := List.all_eq_true.1 c4 e he
    have k2 := zipAll k1 ho
    simp only [hb, bne_self_eq_false, Bool.false_or] at k2
    exact k2
  · intro e he
    rw [hX] at he ⊢
    simp only [List.nil_append] at he ⊢
    obtain ⟨o, s, x, f, q, fd, E1, h1, h2, h3, h4, h5, h6, h7, h8, h9⟩ := hspec e he
    simp only [List.nil_append] at h6
    exact ⟨o, s, x, f, q, fd, by simpa using h2, h3, h4, addrOf_prefix h6 h5, h7, h8, h9⟩
  · intro i o ho e he hb
    have k := zipAll c2 ho
    have k2 := List.all_eq_true.1 k e (by simpa using he)
    simpa [hb] using k2
  · intro hd i j a b hb ha hj
    subst hd
    simp only [Bool.not_true, Bool.false_or] at c5
    have k := zipAll c5 hb
    have k2 := zipAll k ha
    simp only [hj, decide_true, Bool.not_true, Bool.false_or, Bool.or_eq_true] at k2
    exact k2

theorem region_sound {ops : List Oper} {draw : Bool} {l : List MOp} {id : Nat} (hm : P.follows .mixedOrders = true) (h : trRegion P bx ops draw = some l) {Q : List AV → AHeap → Prop} {Q' : Exit → Act → World → Prop}
    (hQ : ∀ ρ' β' S' H' a' w', Fr ρ0 H0 w0 bx β' ρ' S' H' a' w' → Q S' H' → Q' .normal a' w') {β : Nat → Option Nat} {ρ : Ren} {S : List AV} {H : AHeap} {a : Act} {w : World} (F : Fr ρ0 H0 w0 bx β ρ S H a w) (hA : AOps P l Q S H) :
    (Code.region id ops.toArray draw).wp P Q' a w := by
  obtain ⟨R, hedge, hind⟩ := region_facts h
  cases draw with
  | false =>
    refine wp_region ?_
    rw [List.size_toArray, List.range_eq_range']
    have R' : RegionOk P bx ops false (envOf P bx ops 0 []) l (fun i j => decide (j < i)) := by
      have e : prec false (masks ops []) = fun i j => decide (j < i) := by funext i j; simp [prec]
      rw [← e]; exact R
    exact region_text R' hQ ops.length 0 (by simp) F (fun e _ hj => by simp at hj) hA
  | true =>
    refine wp_region_any hm ?_
    have F' : Fr ρ0 H0 w0 bx β ρ S H a { w with drawn := w.drawn + 1 } := by
      refine F.go F.sim.drew ⟨fun _ _ => rfl, Nat.le_refl _, rfl, rfl, rfl, Nat.le_refl _, fun _ _ _ => rfl, fun _ h => .inr h, fun n L e => .inl (F.sim.dom n L e).1⟩
    have hun : ∀ i, (Array.replicate ops.length false).getD i false = false := by
      intro i
      rw [Array.getD_eq_getD_getElem?, Array.getElem?_replicate]
      split <;> rfl
    have hrest : rest l (Array.replicate ops.length false) = l := by
      have : ∀ (l : List MOp) (k : Nat) (n : Nat), k + l.length ≤ n → ((l.zipIdx k).filterMap fun p => if (Array.replicate n false).getD p.2 true then none else some p.1) = l := by
        intro l
        induction l with
        | nil => intro k n _; rfl
        | cons x l ih =>
          intro k n hk
          simp only [List.zipIdx_cons, List.filterMap_cons]
          have : (Array.replicate n false).getD k true = false := by
            rw [Array.getD_eq_getD_getElem?, Array.getElem?_replicate, if_pos (by simp at hk; omega)]; rfl
          simp only [this, Bool.false_eq_true, if_false]
          rw [ih (k + 1) n (by simp at hk; omega)]
      exact this l 0 ops.length (by rw [R.len]; omega)
    rw [List.size_toArray]
    refine region_any R hQ hedge ?_ (hind rfl) ops.length _ (by simp) ?_ (by rw [hrest, R.len]; exact Nat.le_refl _) F' ?_ (by rw [hrest]; exact hA)
    · -- those that must come before
      intro listed hsz hcl i o ho hready j hj
      have key : ∀ (i : Nat) o, ops[i]? = some o → (∀ e ∈ o.after, Region.binds .any e = true → listed.getD e.on false = true) → ∀ j, (((masks ops [])[i]?).getD 0).testBit j = true → listed.getD j false = true := by
        intro i
        induction i using Nat.strongRecOn with
        | _ i ih =>
          intro o ho hready j hj
          obtain ⟨X, hX, hl, hs⟩ := masks_spec ops []
          obtain ⟨e, he, hb, hje⟩ := hs i o ho j (by simpa using hj)
          rcases hje with rfl | ⟨hlt, hbit⟩
          · exact hready e he hb
          · have hlt' : e.on < i := by simpa using hlt
            have hon : e.on < ops.length := by have := (List.getElem?_eq_some_iff.1 ho).1; omega
            have hl2 := hready e he hb
            have hl3 : listed.getD e.on true = true := by
              rw [Array.getD_eq_getD_getElem?] at hl2 ⊢
              rw [Array.getElem?_eq_getElem (by omega)] at hl2 ⊢
              exact hl2
            exact ih e.on hlt' ops[e.on] (by simp [hon]) (fun e' he' hb' => hcl e.on ops[e.on] (by simp [hon]) hl3 e' he' hb') j hbit
      have hlj := key i o ho hready j (by simpa [prec] using hj)
      have hjlt : j < listed.size := by
        refine Decidable.by_contra fun hn => ?_
        rw [Array.getD_eq_getD_getElem?, Array.getElem?_eq_none (by omega)] at hlj
        simp at hlj
      refine ⟨by omega, ?_⟩
      rw [Array.getD_eq_getD_getElem?, Array.getElem?_eq_getElem hjlt] at hlj ⊢
      exact hlj
    · intro i o ho hl
      exfalso
      have hlt : i < ops.length := (List.getElem?_eq_some_iff.1 ho).1
      rw [Array.getD_eq_getD_getElem?, Array.getElem?_replicate, if_pos hlt] at hl
      simp at hl
    · intro e _ hj
      exfalso
      obtain ⟨h1, h2⟩ := mem_listed.1 hj
      rw [Array.getD_eq_getD_getElem?, Array.getElem?_replicate, if_pos (by simpa using h1)] at h2
      simp at h2

def MX.conc : MX → Exit
  | .normal => .normal
  | .exit id => .exit id
  | .ret => .ret

/-- What stands behind a piece of code, in the model's words. -/
def Conc (ρ0 : Ren) (H0 : AHeap) (w0 : World) (bx : List Nat) (Q : Post) : Exit → Act → World → Prop :=
  fun e a w => ∃ me ρ β S H, e = MX.conc me ∧ Fr ρ0 H0 w0 bx β ρ S H a w ∧ Q me S H

theorem code_sound {cs : List Nat} (hm : P.follows .mixedOrders = true) : ∀ (c : Code) {m : MCode}, trC P bx cs c = some m → ∀ {Q : Post} {β : Nat → Option Nat} {ρ : Ren} {S : List AV} {H : AHeap} {a : Act} {w : World}, Fr ρ0 H0 w0 bx β ρ S H a w → AW P m Q S H →
    c.wp P (Conc ρ0 H0 w0 bx Q) a w := by
  intro c
  induction c with
  | skip =>
    intro m h Q β ρ S H a w F hA
    simp only [trC, Option.some.injEq] at h
    subst h
    exact wp_skip ⟨.normal, ρ, β, S, H, rfl, F, hA⟩
  | region id ops draw =>
    intro m h Q β ρ S H a w F hA
    simp only [trC, Option.map_eq_some_iff] at h
    obtain ⟨l, hl, rfl⟩ := h
    have := region_sound (id := id) hm hl (Q := fun S H => Q .normal S H) (Q' := Conc ρ0 H0 w0 bx Q) (fun ρ' β' S' H' a' w' F' hq => ⟨.normal, ρ', β', S', H', rfl, F', hq⟩) F hA
    simpa using this
  | seq x y ihx ihy =>
    intro m h Q β ρ S H a w F hA
    simp only [trC] at h
    split at h
    case h_2 => cases h
    rename_i mx my hx hy
    have fin : AW P mx (MX.then (fun S H => ∃ S0, Forget S S0 ∧ AW P my Q S0 H) Q) S H → (Code.seq x y).wp P (Conc ρ0 H0 w0 bx Q) a w := by
      intro hA
      refine wp_seq (wp_mono (ihx hx F hA) ?_)
      rintro e a' w' ⟨me, ρ', β', S', H', rfl, F', hq⟩
      cases me with
      | normal =>
        obtain ⟨S0, hf, hq⟩ := hq
        exact ihy hy (F'.forget hf) hq
      | exit id => exact ⟨.exit id, ρ', β', S', H', rfl, F', hq⟩
      | ret => exact ⟨.ret, ρ', β', S', H', rfl, F', hq⟩
    have forget_self : ∀ S : List AV, Forget S S := fun S => ⟨rfl, fun _ => .inr rfl⟩
    have mono : ∀ {m : MCode} {Q1 Q2 : Post}, (∀ e S H, Q1 e S H → Q2 e S H) → ∀ {S : List AV} {H : AHeap}, AW P m Q1 S H → AW P m Q2 S H := by
      have ops : ∀ (l : List MOp) {Q1 Q2 : List AV → AHeap → Prop}, (∀ S H, Q1 S H → Q2 S H) → ∀ {S : List AV} {H : AHeap}, AOps P l Q1 S H → AOps P l Q2 S H := by
        intro l
        induction l with
        | nil => intro Q1 Q2 hq S H h; exact hq S H h
        | cons o r ih =>
          intro Q1 Q2 hq S H h
          simp only [AOps] at h ⊢
          split at h
          · exact h
          · rename_i t _
            cases t with
            | true =>
              simp only [if_true] at h ⊢
              obtain ⟨v, H1, h1, h2, h3⟩ := h
              exact ⟨v, H1, h1, h2, ih hq h3⟩
            | false =>
              simp only [Bool.false_eq_true, if_false] at h ⊢
              exact ih hq h
      intro m
      induction m with
      | skip => intro Q1 Q2 hq S H h; exact hq _ S H h
      | ops l => intro Q1 Q2 hq S H h; exact ops l (fun S H h => hq _ S H h) h
      | seq a b iha ihb =>
        intro Q1 Q2 hq S H h
        refine iha (fun e S H h => ?_) h
        cases e with
        | normal => exact ihb hq h
        | exit id => exact hq _ S H h
        | ret => exact hq _ S H h
      | cond c a b iha ihb =>
        intro Q1 Q2 hq S H h
        simp only [AW] at h ⊢
        split at h
        · split at h
          · rename_i ht; rw [if_pos ht]; exact iha hq h
          · rename_i ht; rw [if_neg ht]; exact ihb hq h
        · exact h
      | block id a iha =>
        intro Q1 Q2 hq S H h
        refine iha (fun e S H h => ?_) h
        cases e with
        | normal => exact hq _ S H h
        | exit id' =>
          simp only [MX.inBlock] at h ⊢
          split at h
          · rename_i hi; rw [if_pos hi]; exact hq _ S H h
          · rename_i hi; rw [if_neg hi]; exact hq _ S H h
        | ret => exact hq _ S H h
      | loop a iha =>
        intro Q1 Q2 hq S H h
        obtain ⟨J, h0, h1⟩ := h
        refine ⟨J, h0, fun k S H hj => iha (fun e S' H' h => ?_) (h1 k S H hj)⟩
        cases e with
        | normal => exact h
        | exit id => exact hq _ S' H' h
        | ret => exact hq _ S' H' h
      | exit id => intro Q1 Q2 hq S H h; exact hq _ S H h
      | cut a iha =>
        intro Q1 Q2 hq S H h
        obtain ⟨S0, h0, h1⟩ := h
        exact ⟨S0, h0, iha hq h1⟩
      | ret => intro Q1 Q2 hq S H h; exact hq _ S H h
      | fail => intro Q1 Q2 hq S H h; exact h
    split at h
    · cases h
      refine fin (mono (fun e S' H' h => ?_) hA)
      cases e with
      | normal => exact h
      | exit id => exact h
      | ret => exact h
    · cases h
      refine fin (mono (fun e S' H' h => ?_) hA)
      cases e with
      | normal => exact ⟨S', forget_self S', h⟩
      | exit id => exact h
      | ret => exact h
  | cond c x y ihx ihy =>
    intro m h Q β ρ S H a w F hA
    simp only [trC] at h
    split at h
    case h_2 => cases h
    rename_i o mx my ho hx hy
    cases h
    simp only [AW] at hA
    have hv := F.opd ho
    split at hA
    case h_2 => exact hA.elim
    rename_i t ht
    rw [ht] at hv
    generalize hc : a.eval c = cv at hv
    cases hv
    refine wp_cond hc ?_
    cases t with
    | true => simp only [if_true] at hA ⊢; exact ihx hx F hA
    | false => simp only [Bool.false_eq_true, if_false] at hA ⊢; exact ihy hy F hA
  | block id x ih =>
    intro m h Q β ρ S H a w F hA
    simp only [trC, Option.map_eq_some_iff] at h
    obtain ⟨mx, hx, rfl⟩ := h
    refine wp_block (wp_mono (ih hx F hA) ?_)
    rintro e a' w' ⟨me, ρ', β', S', H', rfl, F', hq⟩
    cases me with
    | normal => exact ⟨.normal, ρ', β', S', H', rfl, F', hq⟩
    | exit id' =>
      simp only [MX.inBlock] at hq
      simp only [MX.conc, Exit.inBlock]
      split at hq
      · rename_i hi; rw [if_pos hi]; exact ⟨.normal, ρ', β', S', H', rfl, F', hq⟩
      · rename_i hi; rw [if_neg hi]; exact ⟨.exit id', ρ', β', S', H', rfl, F', hq⟩
    | ret => exact ⟨.ret, ρ', β', S', H', rfl, F', hq⟩
  | loop x ih =>
    intro m h Q β ρ S H a w F hA
    simp only [trC, Option.map_eq_some_iff] at h
    obtain ⟨mx, hx, rfl⟩ := h
    obtain ⟨J, ⟨k0, S0, hf, h0⟩, h1⟩ := hA
    have hF0 := F.forget hf
    intro b k cs
    have key : ∀ n {β : Nat → Option Nat} {ρ : Ren} {S : List AV} {H : AHeap} {a : Act} {w : World}, Fr ρ0 H0 w0 bx β ρ S H a w → J n S H →
        ∃ e a' w', Conc ρ0 H0 w0 bx Q e a' w' ∧ Arrives P (lone (b.at a (.code x :: .inLoop x :: k)) cs w) b k cs e a' w' := by
      intro n
      induction n using Nat.strongRecOn with
      | _ n ihn =>
        intro β ρ S H a w F hJ
        obtain ⟨e, a₁, w₁, ⟨me, ρ', β', S', H', rfl, F', hq⟩, harr⟩ := ih hx F (h1 n S H hJ) b (.inLoop x :: k) cs
        cases me with
        | normal =>
          obtain ⟨k', S'', hlt, hf', hJ'⟩ := hq
          obtain ⟨e₂, a₂, w₂, hq₂, harr₂⟩ := ihn k' hlt (F'.forget hf') hJ'
          exact ⟨e₂, a₂, w₂, hq₂, .of_steps (Steps.trans harr (.one step_inLoop)) harr₂⟩
        | exit id => exact ⟨_, a₁, w₁, ⟨.exit id, ρ', β', S', H', rfl, F', hq⟩, .pass (x := .inLoop x) rfl (fun _ _ => .inl (by simp [MX.conc])) harr⟩
        | ret => exact ⟨_, a₁, w₁, ⟨.ret, ρ', β', S', H', rfl, F', hq⟩, .pass (x := .inLoop x) rfl (fun _ _ => .inl (by simp [MX.conc])) harr⟩
    obtain ⟨e, a', w', hq, harr⟩ := key _ hF0 h0
    exact ⟨e, a', w', hq, .of_steps (.one step_loop) harr⟩
  | exit id =>
    intro m h Q β ρ S H a w F hA
    simp only [trC, Option.some.injEq] at h
    subst h
    exact wp_exit ⟨.exit id, ρ, β, S, H, rfl, F, hA⟩
  | ret =>
    intro m h Q β ρ S H a w F hA
    simp only [trC, Option.some.injEq] at h
    subst h
    exact wp_ret ⟨.ret, ρ, β, S, H, rfl, F, hA⟩
  | _ =>
    intro m h Q β ρ S H a w F hA
    simp only [trC, Option.some.injEq] at h
    subst h
    exact hA.elim

end
end Go.Eng
