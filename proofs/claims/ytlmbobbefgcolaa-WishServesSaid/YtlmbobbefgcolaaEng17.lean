/- The abstract machine, part 17: rules for running abstract code. No conditions. -/
import Derived.Test.YtlmbobbefgcolaaEng16
namespace Go.Eng
open Go

section
variable {P : Program}

theorem Forget.rfl' {S : List AV} : Forget S S := ⟨rfl, fun _ => .inr rfl⟩

theorem AOps_mono : ∀ (l : List MOp) {Q1 Q2 : List AV → AHeap → Prop}, (∀ S H, Q1 S H → Q2 S H) → ∀ {S : List AV} {H : AHeap}, AOps P l Q1 S H → AOps P l Q2 S H := by
  intro l
  induction l with
  | nil => intro Q1 Q2 hq S H h; exact hq S H h
  | cons o r ih =>
    intro Q1 Q2 hq S H h
    simp only [AOps] at h ⊢
    split at h
    · exact h
    · rename_i t _
      cases t with
      | true =>
        simp only [if_true] at h ⊢
        obtain ⟨v, H1, h1, h2, h3⟩ := h
        exact ⟨v, H1, h1, h2, ih hq h3⟩
      | false =>
        simp only [Bool.false_eq_true, if_false] at h ⊢
        exact ih hq h

theorem AW_mono : ∀ {m : MCode} {Q1 Q2 : Post}, (∀ e S H, Q1 e S H → Q2 e S H) → ∀ {S : List AV} {H : AHeap}, AW P m Q1 S H → AW P m Q2 S H := by
  intro m
  induction m with
  | skip => intro Q1 Q2 hq S H h; exact hq _ S H h
  | ops l => intro Q1 Q2 hq S H h; exact AOps_mono l (fun S H h => hq _ S H h) h
  | seq a b iha ihb =>
    intro Q1 Q2 hq S H h
    refine iha (fun e S H h => ?_) h
    cases e with
    | normal => exact ihb hq h
    | exit id => exact hq _ S H h
    | ret => exact hq _ S H h
  | cond c a b iha ihb =>
    intro Q1 Q2 hq S H h
    simp only [AW] at h ⊢
    split at h
    · split at h
      · rename_i ht; rw [if_pos ht]; exact iha hq h
      · rename_i ht; rw [if_neg ht]; exact ihb hq h
    · exact h
  | block id a iha =>
    intro Q1 Q2 hq S H h
    refine iha (fun e S H h => ?_) h
    cases e with
    | normal => exact hq _ S H h
    | exit id' =>
      simp only [MX.inBlock] at h ⊢
      split at h
      · rename_i hi; rw [if_pos hi]; exact hq _ S H h
      · rename_i hi; rw [if_neg hi]; exact hq _ S H h
    | ret => exact hq _ S H h
  | loop a iha =>
    intro Q1 Q2 hq S H h
    obtain ⟨J, h0, h1⟩ := h
    refine ⟨J, h0, fun k S H hj => iha (fun e S' H' h => ?_) (h1 k S H hj)⟩
    cases e with
    | normal => exact h
    | exit id => exact hq _ S' H' h
    | ret => exact hq _ S' H' h
  | exit id => intro Q1 Q2 hq S H h; exact hq _ S H h
  | cut a iha =>
    intro Q1 Q2 hq S H h
    obtain ⟨S0, h0, h1⟩ := h
    exact ⟨S0, h0, iha hq h1⟩
  | ret => intro Q1 Q2 hq S H h; exact hq _ S H h
  | fail => intro Q1 Q2 hq S H h; exact h

theorem AW_cut {m : MCode} {Q : Post} {S : List AV} {H : AHeap} (h : AW P m Q S H) : AW P (.cut m) Q S H := ⟨S, Forget.rfl', h⟩

theorem mk_length (n : Nat) : ∀ (L : List (Nat × AV)), (mk n L).length = n := by
  have : ∀ (L : List (Nat × AV)) (S : List AV), (L.foldl (fun S p => S.set p.1 p.2) S).length = S.length := by
    intro L
    induction L with
    | nil => intro S; rfl
    | cons p L ih => intro S; rw [List.foldl_cons, ih]; simp
  intro L
  simp [mk, this]

theorem mk_rd (n : Nat) (L : List (Nat × AV)) (i : Nat) : rd (mk n L) (.s i) = .junk ∨ ∃ p ∈ L, p.1 = i ∧ rd (mk n L) (.s i) = p.2 := by
  have : ∀ (L : List (Nat × AV)) (S : List AV), rd (L.foldl (fun S p => S.set p.1 p.2) S) (.s i) = rd S (.s i) ∨ ∃ p ∈ L, p.1 = i ∧ rd (L.foldl (fun S p => S.set p.1 p.2) S) (.s i) = p.2 := by
    intro L
    induction L with
    | nil => intro S; exact .inl rfl
    | cons p L ih =>
      intro S
      rw [List.foldl_cons]
      rcases ih (S.set p.1 p.2) with h | ⟨q, h1, h2, h3⟩
      · rw [h, rd_set]
        split
        · rename_i hc; exact .inr ⟨p, by simp, hc.1, rfl⟩
        · exact .inl rfl
      · exact .inr ⟨q, by simp [h1], h2, h3⟩
  rcases this L (List.replicate n .junk) with h | h
  · left
    unfold mk
    rw [h]
    show ((List.replicate n AV.junk)[i]?).getD .junk = .junk
    rw [List.getElem?_replicate]
    split <;> rfl
  · exact .inr h

theorem forget_mk {S : List AV} {n : Nat} {L : List (Nat × AV)} (hn : S.length = n) (h : Has S L) : Forget S (mk n L) := by
  refine ⟨by rw [mk_length, hn], fun i => ?_⟩
  rcases mk_rd n L i with h1 | ⟨p, hp, rfl, h2⟩
  · exact .inl h1
  · right; rw [h2]; exact (h p hp).symm

/-- A place where ways meet: from here on only 'L' is known of the slots. -/
theorem AW_join {m : MCode} {Q : Post} {S : List AV} {H : AHeap} (n : Nat) (L : List (Nat × AV)) (hn : S.length = n) (h : Has S L) (k : AW P m Q (mk n L) H) : AW P (.cut m) Q S H := ⟨_, forget_mk hn h, k⟩

/-- A loop: at each round's head, for some x, the slots hold 'L x' and the heap is 'hp x'. -/
theorem AW_loop {α : Type} {a : MCode} {Q : Post} {S : List AV} {H : AHeap} (n : Nat) (inv : α → Prop) (L : α → List (Nat × AV)) (hp : α → AHeap) (μ : α → Nat) (x0 : α) (h0 : inv x0) (hn : S.length = n) (hL : Has S (L x0)) (hH : H = hp x0)
    (hstep : ∀ x, inv x → AW P a (MX.then (fun S' H' => ∃ y, inv y ∧ S'.length = n ∧ Has S' (L y) ∧ H' = hp y ∧ μ y < μ x) Q) (mk n (L x)) (hp x)) : AW P (.loop a) Q S H := by
  subst hH
  refine ⟨fun k S H => ∃ x, inv x ∧ S = mk n (L x) ∧ H = hp x ∧ μ x = k, ⟨μ x0, mk n (L x0), forget_mk hn hL, x0, h0, rfl, rfl, rfl⟩, ?_⟩
  rintro k S H ⟨x, hx, rfl, rfl, rfl⟩
  refine AW_mono (fun e S' H' h => ?_) (hstep x hx)
  cases e with
  | normal =>
    obtain ⟨y, hy, h1, h2, rfl, h4⟩ := h
    exact ⟨μ y, mk n (L y), h4, forget_mk h1 h2, y, hy, rfl, rfl, rfl⟩
  | exit id => exact h
  | ret => exact h

/-! Straight code, operation by operation: equations for 'simp'. -/

theorem rd_s (S : List AV) (i : Nat) : rd S (.s i) = (S[i]?).getD .junk := rfl
theorem rd_c (S : List AV) (v : AV) : rd S (.c v) = v := rfl
theorem putS_some (S : List AV) (d : Nat) (v : AV) : putS S (some d) v = S.set d v := rfl
theorem putS_none (S : List AV) (v : AV) : putS S none v = S := rfl

theorem AOps_nil (Q : List AV → AHeap → Prop) (S : List AV) (H : AHeap) : AOps P [] Q S H = Q S H := rfl

/-- What stands beside a way to go on, so that 'simp' lets the way alone. -/
structure Lk.{u} {α : Sort u} (k : α) : Type where

/-- Go on with a value, if there is one. -/
def on {α : Type} (x : Option α) (k : α → Prop) (_ : Lk k) : Prop := match x with | some v => k v | none => False
theorem on_some {α : Type} (v : α) (k : α → Prop) (d : Lk k) : on (some v) k d = k v := rfl
theorem on_none {α : Type} (k : α → Prop) (d : Lk k) : on none k d = False := rfl

theorem AOps_pu (w : Option Nat) (sk : Option AV) (e : Bool) (p : PAct) (r : List MOp) (Q : List AV → AHeap → Prop) (S : List AV) (H : AHeap) :
    AOps P (⟨w, sk, none, e, .pu p⟩ :: r) Q S H = on (pval p S) (fun v => AOps P r Q (putS S w v) H) ⟨⟩ := by
  apply propext
  simp only [AOps, wantedA, if_true, Act1.out]
  cases hp : pval p S with
  | none => simp [on]
  | some v =>
    simp only [on]
    constructor
    · rintro ⟨v', H', ⟨h1, rfl⟩, _, h⟩; cases h1; exact h
    · intro h; exact ⟨v, H, ⟨rfl, rfl⟩, fun _ => List.prefix_refl _, h⟩

theorem AOps_ld (w : Option Nat) (sk : Option AV) (e : Bool) (l : LAct) (r : List MOp) (Q : List AV → AHeap → Prop) (S : List AV) (H : AHeap) :
    AOps P (⟨w, sk, none, e, .ld l⟩ :: r) Q S H = on (lval l S H) (fun v => AOps P r Q (putS S w v) H) ⟨⟩ := by
  apply propext
  simp only [AOps, wantedA, if_true, Act1.out]
  cases hp : lval l S H with
  | none => simp [on]
  | some v =>
    simp only [on]
    constructor
    · rintro ⟨v', H', ⟨h1, rfl⟩, _, h⟩; cases h1; exact h
    · intro h; exact ⟨v, H, ⟨rfl, rfl⟩, fun _ => List.prefix_refl _, h⟩

/-- Go on, where an operation of a drawn order may only add to the heap. -/
def extK (e : Bool) (H H' : AHeap) (k : Prop) (_ : Lk k) : Prop := (e = true → H <+: H') ∧ k
theorem extK_false (H H' : AHeap) (k : Prop) (d : Lk k) : extK false H H' k d = k := by simp [extK]
theorem extK_app (e : Bool) (H l : AHeap) (k : Prop) (d : Lk k) : extK e H (H ++ l) k d = k := by simp [extK]
theorem extK_same (e : Bool) (H : AHeap) (k : Prop) (d : Lk k) : extK e H H k d = k := by simp [extK]
theorem extK_of {H H' : AHeap} (h : H <+: H') (e : Bool) (k : Prop) (d : Lk k) : extK e H H' k d = k := by simp [extK, h]

theorem AOps_ha (w : Option Nat) (sk : Option AV) (e : Bool) (a : HAct) (r : List MOp) (Q : List AV → AHeap → Prop) (S : List AV) (H : AHeap) :
    AOps P (⟨w, sk, none, e, .ha a⟩ :: r) Q S H = on (hval a S H) (fun v => extK e H v.2 (AOps P r Q (putS S w v.1) v.2) ⟨⟩) ⟨⟩ := by
  apply propext
  simp only [AOps, wantedA, if_true, Act1.out]
  cases hp : hval a S H with
  | none => simp [on]
  | some v =>
    simp only [on, extK]
    constructor
    · rintro ⟨v', H', h1, h2, h⟩; cases h1; exact ⟨h2, h⟩
    · intro h; exact ⟨v.1, v.2, rfl, h.1, h.2⟩

/-- A call still to be made. -/
def CallK (P : Program) (f : FuncId) (args : List AV) (H : AHeap) (k : AV → AHeap → Prop) (_ : Lk k) : Prop := ∃ v H', ACalls P f args H v H' ∧ k v H'
theorem CallK.of {f : FuncId} {args : List AV} {H : AHeap} {k : AV → AHeap → Prop} {d : Lk k} {v : AV} {H' : AHeap} (h : ACalls P f args H v H') (hk : k v H') : CallK P f args H k d := ⟨v, H', h, hk⟩

theorem AOps_call (w : Option Nat) (sk : Option AV) (e : Bool) (f : FuncId) (args : List Opd) (r : List MOp) (Q : List AV → AHeap → Prop) (S : List AV) (H : AHeap) :
    AOps P (⟨w, sk, none, e, .call f args⟩ :: r) Q S H = CallK P f (args.map (rd S)) H (fun v H' => extK e H H' (AOps P r Q (putS S w v) H') ⟨⟩) ⟨⟩ := by
  simp only [AOps, wantedA, if_true, Act1.out, CallK, extK]

/-- A call of a function value. -/
def CallF (P : Program) (x : AV) (args : List AV) (H : AHeap) (k : AV → AHeap → Prop) (d : Lk k) : Prop :=
  match x with
  | .fn f cap => CallK P f (args ++ cap) H k d
  | _ => False
theorem CallF_fn (f : FuncId) (cap args : List AV) (H : AHeap) (k : AV → AHeap → Prop) (d : Lk k) : CallF P (.fn f cap) args H k d = CallK P f (args ++ cap) H k d := rfl

theorem AOps_callv (w : Option Nat) (sk : Option AV) (e : Bool) (x : Opd) (args : List Opd) (r : List MOp) (Q : List AV → AHeap → Prop) (S : List AV) (H : AHeap) :
    AOps P (⟨w, sk, none, e, .callv x args⟩ :: r) Q S H = CallF P (rd S x) (args.map (rd S)) H (fun v H' => extK e H H' (AOps P r Q (putS S w v) H') ⟨⟩) ⟨⟩ := by
  apply propext
  simp only [AOps, wantedA, if_true, Act1.out, CallK, CallF, extK]
  constructor
  · rintro ⟨v, H', ⟨f, cap, h1, h2⟩, h3, h4⟩
    rw [h1]
    exact ⟨v, H', h2, h3, h4⟩
  · intro h
    split at h
    · rename_i f cap hx
      obtain ⟨v, H', h1, h2, h3⟩ := h
      exact ⟨v, H', ⟨f, cap, hx, h1⟩, h2, h3⟩
    · exact h.elim

/-- With a guard: by what the guard says. -/
def guardB (x : AV) (want : Bool) (yes no : Prop) (_ : Lk yes) (_ : Lk no) : Prop :=
  match x with
  | .bool b => if b = want then yes else no
  | .tuple [] => no
  | _ => False
section
variable {yes no : Prop} {d : Lk yes} {d' : Lk no}
theorem guardB_tt : guardB (.bool true) true yes no d d' = yes := by simp [guardB]
theorem guardB_tf : guardB (.bool true) false yes no d d' = no := by simp [guardB]
theorem guardB_ft : guardB (.bool false) true yes no d d' = no := by simp [guardB]
theorem guardB_ff : guardB (.bool false) false yes no d d' = yes := by simp [guardB]
theorem guardB_undef (want : Bool) : guardB (.tuple []) want yes no d d' = no := rfl
end

theorem AOps_guard (w : Option Nat) (sk : Option AV) (d : Nat) (want e : Bool) (a : Act1) (r : List MOp) (Q : List AV → AHeap → Prop) (S : List AV) (H : AHeap) :
    AOps P (⟨w, sk, some (d, want), e, a⟩ :: r) Q S H = guardB (rd S (.s d)) want (AOps P (⟨w, sk, none, e, a⟩ :: r) Q S H) (AOps P r Q (skipS S ⟨w, sk, none, e, a⟩) H) ⟨⟩ ⟨⟩ := by
  apply propext
  unfold guardB
  simp only [AOps, wantedA, if_true, skipS]
  split
  · rename_i h
    split at h
    · cases h
    · cases h
    · rename_i h1 h2
      split
      · rename_i b hb; exact absurd hb (h1 b)
      · rename_i hb; exact absurd hb h2
      · exact Iff.rfl
  · rename_i t h
    split at h
    · rename_i b hb
      cases h
      rw [hb]
      cases b <;> cases want <;> simp
    · rename_i hb
      cases h
      rw [hb]
      simp
    · cases h
theorem skipS_some (S : List AV) (w : Option Nat) (v : AV) (g : Option (Nat × Bool)) (e : Bool) (a : Act1) : skipS S ⟨w, some v, g, e, a⟩ = putS S w v := rfl
theorem skipS_none (S : List AV) (w : Option Nat) (g : Option (Nat × Bool)) (e : Bool) (a : Act1) : skipS S ⟨w, none, g, e, a⟩ = S := rfl

/-- A test. -/
def condB (x : AV) (yes no : Prop) (_ : Lk yes) (_ : Lk no) : Prop :=
  match x with
  | .bool t => if t = true then yes else no
  | _ => False
section
variable {yes no : Prop} {d : Lk yes} {d' : Lk no}
theorem condB_t : condB (.bool true) yes no d d' = yes := by simp [condB]
theorem condB_f : condB (.bool false) yes no d d' = no := by simp [condB]
theorem condB_cases {b : Bool} (h : b = true → yes) (k : b = false → no) : condB (.bool b) yes no d d' := by
  cases b
  · rw [condB_f]; exact k rfl
  · rw [condB_t]; exact h rfl
end

theorem AW_skip (Q : Post) (S : List AV) (H : AHeap) : AW P .skip Q S H = Q .normal S H := rfl
theorem AW_ops (l : List MOp) (Q : Post) (S : List AV) (H : AHeap) : AW P (.ops l) Q S H = AOps P l (fun S H => Q .normal S H) S H := rfl
theorem AW_seq (a b : MCode) (Q : Post) (S : List AV) (H : AHeap) : AW P (.seq a b) Q S H = AW P a (MX.then (AW P b Q) Q) S H := rfl
theorem AW_cond (c : Opd) (a b : MCode) (Q : Post) (S : List AV) (H : AHeap) : AW P (.cond c a b) Q S H = condB (rd S c) (AW P a Q S H) (AW P b Q S H) ⟨⟩ ⟨⟩ := rfl
theorem AW_block (id : Nat) (a : MCode) (Q : Post) (S : List AV) (H : AHeap) : AW P (.block id a) Q S H = AW P a (MX.inBlock id Q) S H := rfl
theorem AW_exit (id : Nat) (Q : Post) (S : List AV) (H : AHeap) : AW P (.exit id) Q S H = Q (.exit id) S H := rfl
theorem AW_ret (Q : Post) (S : List AV) (H : AHeap) : AW P .ret Q S H = Q .ret S H := rfl
theorem then_normal (k : List AV → AHeap → Prop) (Q : Post) (S : List AV) (H : AHeap) : MX.then k Q .normal S H = k S H := rfl
theorem then_exit (k : List AV → AHeap → Prop) (Q : Post) (i : Nat) (S : List AV) (H : AHeap) : MX.then k Q (.exit i) S H = Q (.exit i) S H := rfl
theorem then_ret (k : List AV → AHeap → Prop) (Q : Post) (S : List AV) (H : AHeap) : MX.then k Q .ret S H = Q .ret S H := rfl
theorem inBlock_normal (id : Nat) (Q : Post) (S : List AV) (H : AHeap) : MX.inBlock id Q .normal S H = Q .normal S H := rfl
theorem inBlock_exit (id i : Nat) (Q : Post) (S : List AV) (H : AHeap) : MX.inBlock id Q (.exit i) S H = if i = id then Q .normal S H else Q (.exit i) S H := rfl
theorem inBlock_ret (id : Nat) (Q : Post) (S : List AV) (H : AHeap) : MX.inBlock id Q .ret S H = Q .ret S H := rfl

/-- The end of a function. -/
def Fin (res : List PAct) (H : AHeap) (v : AV) (H' : AHeap) : Post := fun e S H1 => (e = .normal ∨ e = .ret) ∧ ∃ v1, resV res S = some v1 ∧ GC H v1 H1 v H'

theorem Fin_ret (res : List PAct) (H : AHeap) (v : AV) (H' : AHeap) (S : List AV) (H1 : AHeap) : Fin res H v H' .ret S H1 = on (resV res S) (fun v1 => GC H v1 H1 v H') ⟨⟩ := by
  apply propext
  unfold Fin on
  cases resV res S <;> simp
theorem Fin_normal (res : List PAct) (H : AHeap) (v : AV) (H' : AHeap) (S : List AV) (H1 : AHeap) : Fin res H v H' .normal S H1 = on (resV res S) (fun v1 => GC H v1 H1 v H') ⟨⟩ := by
  apply propext
  unfold Fin on
  cases resV res S <;> simp

/-- A function's contract, from its body. -/
theorem acalls (hm : P.follows .mixedOrders = true) {f : FuncId} {fn : Func} (hf : P.funcs[f]? = some fn) (hn : (fn.name == "runtime.NumGoroutine") = false) {bx cs : List Nat} {m : MFun} (ht : trF P bx cs fn = some m) {args : List AV} {H H' : AHeap} {v : AV} (n : Nat)
    (hl : args.length = n) (hb : m.bx.all (fun d => decide (n ≤ d)) = true) (hA : AW P m.body (Fin m.res H v H') (args ++ List.replicate (m.nt - n) .junk) H) : ACalls P f args H v H' := by
  subst hl
  exact calls_of_aw hm hf hn ht hb hA

theorem gc_val {H : AHeap} {v1 v : AV} {H1 : AHeap} (hp : H <+: H1) (hv : ren (fun n => if n < H.length then some n else none) 4 v1 = v) : GC H v1 H1 v H := gc_keep (keep_old hp) hv
theorem gc_same {H : AHeap} {v1 v : AV} (hv : v1 = v) : GC H v1 H v H := by subst hv; exact gc_all
theorem gc_same_all {H H1 H' : AHeap} {v1 v : AV} (hv : v1 = v) (hH : H1 = H') : GC H v1 H1 v H' := by subst hv; subst hH; exact gc_all

end
end Go.Eng
