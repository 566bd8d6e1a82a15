/- The abstract machine, part 19: an evaluator, for calls of which everything is known. No conditions. -/
import Derived.Test.YtlmbobbefgcolaaEng18
namespace Go.Eng
open Go

def eqL (f : AV → AV → Bool) : List AV → List AV → Bool
  | [], [] => true
  | x :: xs, y :: ys => f x y && eqL f xs ys
  | _, _ => false

theorem eqL_ok {f : AV → AV → Bool} (hf : ∀ x y, f x y = true → x = y) : ∀ xs ys, eqL f xs ys = true → xs = ys
  | [], [], _ => rfl
  | x :: xs, y :: ys, h => by
    simp only [eqL, Bool.and_eq_true] at h
    rw [hf x y h.1, eqL_ok hf xs ys h.2]
  | [], _ :: _, h => by simp [eqL] at h
  | _ :: _, [], h => by simp [eqL] at h

def eqA : Nat → AV → AV → Bool
  | 0, _, _ => false
  | d + 1, x, y =>
    match x, y with
    | .bool a, .bool b => a == b
    | .int k a, .int k' b => decide (k = k') && decide (a = b)
    | .agg a, .agg b => eqL (eqA d) a b
    | .fn f a, .fn g b => decide (f = g) && eqL (eqA d) a b
    | .nilS, .nilS => true
    | .sl es n off len full, .sl es' n' off' len' full' => decide (es = es') && decide (n = n') && decide (off = off') && decide (len = len') && (full == full')
    | .nilP, .nilP => true
    | .ptr n off, .ptr n' off' => decide (n = n') && decide (off = off')
    | .nilF, .nilF => true
    | .nilM, .nilM => true
    | .mp n, .mp n' => decide (n = n')
    | .junk, .junk => true
    | _, _ => false

theorem eqA_ok : ∀ (d : Nat) (x y : AV), eqA d x y = true → x = y
  | 0, _, _, h => by simp [eqA] at h
  | d + 1, x, y, h => by
    unfold eqA at h
    split at h <;> first
      | rfl
      | (cases h; done)
      | (simp only [Bool.and_eq_true, decide_eq_true_eq] at h; rw [h.1, eqL_ok (eqA_ok d) _ _ h.2])
      | (rw [eqL_ok (eqA_ok d) _ _ h])
      | (simp only [Bool.and_eq_true, decide_eq_true_eq, beq_iff_eq] at h; simp [h])

def eqO : AObj → AObj → Bool
  | .cells rw l, .cells rw' l' => (rw == rw') && eqL (eqA 8) l l'
  | .dead, .dead => true
  | .mp [], .mp [] => true
  | _, _ => false

theorem eqO_ok (x y : AObj) (h : eqO x y = true) : x = y := by
  unfold eqO at h
  split at h
  · simp only [Bool.and_eq_true, beq_iff_eq] at h
    rw [h.1, eqL_ok (eqA_ok 8) _ _ h.2]
  · rfl
  · rfl
  · cases h

def preB : AHeap → AHeap → Bool
  | [], _ => true
  | x :: xs, y :: ys => eqO x y && preB xs ys
  | _ :: _, [] => false

theorem preB_ok : ∀ (a b : AHeap), preB a b = true → a <+: b
  | [], _, _ => List.nil_prefix
  | x :: xs, y :: ys, h => by
    simp only [preB, Bool.and_eq_true] at h
    rw [eqO_ok x y h.1]
    exact (List.cons_prefix_cons).2 ⟨rfl, preB_ok xs ys h.2⟩
  | _ :: _, [], h => by simp [preB] at h

abbrev Caller := FuncId → List AV → AHeap → Option (AV × AHeap)

def evA (call : Caller) (a : Act1) (S : List AV) (H : AHeap) : Option (AV × AHeap) :=
  match a with
  | .pu p => match pval p S with | some v => some (v, H) | none => none
  | .ld l => match lval l S H with | some v => some (v, H) | none => none
  | .ha h => hval h S H
  | .call f args => call f (args.map (rd S)) H
  | .callv x args => match rd S x with | .fn f cap => call f (args.map (rd S) ++ cap) H | _ => none

def evO (call : Caller) : List MOp → List AV → AHeap → Option (List AV × AHeap)
  | [], S, H => some (S, H)
  | o :: r, S, H =>
    match wantedA S o.guard with
    | none => none
    | some false => evO call r (skipS S o) H
    | some true =>
      match evA call o.act S H with
      | none => none
      | some (v, H') => if (!o.ext || preB H H') = true then evO call r (putS S o.w v) H' else none

def evM (call : Caller) : Nat → MCode → List AV → AHeap → Option (MX × List AV × AHeap)
  | 0, _, _, _ => none
  | n + 1, c, S, H =>
    match c with
    | .skip => some (.normal, S, H)
    | .ops l => match evO call l S H with | some (S', H') => some (.normal, S', H') | none => none
    | .seq a b => match evM call n a S H with
      | some (.normal, S', H') => evM call n b S' H'
      | r => r
    | .cond c a b => match rd S c with
      | .bool true => evM call n a S H
      | .bool false => evM call n b S H
      | _ => none
    | .block id a => match evM call n a S H with
      | some (.exit id', S', H') => if id' = id then some (.normal, S', H') else some (.exit id', S', H')
      | r => r
    | .loop a => match evM call n a S H with
      | some (.normal, S', H') => evM call n (.loop a) S' H'
      | r => r
    | .cut a => evM call n a S H
    | .exit id => some (.exit id, S, H)
    | .ret => some (.ret, S, H)
    | .fail => none

section
variable {P : Program} {call : Caller}

theorem evA_ok (hc : ∀ f args H v H', call f args H = some (v, H') → ACalls P f args H v H') {a : Act1} {S : List AV} {H : AHeap} {v : AV} {H' : AHeap} (h : evA call a S H = some (v, H')) : a.out P S H v H' := by
  cases a with
  | pu p =>
    simp only [evA] at h
    split at h
    · rename_i u hu; cases h; exact ⟨hu, rfl⟩
    · cases h
  | ld l =>
    simp only [evA] at h
    split at h
    · rename_i u hu; cases h; exact ⟨hu, rfl⟩
    · cases h
  | ha x => exact h
  | call f args => exact hc _ _ _ _ _ h
  | callv x args =>
    simp only [evA] at h
    split at h
    · rename_i f cap hx; exact ⟨f, cap, hx, hc _ _ _ _ _ h⟩
    · cases h

theorem evO_ok (hc : ∀ f args H v H', call f args H = some (v, H') → ACalls P f args H v H') : ∀ (l : List MOp) {Q : List AV → AHeap → Prop} {S : List AV} {H : AHeap} {S' : List AV} {H' : AHeap}, evO call l S H = some (S', H') → Q S' H' → AOps P l Q S H := by
  intro l
  induction l with
  | nil => intro Q S H S' H' h hq; simp only [evO, Option.some.injEq, Prod.mk.injEq] at h; rw [← h.1, ← h.2] at hq; exact hq
  | cons o r ih =>
    intro Q S H S' H' h hq
    simp only [evO] at h
    simp only [AOps]
    split at h
    · cases h
    · rename_i hw; rw [hw]; simp only [Bool.false_eq_true, if_false]; exact ih h hq
    · rename_i hw
      rw [hw]
      simp only [if_true]
      split at h
      · cases h
      · rename_i v H1 hv
        split at h
        · rename_i he
          refine ⟨v, H1, evA_ok hc hv, fun hx => ?_, ih h hq⟩
          rw [hx] at he
          exact preB_ok _ _ (by simpa using he)
        · cases h

theorem evM_ok (hc : ∀ f args H v H', call f args H = some (v, H') → ACalls P f args H v H') : ∀ (n : Nat) (m : MCode) {Q : Post} {S : List AV} {H : AHeap} {e : MX} {S' : List AV} {H' : AHeap}, evM call n m S H = some (e, S', H') → Q e S' H' → AW P m Q S H := by
  intro n
  induction n using Nat.strongRecOn with
  | _ n ih =>
  intro m Q S H e S' H' h hq
  cases n with
  | zero => simp [evM] at h
  | succ n =>
    cases m with
    | skip => simp only [evM, Option.some.injEq, Prod.mk.injEq] at h; obtain ⟨rfl, rfl, rfl⟩ := h; exact hq
    | ops l =>
      simp only [evM] at h
      split at h
      · rename_i S1 H1 h1; cases h; exact evO_ok hc l h1 hq
      · cases h
    | seq a b =>
      simp only [evM] at h
      split at h
      · rename_i S1 H1 h1
        exact ih n (by omega) a h1 (Q := MX.then (AW P b Q) Q) (ih n (by omega) b h hq)
      · rename_i h1
        refine ih n (by omega) a h (Q := MX.then (AW P b Q) Q) ?_
        cases e with
        | normal => exact absurd h (h1 _ _)
        | exit id => exact hq
        | ret => exact hq
    | cond c a b =>
      simp only [evM] at h
      simp only [AW]
      split at h
      · rename_i hb; rw [hb]; exact ih n (by omega) a h hq
      · rename_i hb; rw [hb]; exact ih n (by omega) b h hq
      · cases h
    | block id a =>
      simp only [evM] at h
      split at h
      · rename_i id' S1 H1 h1
        refine ih n (by omega) a h1 (Q := MX.inBlock id Q) ?_
        simp only [MX.inBlock]
        split at h
        · rename_i hi; rw [if_pos hi]; cases h; exact hq
        · rename_i hi; rw [if_neg hi]; cases h; exact hq
      · rename_i h1
        refine ih n (by omega) a h (Q := MX.inBlock id Q) ?_
        cases e with
        | normal => exact hq
        | exit id' => exact absurd h (h1 _ _ _)
        | ret => exact hq
    | loop a =>
      refine ⟨fun k S H => k ≤ n + 1 ∧ evM call k (.loop a) S H = some (e, S', H'), ⟨n + 1, S, Forget.rfl', Nat.le_refl _, h⟩, ?_⟩
      rintro k S1 H1 ⟨hk, h1⟩
      cases k with
      | zero => simp [evM] at h1
      | succ k =>
        simp only [evM] at h1
        split at h1
        · rename_i S2 H2 h2
          exact ih k (by omega) a h2 (Q := MX.then _ Q) ⟨k, S2, by omega, Forget.rfl', by omega, h1⟩
        · rename_i h2
          refine ih k (by omega) a h1 (Q := MX.then _ Q) ?_
          cases e with
          | normal => exact absurd h1 (h2 _ _)
          | exit id => exact hq
          | ret => exact hq
    | cut a => exact AW_cut (ih n (by omega) a h hq)
    | exit id => simp only [evM, Option.some.injEq, Prod.mk.injEq] at h; obtain ⟨rfl, rfl, rfl⟩ := h; exact hq
    | ret => simp only [evM, Option.some.injEq, Prod.mk.injEq] at h; obtain ⟨rfl, rfl, rfl⟩ := h; exact hq
    | fail => simp [evM] at h

/-- A list of functions with their translations. -/
def TabOK (P : Program) : List (Nat × MFun) → Prop
  | [] => True
  | (f, m) :: r => (∃ fn bx cs, P.funcs[f]? = some fn ∧ (fn.name == "runtime.NumGoroutine") = false ∧ trF P bx cs fn = some m) ∧ TabOK P r

theorem TabOK.nil : TabOK P [] := trivial
theorem TabOK.cons {f : Nat} {m : MFun} {r : List (Nat × MFun)} {fn : Func} {bx cs : List Nat} (hf : P.funcs[f]? = some fn) (hn : (fn.name == "runtime.NumGoroutine") = false) (ht : trF P bx cs fn = some m) (h : TabOK P r) : TabOK P ((f, m) :: r) := ⟨⟨fn, bx, cs, hf, hn, ht⟩, h⟩

def findT (f : Nat) : List (Nat × MFun) → Option MFun
  | [] => none
  | (g, m) :: r => if Nat.beq f g = true then some m else findT f r

theorem findT_ok {f : Nat} {m : MFun} : ∀ {l : List (Nat × MFun)}, TabOK P l → findT f l = some m → ∃ fn bx cs, P.funcs[f]? = some fn ∧ (fn.name == "runtime.NumGoroutine") = false ∧ trF P bx cs fn = some m
  | [], _, h => by simp [findT] at h
  | (g, m') :: r, hl, h => by
    simp only [findT] at h
    split at h
    · rename_i hg
      have := Nat.eq_of_beq_eq_true hg
      subst this
      cases h; exact hl.1
    · exact findT_ok hl.2 h

def runF (tab : List (Nat × MFun)) (fuel : Nat) : Nat → Caller
  | 0, _, _, _ => none
  | n + 1, f, args, H =>
    match findT f tab with
    | none => none
    | some m =>
      if (m.bx.all fun d => Nat.ble args.length d) = true then
        match evM (runF tab fuel n) fuel m.body (args ++ List.replicate (m.nt - args.length) .junk) H with
        | some (.normal, S, H') => match resV m.res S with | some v => some (v, H') | none => none
        | some (.ret, S, H') => match resV m.res S with | some v => some (v, H') | none => none
        | _ => none
      else none

theorem runF_ok (hm : P.follows .mixedOrders = true) {tab : List (Nat × MFun)} (ht : TabOK P tab) (fuel : Nat) : ∀ (n : Nat) (f : FuncId) (args : List AV) (H : AHeap) (v : AV) (H' : AHeap), runF tab fuel n f args H = some (v, H') → ACalls P f args H v H' := by
  intro n
  induction n with
  | zero => intro f args H v H' h; simp [runF] at h
  | succ n ih =>
    intro f args H v H' h
    simp only [runF] at h
    split at h
    · cases h
    rename_i m hf
    split at h
    · rename_i hb
      obtain ⟨fn, bx, cs, hfn, hnm, htr⟩ := findT_ok ht hf
      refine acalls hm hfn hnm htr args.length rfl ?_ ?_
      · refine List.all_eq_true.2 fun d hd => ?_
        have := List.all_eq_true.1 hb d hd
        simpa using Nat.le_of_ble_eq_true this
      · split at h
        · rename_i S1 H1 h1
          split at h
          · rename_i v1 hv1
            cases h
            refine evM_ok ih fuel _ h1 ?_
            exact ⟨.inl rfl, _, hv1, gc_all⟩
          · cases h
        · rename_i S1 H1 h1
          split at h
          · rename_i v1 hv1
            cases h
            refine evM_ok ih fuel _ h1 ?_
            exact ⟨.inr rfl, _, hv1, gc_all⟩
          · cases h
        · cases h
    · cases h

/-- A call that looks at nothing in the heap answers the same in every heap. -/
theorem ACalls.lift {f : FuncId} {args : List AV} {v : AV} {H' : AHeap} (h : ACalls P f args [] v H') (ha : ∀ x ∈ args, flat x = true) (hv : flat v = true) (H : AHeap) : ACalls P f args H v H := by
  refine ⟨h.1, fun ρ w cargs hs hargs => ?_⟩
  have s0 : Sim (fun _ => none) [] w := ⟨fun _ _ e => (by cases e), fun _ _ _ e => (by cases e), fun _ _ _ _ e => (by cases e)⟩
  have fl : ∀ {ρ ρ' : Ren} {x : AV} {u : Value}, flat x = true → VR ρ x u → VR ρ' x u := by
    intro ρ ρ' x u hx hr
    cases hr <;> simp [flat] at hx <;> constructor
  have a0 : LR (fun _ => none) args cargs.toList := ⟨hargs.1, fun i x u hx hu => fl (ha x (List.mem_of_getElem? hx)) (hargs.2 i x u hx hu)⟩
  refine (h.2 _ w cargs s0 a0).mono ?_
  rintro e w' ⟨ρ', cv, rfl, h1, _, h3⟩
  have hk : ∀ b, b < w.heap.size → w'.heap[b]? = w.heap[b]? := fun b hb => h3.keep b hb (fun ⟨n, L, e, _⟩ => (by cases e))
  refine ⟨ρ, cv, rfl, fl hv h1, hs.world h3.size (fun n L e => hk _ (hs.dom n L e).2), ⟨fun _ _ => rfl, Nat.le_refl _, h3.os, h3.tape, h3.out, h3.size, fun b hb _ => hk b hb, fun _ h => .inr h, fun n L e => .inl (hs.dom n L e).1⟩⟩

end
end Go.Eng
