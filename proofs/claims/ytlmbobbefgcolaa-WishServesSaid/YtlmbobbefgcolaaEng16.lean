/- The abstract machine, part 16: functions; what a call leaves behind. No conditions. -/
import Derived.Test.YtlmbobbefgcolaaEng15
namespace Go.Eng
open Go

/-- Names are changed; what has no new name is forgotten. -/
def ren (f : Nat → Option Nat) : Nat → AV → AV
  | 0, _ => .junk
  | k + 1, .agg cs => .agg (cs.map (ren f k))
  | k + 1, .tuple cs => .tuple (cs.map (ren f k))
  | k + 1, .fn g cs => .fn g (cs.map (ren f k))
  | _ + 1, .sl es n off len full => match f n with | some m => .sl es m off len full | none => .junk
  | _ + 1, .ptr n off => match f n with | some m => .ptr m off | none => .junk
  | _ + 1, .mp n => match f n with | some m => .mp m | none => .junk
  | _ + 1, x => x

theorem VR.ren {ρ1 ρ' : Ren} {f : Nat → Option Nat} (hf : ∀ n m L, f n = some m → ρ1 n = some L → ρ' m = some L) : ∀ (k : Nat) {x : AV} {v : Value}, VR ρ1 x v → VR ρ' (Eng.ren f k x) v
  | 0, _, _, _ => .junk _
  | k + 1, x, v, h => by
    cases h with
    | junk v => exact .junk _
    | adr v => exact .adr _
    | bool b => exact .bool b
    | int k n => exact .int _ _
    | agg cs vs h1 h2 h3 =>
      refine .agg _ _ (by simpa using h1) (fun i y u hy hu => ?_) h3
      simp only [List.getElem?_map, Option.map_eq_some_iff] at hy
      obtain ⟨z, hz, rfl⟩ := hy
      exact VR.ren hf k (h2 i z u hz hu)
    | nilS => exact .nilS
    | sl es n off len full L a cap h1 h2 h3 h4 h5 =>
      simp only [Eng.ren]
      split
      · rename_i m hm; exact .sl _ _ _ _ _ L a cap (hf n m L hm h1) h2 h3 h4 h5
      · exact .junk _
    | nilP => exact .nilP
    | ptr n off L h1 =>
      simp only [Eng.ren]
      split
      · rename_i m hm; exact .ptr _ _ L (hf n m L hm h1)
      · exact .junk _
    | fn g cs vs h1 h2 =>
      refine .fn _ _ _ (by simpa using h1) (fun i y u hy hu => ?_)
      simp only [List.getElem?_map, Option.map_eq_some_iff] at hy
      obtain ⟨z, hz, rfl⟩ := hy
      exact VR.ren hf k (h2 i z u hz hu)
    | nilF => exact .nilF
    | nilM => exact .nilM
    | mp n L h1 h2 =>
      simp only [Eng.ren]
      split
      · rename_i m hm; exact .mp _ L (hf n m L hm h1) h2
      · exact .junk _
    | tuple cs vs h1 h2 =>
      refine .tuple _ _ (by simpa using h1) (fun i y u hy hu => ?_)
      simp only [List.getElem?_map, Option.map_eq_some_iff] at hy
      obtain ⟨z, hz, rfl⟩ := hy
      exact VR.ren hf k (h2 i z u hz hu)

theorem LR.ren {ρ1 ρ' : Ren} {f : Nat → Option Nat} (hf : ∀ n m L, f n = some m → ρ1 n = some L → ρ' m = some L) (k : Nat) {xs : List AV} {vs : List Value} (h : LR ρ1 xs vs) : LR ρ' (xs.map (Eng.ren f k)) vs := by
  refine ⟨by simp [h.1], fun i y u hy hu => ?_⟩
  simp only [List.getElem?_map, Option.map_eq_some_iff] at hy
  obtain ⟨z, hz, rfl⟩ := hy
  exact VR.ren hf k (h.2 i z u hz hu)

theorem LR.back {ρ ρ' : Ren} (h : Sub ρ ρ') {xs : List AV} {v0s vs : List Value} (r0 : LR ρ xs v0s) (r : LR ρ' xs vs) : LR ρ xs vs := by
  refine ⟨r.1, fun i x v hx hv => ?_⟩
  obtain ⟨v0, _, h0⟩ := r0.get hx
  exact h0.back h (r.2 i x v hx hv)

def renO (f : Nat → Option Nat) : AObj → AObj
  | .cells rw l => .cells rw (l.map (ren f 4))
  | .mp l => .mp (l.map fun p => (ren f 4 p.1, ren f 4 p.2))
  | .dead => .dead

/-- What of a heap is kept, and under which names. -/
def Keep (H H1 : AHeap) (f : Nat → Option Nat) (H' : AHeap) : Prop :=
  ∀ ρ0 w0 ρ1 w1, Sim ρ0 H w0 → Sim ρ1 H1 w1 → Step ρ0 H w0 ρ1 H1 w1 →
    ∃ ρ', Sim ρ' H' w1 ∧ Step ρ0 H w0 ρ' H' w1 ∧ (∀ n m L, f n = some m → ρ1 n = some L → ρ' m = some L) ∧
      (∀ m L, ρ' m = some L → ∃ n, f n = some m ∧ ρ1 n = some L ∧ (live H' m → live H1 n))

/-- Nothing is kept but what was there. -/
theorem keep_old {H H1 : AHeap} (hp : H <+: H1) : Keep H H1 (fun n => if n < H.length then some n else none) H := by
  intro ρ0 w0 ρ1 w1 s0 s1 st
  have hsub := st.sub s0
  have get : ∀ n, n < H.length → H1[n]? = H[n]? := fun n hn => prefix_get hp hn
  have lv : ∀ n, n < H.length → (live H1 n ↔ live H n) := fun n hn => by unfold live; rw [get n hn]
  refine ⟨ρ0, ⟨fun n L e => ⟨(s0.dom n L e).1, Nat.lt_of_lt_of_le (s0.dom n L e).2 st.size⟩, fun n L o e ho => ?_, s0.sep⟩, ⟨fun _ _ => rfl, Nat.le_refl _, st.os, st.tape, st.out, st.size, st.keep, fun _ h => .inr h, fun n L e => .inl (s0.dom n L e).1⟩, ?_, ?_⟩
  · have h0 := s0.obj n L o e ho
    have hn := (s0.dom n L e).1
    have h1 := s1.obj n L o (hsub n L e) (by rw [get n hn]; exact ho)
    cases o with
    | dead => trivial
    | cells rw l =>
      cases hb0 : w0.heap[L.b]? with
      | none => rw [hb0] at h0; exact h0.elim
      | some b0 =>
        rw [hb0] at h0
        cases b0 <;> try exact h0.elim
        cases hb : w1.heap[L.b]? with
        | none => rw [hb] at h1; exact h1.elim
        | some b =>
          rw [hb] at h1
          cases b <;> first | exact h1.elim | exact ⟨h1.1, h1.2.1, LR.back hsub h0.2.2.1 h1.2.2.1, h1.2.2.2⟩
    | mp l =>
      cases hb0 : w0.heap[L.b]? with
      | none => rw [hb0] at h0; exact h0.elim
      | some b0 =>
        rw [hb0] at h0
        cases b0 <;> try exact h0.elim
        cases hb : w1.heap[L.b]? with
        | none => rw [hb] at h1; exact h1.elim
        | some b =>
          rw [hb] at h1
          cases b <;> first | exact h1.elim | exact ⟨h1.1, LR.back hsub h0.2.1 h1.2.1, LR.back hsub h0.2.2 h1.2.2⟩
  · intro n m L hf hn
    simp only at hf
    split at hf
    · rename_i hlt
      cases hf
      rw [← st.old n hlt]; exact hn
    · cases hf
  · intro m L e
    have hm := (s0.dom m L e).1
    exact ⟨m, by simp [hm], hsub m L e, (lv m hm).2⟩

/-- One object more is kept. -/
theorem Keep.add {H H1 : AHeap} {f : Nat → Option Nat} {H' : AHeap} (h : Keep H H1 f H') {n : Nat} {o : AObj} (hn : H.length ≤ n) (hf : f n = none) (ho : H1[n]? = some o) :
    Keep H H1 (fun k => if k = n then some H'.length else f k) (H' ++ [renO f o]) := by
  intro ρ0 w0 ρ1 w1 s0 s1 st
  obtain ⟨ρ', s', st', k1, k2⟩ := h ρ0 w0 ρ1 w1 s0 s1 st
  cases hρ : ρ1 n with
  | none =>
    -- it does not exist in memory
    refine ⟨ρ', ⟨fun m L e => ⟨by simp; have := (s'.dom m L e).1; omega, (s'.dom m L e).2⟩, fun m L o' e ho' => ?_, fun m m' L L' e e' hne l1 l2 hb => ?_⟩, ⟨st'.old, ?_, st'.os, st'.tape, st'.out, st'.size, st'.keep, ?_, st'.fresh⟩, ?_, ?_⟩
    · have hm := (s'.dom m L e).1
      rw [List.getElem?_append_left hm] at ho'
      exact s'.obj m L o' e ho'
    · exact s'.sep m m' L L' e e' hne ((live_append (s'.dom m L e).1).1 l1) ((live_append (s'.dom m' L' e').1).1 l2) hb
    · have := st'.len; simp; omega
    · rintro b ⟨m, L, e, h1, h2, h3⟩
      exact st'.own b ⟨m, L, e, h1, h2, (live_append (s'.dom m L e).1).1 h3⟩
    · intro k m L hk hL
      simp only at hk
      split at hk
      · rename_i hkn; subst hkn; rw [hρ] at hL; cases hL
      · exact k1 k m L hk hL
    · intro m L e
      obtain ⟨n', h1, h2, h3⟩ := k2 m L e
      refine ⟨n', ?_, h2, fun hl => h3 ((live_append (s'.dom m L e).1).1 hl)⟩
      have : n' ≠ n := by rintro rfl; rw [hf] at h1; cases h1
      simp [this, h1]
  | some L =>
    have hnone : ρ' H'.length = none := s'.none_of_len
    have hsub : Sub ρ' (ρ'.put H'.length L) := Sub.put hnone
    have cs : ∀ {m M}, (ρ'.put H'.length L) m = some M → (m = H'.length ∧ M = L) ∨ (ρ' m = some M ∧ m < H'.length) := by
      intro m M e
      unfold Ren.put at e
      split at e
      · rename_i hm; cases e; exact .inl ⟨hm, rfl⟩
      · exact .inr ⟨e, (s'.dom m M e).1⟩
    have kf : ∀ k m M, f k = some m → ρ1 k = some M → (ρ'.put H'.length L) m = some M := fun k m M hk hM => hsub m M (k1 k m M hk hM)
    have hlast : (H' ++ [renO f o])[H'.length]? = some (renO f o) := by simp
    have hlive : live (H' ++ [renO f o]) H'.length → live H1 n := by
      rintro ⟨o', h1, h2⟩
      rw [hlast] at h1; cases h1
      refine ⟨o, ho, ?_⟩
      rintro rfl
      exact h2 rfl
    have hdom := s1.dom n L hρ
    refine ⟨ρ'.put H'.length L, ⟨?_, ?_, ?_⟩, ⟨?_, ?_, st'.os, st'.tape, st'.out, st'.size, st'.keep, ?_, ?_⟩, ?_, ?_⟩
    · intro m M e
      rcases cs e with ⟨rfl, rfl⟩ | ⟨e', hm⟩
      · exact ⟨by simp, hdom.2⟩
      · exact ⟨by simp; omega, (s'.dom m M e').2⟩
    · intro m M o' e ho'
      rcases cs e with ⟨rfl, rfl⟩ | ⟨e', hm⟩
      · rw [hlast] at ho'; cases ho'
        have h1 := s1.obj n M o hρ ho
        cases o with
        | dead => trivial
        | cells rw l =>
          cases hb : w1.heap[M.b]? with
          | none => rw [hb] at h1; exact h1.elim
          | some b =>
            rw [hb] at h1
            cases b <;> try exact h1.elim
            refine ⟨h1.1, h1.2.1, ?_, ?_⟩
            · have := LR.ren kf 4 h1.2.2.1
              simpa using this
            · simpa using h1.2.2.2
        | mp l =>
          cases hb : w1.heap[M.b]? with
          | none => rw [hb] at h1; exact h1.elim
          | some b =>
            rw [hb] at h1
            cases b <;> try exact h1.elim
            refine ⟨h1.1, ?_, ?_⟩
            · have := LR.ren kf 4 h1.2.1
              simpa [List.map_map, Function.comp_def] using this
            · have := LR.ren kf 4 h1.2.2
              simpa [List.map_map, Function.comp_def] using this
      · rw [List.getElem?_append_left hm] at ho'
        exact (s'.obj m M o' e' ho').mono hsub
    · intro m m' M M' e e' hne l1 l2 hb
      rcases cs e with ⟨rfl, rfl⟩ | ⟨e1, hm⟩ <;> rcases cs e' with ⟨rfl, rfl⟩ | ⟨e2, hm'⟩
      · exact absurd rfl hne
      · obtain ⟨n', g1, g2, g3⟩ := k2 m' M' e2
        have hnn : n ≠ n' := by rintro rfl; rw [hf] at g1; cases g1
        exact s1.sep n n' M M' hρ g2 hnn (hlive l1) (g3 ((live_append hm').1 l2)) hb
      · obtain ⟨n', g1, g2, g3⟩ := k2 m M e1
        have hnn : n' ≠ n := by rintro rfl; rw [hf] at g1; cases g1
        exact s1.sep n' n M M' g2 hρ hnn (g3 ((live_append hm).1 l1)) (hlive l2) hb
      · exact s'.sep m m' M M' e1 e2 hne ((live_append hm).1 l1) ((live_append hm').1 l2) hb
    · intro k hk
      have := st'.len
      unfold Ren.put
      rw [if_neg (by omega)]
      exact st'.old k hk
    · have := st'.len; simp; omega
    · rintro b ⟨m, M, e, h1, h2, h3⟩
      rcases cs e with ⟨rfl, rfl⟩ | ⟨e1, hm⟩
      · exact st.own b ⟨n, M, hρ, h1, h2, hlive h3⟩
      · exact st'.own b ⟨m, M, e1, h1, h2, (live_append hm).1 h3⟩
    · intro m M e
      rcases cs e with ⟨rfl, rfl⟩ | ⟨e1, hm⟩
      · rcases st.fresh n M hρ with h | h | h
        · omega
        · exact .inr (.inl h)
        · exact .inr (.inr h)
      · exact st'.fresh m M e1
    · intro k m M hk hM
      simp only at hk
      split at hk
      · rename_i hkn
        subst hkn
        cases hk
        rw [hρ] at hM; cases hM
        exact put_self
      · exact kf k m M hk hM
    · intro m M e
      rcases cs e with ⟨rfl, rfl⟩ | ⟨e1, hm⟩
      · exact ⟨n, by simp, hρ, hlive⟩
      · obtain ⟨n', g1, g2, g3⟩ := k2 m M e1
        refine ⟨n', ?_, g2, fun hl => g3 ((live_append hm).1 hl)⟩
        have : n' ≠ n := by rintro rfl; rw [hf] at g1; cases g1
        simp [this, g1]

/-- What a call hands back, and the heap that it leaves. -/
def GC (H : AHeap) (v1 : AV) (H1 : AHeap) (v : AV) (H' : AHeap) : Prop :=
  ∀ ρ0 w0 ρ1 w1 cv, Sim ρ0 H w0 → Sim ρ1 H1 w1 → Step ρ0 H w0 ρ1 H1 w1 → VR ρ1 v1 cv → ∃ ρ', VR ρ' v cv ∧ Sim ρ' H' w1 ∧ Step ρ0 H w0 ρ' H' w1

theorem gc_all {H : AHeap} {v1 : AV} {H1 : AHeap} : GC H v1 H1 v1 H1 := fun _ _ ρ1 _ _ _ s1 st hv => ⟨ρ1, hv, s1, st⟩
theorem gc_keep {H : AHeap} {v1 v : AV} {H1 H' : AHeap} {f : Nat → Option Nat} (h : Keep H H1 f H') (hv : ren f 4 v1 = v) : GC H v1 H1 v H' := by
  intro ρ0 w0 ρ1 w1 cv s0 s1 st hr
  obtain ⟨ρ', s', st', k1, _⟩ := h ρ0 w0 ρ1 w1 s0 s1 st
  subst hv
  exact ⟨ρ', VR.ren k1 4 hr, s', st'⟩

section
variable {P : Program}

def readRes (tmps : Array Value) : ResultVar → Sem Value
  | .tmp t => pure (tmps.getD t undef)
  | .cell a t => do loadVar t (← asAddr (tmps.getD a undef))

theorem resL_ok {ρ0 : Ren} {H0 : AHeap} {w0 : World} {bx : List Nat} {β : Nat → Option Nat} {ρ : Ren} {S : List AV} {H : AHeap} {a : Act} {w : World} (F : Fr ρ0 H0 w0 bx β ρ S H a w) :
    ∀ (rs : List ResultVar) (ps : List PAct) (vs : List AV), rs.mapM (trRes P bx) = some ps → resL ps S = some vs →
      ∃ cvs : List Value, (rs.mapM (readRes a.tmps)).run P w = .ok cvs w ∧ LR ρ vs cvs
  | [], ps, vs, h, hr => by
    simp at h
    subst h
    simp [resL] at hr
    subst hr
    exact ⟨[], by simp, LR.nil⟩
  | r :: rs, ps, vs, h, hr => by
    rw [List.mapM_cons] at h
    simp only [Option.bind_eq_bind, Option.bind_eq_some_iff, Option.pure_def, Option.some.injEq] at h
    obtain ⟨p, hp, ps', hps, rfl⟩ := h
    unfold resL at hr
    split at hr
    case h_2 => cases hr
    rename_i v vs' hv hvs
    cases hr
    obtain ⟨cvs, h1, h2⟩ := resL_ok F rs ps' vs' hps hvs
    have one : ∃ cv, (readRes a.tmps r).run P w = .ok cv w ∧ VR ρ v cv := by
      cases r with
      | tmp t =>
        simp only [trRes] at hp
        split at hp
        · cases hp
        rename_i ht
        cases hp
        simp only [pval, Option.some.injEq] at hv
        subst hv
        exact ⟨_, rfl, F.slots t (by simpa using ht)⟩
      | cell ad t =>
        simp only [trRes] at hp
        split at hp
        case isFalse => cases hp
        rename_i hb
        split at hp
        case h_2 => cases hp
        rename_i s ag hs hag
        cases hp
        have hv : bgot (rd S (.s ad)) 0 s ag = some v := hv
        rcases F.boxes ad hb with hj | ⟨b, cs, T, l, g1, g2, g3, g4, g5, g6⟩
        · rw [hj] at hv; simp [bgot] at hv
        · obtain ⟨cv, k1, k2⟩ := box_load (P := P) g3 g4 g5 g6 hs hag hv
          refine ⟨cv, ?_, k2⟩
          simp only [readRes, g2, asAddr]
          simpa [Instr.loadAt, Instr.sureAddr] using k1
    obtain ⟨cv, g1, g2⟩ := one
    refine ⟨cv :: cvs, ?_, LR.cons g2 h2⟩
    rw [List.mapM_cons, Sem.run_bind, g1, Result.andThen_ok, Sem.run_bind, h1]
    rfl

/-- A function's contract, from its body. -/
theorem calls_of_aw (hm : P.follows .mixedOrders = true) {f : FuncId} {fn : Func} (hf : P.funcs[f]? = some fn) (hn : (fn.name == "runtime.NumGoroutine") = false) {bx cs : List Nat} {m : MFun} (ht : trF P bx cs fn = some m) {args : List AV} {H H' : AHeap} {v : AV}
    (hb : m.bx.all (fun d => decide (args.length ≤ d)) = true)
    (hA : AW P m.body (fun e S H1 => (e = .normal ∨ e = .ret) ∧ ∃ v1, resV m.res S = some v1 ∧ GC H v1 H1 v H') (args ++ List.replicate (m.nt - args.length) .junk) H) : ACalls P f args H v H' := by
  unfold trF at ht
  split at ht
  · cases ht
  rename_i c hbody
  split at ht
  case h_2 => cases ht
  rename_i body rs hc hres
  split at ht
  case isFalse => cases ht
  cases ht
  refine ⟨⟨fn, hf, hn, by simp [hbody]⟩, ?_⟩
  intro ρ w cargs hs hargs
  have hlen : args.length = cargs.size := by simpa using hargs.1
  refine calls_of_wp hf hbody ?_
  have F : Fr ρ H w bx (fun _ => none) ρ (args ++ List.replicate (fn.ntmps - args.length) .junk) H { tmps := cargs ++ Array.replicate (fn.ntmps - cargs.size) undef, defers := [] } w := by
    refine ⟨hs, Step.refl _ _ _ hs, rfl, by simp [hlen], ?_, ?_, by simp⟩
    · intro i _
      have h1 : rd (args ++ List.replicate (fn.ntmps - args.length) .junk) (.s i) = if h : i < args.length then args[i] else .junk := by
        show (((args ++ List.replicate (fn.ntmps - args.length) .junk)[i]?).getD .junk) = _
        by_cases h : i < args.length
        · rw [dif_pos h, List.getElem?_append_left h, List.getElem?_eq_getElem h]; rfl
        · rw [dif_neg h, List.getElem?_append_right (by omega), List.getElem?_replicate]; split <;> rfl
      rw [h1]
      split
      · rename_i h
        have h2 : (cargs ++ Array.replicate (fn.ntmps - cargs.size) undef).getD i undef = cargs[i]'(by omega) := by
          rw [Array.getD_eq_getD_getElem?, Array.getElem?_append_left (by omega)]
          simp [show i < cargs.size by omega]
        rw [h2]
        exact hargs.2 i _ _ (by simp [h]) (by simp [show i < cargs.size by omega])
      · exact .junk _
    · intro d hd
      left
      have hge : args.length ≤ d := by
        have := List.all_eq_true.1 hb d (by simpa using hd)
        simpa using this
      show (((args ++ List.replicate (fn.ntmps - args.length) .junk)[d]?).getD .junk) = _
      rw [List.getElem?_append_right hge, List.getElem?_replicate]
      split <;> rfl
  refine wp_mono (code_sound hm c hc F hA) ?_
  rintro e a' w' ⟨me, ρ', β', S', H1, rfl, F', hend, v1, hv1, hgc⟩
  have key : ∃ cv, (results fn a'.tmps).run P w' = .ok cv w' ∧ VR ρ' v1 cv := by
    unfold resV at hv1
    have hrun : ∀ (vs : List AV), resL rs S' = some vs → ∃ cvs : List Value, LR ρ' vs cvs ∧ (results fn a'.tmps).run P w' = .ok (if h : cvs.length = 1 then cvs[0] else .tuple cvs.toArray) w' := by
      intro vs hvs
      obtain ⟨cvs, g1, g2⟩ := resL_ok F' fn.results.toList rs vs hres hvs
      refine ⟨cvs, g2, ?_⟩
      show (do let vs ← fn.results.mapM (readRes a'.tmps); pure (if h : vs.size = 1 then vs[0] else .tuple vs) : Sem Value).run P w' = _
      rw [Sem.run_bind, Array.mapM_eq_mapM_toList, Sem.run_map, g1]
      simp
    split at hv1
    · rename_i x hx
      cases hv1
      obtain ⟨cvs, g1, g2⟩ := hrun [v1] hx
      have hl : cvs.length = 1 := by simpa using g1.1.symm
      rw [dif_pos hl] at g2
      exact ⟨_, g2, g1.2 0 _ _ rfl (by simp [hl])⟩
    · rename_i xs hne hx
      cases hv1
      obtain ⟨cvs, g1, g2⟩ := hrun xs hx
      have hl : cvs.length ≠ 1 := by
        intro h1
        have h2 : xs.length = 1 := by rw [g1.1]; exact h1
        obtain ⟨x, rfl⟩ := List.length_eq_one_iff.1 h2
        exact hne x rfl
      rw [dif_neg hl] at g2
      exact ⟨_, g2, VR.tuple_iff.2 (by simpa using g1)⟩
    · cases hv1
  obtain ⟨cv, hrun, hvr⟩ := key
  obtain ⟨ρ2, g1, g2, g3⟩ := hgc ρ w ρ' w' cv hs F'.sim F'.step hvr
  rcases hend with rfl | rfl
  · exact ⟨F'.dfr, cv, hrun, ρ2, cv, rfl, g1, g2, g3⟩
  · exact ⟨F'.dfr, cv, hrun, ρ2, cv, rfl, g1, g2, g3⟩

end
end Go.Eng
