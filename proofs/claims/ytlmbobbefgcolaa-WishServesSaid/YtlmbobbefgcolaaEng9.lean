/- The abstract machine, part 9: maps, new variables. No conditions. -/
import Derived.Test.YtlmbobbefgcolaaEng8
namespace Go.Eng
open Go

section
variable {P : Program} {ρ : Ren} {H : AHeap} {w : World}

def intKeys (l : List (AV × AV)) : Bool := l.all (fun p => match p.1 with | .int .i64 _ => true | _ => false)

theorem findNow_ok (k : Int) (k0 : IntKind) : ∀ (l : List (AV × AV)) (es : List MapEntry) (i : Nat), LR ρ (l.map (·.1)) (es.map (·.key)) → LR ρ (l.map (·.2)) (es.map (·.val)) → intKeys l = true →
    (∀ v, findK k l = some v → ∃ j cv, Instr.findNow (.int k0) (.int .i64 k) es i = some (some (i + j, cv)) ∧ VR ρ v cv) ∧ (findK k l = none → Instr.findNow (.int k0) (.int .i64 k) es i = some none)
  | [], [], i, _, _, _ => by simp [findK, Instr.findNow]
  | [], _ :: _, _, h, _, _ => by have := h.1; simp at this
  | _ :: _, [], _, h, _, _ => by have := h.1; simp at this
  | (x, v) :: l, e :: es, i, h1, h2, hk => by
    simp only [intKeys, List.all_cons, Bool.and_eq_true] at hk
    obtain ⟨hx, hk⟩ := hk
    split at hx
    case h_2 => cases hx
    rename_i j
    have hkey := h1.head
    have hval := h2.head
    obtain ⟨ih1, ih2⟩ := findNow_ok k k0 l es (i + 1) h1.tail h2.tail hk
    simp only at hkey hval
    generalize hek : e.key = ek at hkey
    cases hkey
    by_cases hkj : k = j
    · subst hkj
      refine ⟨fun u hu => ?_, fun hu => ?_⟩
      · simp [findK] at hu
        subst hu
        exact ⟨0, e.val, by simp [Instr.findNow, hek, Instr.sameNow], hval⟩
      · simp [findK] at hu
    · have hb : (k == j) = false := by simpa using hkj
      refine ⟨fun u hu => ?_, fun hu => ?_⟩
      · simp [findK, hkj] at hu
        obtain ⟨m, cv, hm, hv⟩ := ih1 u hu
        exact ⟨m + 1, cv, by simp [Instr.findNow, hek, Instr.sameNow, hb, hm]; omega, hv⟩
      · simp [findK, hkj] at hu
        simp [Instr.findNow, hek, Instr.sameNow, hb, ih2 hu]

theorem run_checkKey (e : Bool) (kt : TypeId) (k0 : IntKind) (v : Value) (h : P.underlying kt = some (.int k0)) (n : Nat) : (Instr.checkKey e (n + 1) kt v).run P w = .ok () w := by
  simp [Instr.checkKey, run_underlying h]

theorem Sim.mapOf (hs : Sim ρ H w) {n : Nat} {L : Loc} {l : List (AV × AV)} (hn : ρ n = some L) (hl : H[n]? = some (.mp l)) :
    ∃ es clock, w.heap[L.b]? = some (.map es clock) ∧ L.own = true ∧ LR ρ (l.map (·.1)) (es.toList.map (·.key)) ∧ LR ρ (l.map (·.2)) (es.toList.map (·.val)) := by
  have h := hs.obj n L _ hn hl
  cases hb : w.heap[L.b]? with
  | none => rw [hb] at h; exact h.elim
  | some b =>
    rw [hb] at h
    cases b with
    | map es clock => exact ⟨es, clock, rfl, h⟩
    | _ => exact h.elim

theorem tzero_some {e : TypeId} {z : AV} (h : tzero P e = some z) : ∃ i v, P.info? e = some i ∧ i.zero = some v ∧ ∀ ρ, VR ρ z v := by
  unfold tzero at h
  cases hi : P.info? e with
  | none => simp [hi] at h
  | some i =>
    simp only [hi, Option.bind_some] at h
    cases hz : i.zero with
    | none => simp [hz] at h
    | some v =>
      simp only [hz, Option.bind_some] at h
      exact ⟨i, v, rfl, hz, fun ρ => trV_ok h⟩

theorem ok_look (hs : Sim ρ H w) {t kt e : TypeId} {z V : AV} {ok : Bool} {X K : AV} {cx ck : Value} (hu : P.underlying t = some (.map kt e)) (hk : P.underlying kt = some (.int .i64)) (hz : tzero P e = some z)
    (hx : VR ρ X cx) (hkv : VR ρ K ck) (S : List AV) (ox ok' : Opd) (hX : rd S ox = X) (hK : rd S ok' = K) (h : lval (.look z ok ox ok') S H = some V) :
    ∃ v, (Instr.lookup t cx ck ok).run P w = .ok v w ∧ VR ρ V v := by
  obtain ⟨i, zv, hi, hzv, hzr⟩ := tzero_some hz
  have tup : ∀ {a : AV} {v : Value} (b : Bool), VR ρ a v → VR ρ (.tuple [a, .bool b]) (.tuple #[v, .bool b]) := fun b h => VR.tuple_iff.2 (LR.cons h (LR.cons (.bool b) LR.nil))
  simp only [lval, hX, hK] at h
  split at h
  · rename_i n k
    split at h
    case h_2 => cases h
    rename_i l hl
    split at h
    case isFalse => cases h
    rename_i hkeys
    cases hkv
    cases hx with
    | mp _ L hn ho =>
      obtain ⟨es, clock, hb, _, h1, h2⟩ := hs.mapOf hn hl
      obtain ⟨f1, f2⟩ := findNow_ok k .i64 l es.toList 0 h1 h2 hkeys
      have hget : (getObj L.b).run P w = .ok (.map es clock) w := by simp [getObj, Sem.run, hb]
      cases hf : findK k l with
      | some v =>
        obtain ⟨j, cv, hj, hv⟩ := f1 v hf
        simp only [hf] at h
        cases h
        refine ⟨if ok then .tuple #[cv, .bool true] else cv, ?_, ?_⟩
        · simp [Instr.lookup, run_underlying hu, hget, run_checkKey (P := P) (w := w) _ kt .i64 _ hk 9999, Instr.findKey, run_underlying hk, hj]
        · cases ok
          · exact hv
          · exact tup true hv
      | none =>
        have hj := f2 hf
        simp only [hf] at h
        cases h
        refine ⟨if ok then .tuple #[zv, .bool false] else zv, ?_, ?_⟩
        · simp [Instr.lookup, run_underlying hu, hget, run_checkKey (P := P) (w := w) _ kt .i64 _ hk 9999, Instr.findKey, run_underlying hk, hj, zeroValue, typeInfo, hi, hzv]
        · cases ok
          · exact hzr ρ
          · exact tup false (hzr ρ)
  · cases h
    cases hx; cases hkv
    refine ⟨if ok then .tuple #[zv, .bool false] else zv, ?_, ?_⟩
    · simp [Instr.lookup, run_underlying hu, run_checkKey (P := P) (w := w) _ kt .i64 _ hk 9999, Instr.findKey, run_underlying hk, Instr.findNow, zeroValue, typeInfo, hi, hzv]
    · cases ok
      · exact hzr ρ
      · exact tup false (hzr ρ)
  · cases h

/-- A key's entry is written, or comes last. -/
theorem setK_ok (k : Int) (v : AV) (cv : Value) (hv : VR ρ v cv) (clock : Nat) : ∀ (l l' : List (AV × AV)) (es : List MapEntry) (i : Nat), LR ρ (l.map (·.1)) (es.map (·.key)) → LR ρ (l.map (·.2)) (es.map (·.val)) → setK k v l = some l' →
    (∃ (j : Nat) (u : Value) (hj : j < es.length), Instr.findNow (.int .i64) (.int .i64 k) es i = some (some (i + j, u)) ∧ es[j].key = .int .i64 k ∧
      LR ρ (l'.map (·.1)) ((es.modify j fun (e : MapEntry) => { e with key := .int .i64 k, val := cv }).map (·.key)) ∧ LR ρ (l'.map (·.2)) ((es.modify j fun (e : MapEntry) => { e with key := .int .i64 k, val := cv }).map (·.val))) ∨
    (Instr.findNow (.int .i64) (.int .i64 k) es i = some none ∧ LR ρ (l'.map (·.1)) ((es ++ [({ key := .int .i64 k, val := cv, born := clock } : MapEntry)]).map (·.key)) ∧ LR ρ (l'.map (·.2)) ((es ++ [({ key := .int .i64 k, val := cv, born := clock } : MapEntry)]).map (·.val)))
  | [], l', [], i, _, _, h => by
    simp [setK] at h
    subst h
    exact .inr ⟨by simp [Instr.findNow], LR.cons (.int _ _) LR.nil, LR.cons hv LR.nil⟩
  | [], _, _ :: _, _, h, _, _ => by have := h.1; simp at this
  | _ :: _, _, [], _, h, _, _ => by have := h.1; simp at this
  | (x, u) :: l, l', e :: es, i, h1, h2, h => by
    unfold setK at h
    split at h
    · simp at *
    · rename_i j u' r heq
      simp at heq
      obtain ⟨⟨rfl, rfl⟩, rfl⟩ := heq
      have hkey := h1.head
      have hval := h2.head
      simp only at hkey hval
      generalize hek : e.key = ek at hkey
      cases hkey
      split at h
      · rename_i hkj
        subst hkj
        cases h
        refine .inl ⟨0, e.val, by simp, by simp [Instr.findNow, hek, Instr.sameNow], by simpa using hek, ?_, ?_⟩
        · simpa using LR.cons (.int _ _) h1.tail
        · simpa using LR.cons hv h2.tail
      · rename_i hkj
        have hb : (k == j) = false := by simpa using hkj
        simp only [Option.map_eq_some_iff] at h
        obtain ⟨r', hr', rfl⟩ := h
        rcases setK_ok k v cv hv clock l r' es (i + 1) h1.tail h2.tail hr' with ⟨m, u2, hm, hf, hk2, g1, g2⟩ | ⟨hf, g1, g2⟩
        · refine .inl ⟨m + 1, u2, by simp; omega, by simp [Instr.findNow, hek, Instr.sameNow, hb, hf]; omega, by simpa using hk2, ?_, ?_⟩
          · simpa [hek] using LR.cons (VR.int _ _) g1
          · simpa using LR.cons hval g2
        · refine .inr ⟨by simp [Instr.findNow, hek, Instr.sameNow, hb, hf], ?_, ?_⟩
          · simpa [hek] using LR.cons (VR.int _ _) g1
          · simpa using LR.cons hval g2
    · cases h

theorem ok_mset (hs : Sim ρ H w) {t kt e : TypeId} {n : Nat} {k : Int} {V : AV} {l l' : List (AV × AV)} {cx ck cv : Value} (hu : P.underlying t = some (.map kt e)) (hk : P.underlying kt = some (.int .i64))
    (hx : VR ρ (.mp n) cx) (hkv : VR ρ (.int .i64 k) ck) (hv : VR ρ V cv) (hl : H[n]? = some (.mp l)) (h : setK k V l = some l') :
    ∃ w', (Instr.mapUpdate t cx ck cv).run P w = .ok () w' ∧ Sim ρ (H.set n (.mp l')) w' ∧ Step ρ H w ρ (H.set n (.mp l')) w' := by
  cases hkv
  cases hx with
  | mp _ L hn ho =>
    obtain ⟨es, clock, hb, hown, h1, h2⟩ := hs.mapOf hn hl
    have hget : (getObj L.b).run P w = .ok (.map es clock) w := by simp [getObj, Sem.run, hb]
    have hlt : L.b < w.heap.size := (hs.dom n L hn).2
    have hset : ∀ o, (setObj L.b o).run P w = .ok () { w with heap := w.heap.setIfInBounds L.b o } := by
      intro o; simp [setObj, Sem.run, hb]
    have fin : ∀ es' clock', LR ρ (l'.map (·.1)) (es'.toList.map (·.key)) → LR ρ (l'.map (·.2)) (es'.toList.map (·.val)) →
        Sim ρ (H.set n (.mp l')) { w with heap := w.heap.setIfInBounds L.b (.map es' clock') } ∧ Step ρ H w ρ (H.set n (.mp l')) { w with heap := w.heap.setIfInBounds L.b (.map es' clock') } := by
      intro es' clock' g1 g2
      refine hs.write hn hown hl (by simp) (by simp) (by simp) rfl rfl rfl (fun b hb' => ?_) ?_
      · simp [Ne.symm hb']
      · simp only [Array.getElem?_setIfInBounds, hlt, if_true]
        exact ⟨hown, g1, g2⟩
    rcases setK_ok k V cv hv clock l l' es.toList 0 h1 h2 h with ⟨j, u, hj, hf, hk2, g1, g2⟩ | ⟨hf, g1, g2⟩
    · have hj' : j < es.size := by simpa using hj
      have hkey : ((es[j]?).map (·.key)).getD (.int .i64 k) = .int .i64 k := by
        rw [Array.getElem?_eq_getElem hj']
        simpa using hk2
      obtain ⟨q1, q2⟩ := fin (es.modify j fun (e : MapEntry) => { e with key := .int .i64 k, val := cv }) clock (by simpa using g1) (by simpa using g2)
      refine ⟨_, ?_, q1, q2⟩
      simp only [Nat.zero_add] at hf
      simp [Instr.mapUpdate, run_underlying hu, hget, run_checkKey (P := P) (w := w) _ kt .i64 _ hk 9999, Instr.findKey, run_underlying hk, hf, hkey, Instr.keyThatStays, Instr.sameBits, hset]
    · obtain ⟨q1, q2⟩ := fin (es.push { key := .int .i64 k, val := cv, born := clock }) (clock + 1) (by simpa using g1) (by simpa using g2)
      refine ⟨_, ?_, q1, q2⟩
      simp [Instr.mapUpdate, run_underlying hu, hget, run_checkKey (P := P) (w := w) _ kt .i64 _ hk 9999, Instr.findKey, run_underlying hk, hf, hset]

theorem ok_mkm (hs : Sim ρ H w) (t : TypeId) : ∃ v w' ρ', (Instr.makeMap t none).run P w = .ok v w' ∧ VR ρ' (.mp H.length) v ∧ Sim ρ' (H ++ [.mp []]) w' ∧ Step ρ H w ρ' (H ++ [.mp []]) w' := by
  obtain ⟨h1, h2⟩ := hs.alloc (.mp []) (.map #[] 0) 0 ⟨rfl, by simpa using LR.nil, by simpa using LR.nil⟩
  exact ⟨_, _, _, by simp [Instr.makeMap], .mp _ _ put_self rfl, h1, h2⟩

theorem ok_newv (hs : Sim ρ H w) (T : TypeId) {x : AV} {cx : Value} {c : List AV} (hx : VR ρ x cx) (hc : x.cells? = some c) :
    ∃ ρ', VR ρ' (.ptr H.length 0) (.pointer (some ⟨w.heap.size, 0, none⟩)) ∧ Sim ρ' (H ++ [.cells true c]) (w.alloc (.cells cx.cells T)) ∧ Step ρ H w ρ' (H ++ [.cells true c]) (w.alloc (.cells cx.cells T)) := by
  obtain ⟨hr, ho⟩ := hx.cells hc
  obtain ⟨h1, h2⟩ := new_all hs T hr ho
  exact ⟨_, .ptr _ _ _ put_self, h1, h2⟩

end
end Go.Eng
