/- What the law's proof rests on, part 1: for all that is said in each line. No conditions. -/
import Derived.WalkKit
import Derived.Laws.CopyRow
import Derived.Laws.AppendOwn
import Derived.Laws.Slices
import Derived.Laws.StructEq
import Derived.Laws.MakeOwn
import Derived.Orders
import Derived.WalkSpells
namespace Go.Eng
open Go
/-- Abstract values. 'sl es n off len full': a slice of 'len' elements of 'es' cells each, from cell 'off' of object 'n' on; 'full': its capacity is its length. -/
inductive AV where
  | bool (b : Bool)
  | int (k : IntKind) (n : Int)
  | agg (cs : List AV)
  | nilS
  | sl (es n off len : Nat) (full : Bool)
  | nilP
  | ptr (n off : Nat)
  | fn (f : FuncId) (cap : List AV)
  | nilF
  | nilM
  | mp (n : Nat)
  | tuple (vs : List AV)
  | adr
  | yld (l : Nat)
  | bm (f : FuncId) (xs : List AV)
  | junk
  deriving Inhabited
abbrev I (n : Int) : AV := .int .i64 n
abbrev B (b : Bool) : AV := .bool b
abbrev undefA : AV := .tuple []
inductive AObj where
  | cells (rw : Bool) (l : List AV)
  | mp (l : List (AV × AV))
  | dead
  deriving Inhabited
abbrev AHeap := List AObj
/-- Where an object stands: block, first cell, whether the block is the call's own, and its size. -/
structure Loc where
  b : Nat
  o : Nat
  own : Bool
  sz : Nat
abbrev Ren := Nat → Option Loc
def Sub (ρ ρ' : Ren) : Prop := ∀ n L, ρ n = some L → ρ' n = some L
theorem Sub.refl (ρ : Ren) : Sub ρ ρ := fun _ _ h => h
theorem Sub.trans {a b c : Ren} (h : Sub a b) (k : Sub b c) : Sub a c := fun n L e => k n L (h n L e)
inductive VR (ρ : Ren) : AV → Value → Prop where
  | junk (v : Value) : VR ρ .junk v
  | adr (v : Value) : VR ρ .adr v
  | yld (l : Nat) : VR ρ (.yld l) (.func (.yield l) #[] #[])
  | bool (b : Bool) : VR ρ (.bool b) (.bool b)
  | int (k : IntKind) (n : Int) : VR ρ (.int k n) (.int k n)
  | agg (cs : List AV) (vs : Array Value) : cs.length = vs.size → (∀ (i : Nat) (x : AV) (v : Value), cs[i]? = some x → vs[i]? = some v → VR ρ x v) → (∀ v ∈ vs.toList, v.oneCell' = true) → VR ρ (.agg cs) (.agg vs)
  | nilS : VR ρ .nilS (.slice none 0 0)
  | sl (es n off len : Nat) (full : Bool) (L : Loc) (a : Addr) (cap : Nat) : ρ n = some L → len ≤ cap → (full = true → cap = len) → (a = ⟨L.b, L.o + off, none⟩ ∨ cap = 0) → (L.own = true → cap = 0 ∨ L.o + off + cap * es ≤ L.sz) →
      VR ρ (.sl es n off len full) (.slice (some a) len cap)
  | nilP : VR ρ .nilP (.pointer none)
  | ptr (n off : Nat) (L : Loc) : ρ n = some L → VR ρ (.ptr n off) (.pointer (some ⟨L.b, L.o + off, none⟩))
  | fn (f : FuncId) (cs : List AV) (vs : Array Value) : cs.length = vs.size → (∀ (i : Nat) (x : AV) (v : Value), cs[i]? = some x → vs[i]? = some v → VR ρ x v) → VR ρ (.fn f cs) (.func (.func f) #[] vs)
  | bm (f : FuncId) (cs : List AV) (vs : Array Value) : cs.length = vs.size → (∀ (i : Nat) (x : AV) (v : Value), cs[i]? = some x → vs[i]? = some v → VR ρ x v) → VR ρ (.bm f cs) (.func (.func f) vs #[])
  | nilF : VR ρ .nilF .nilFunc
  | nilM : VR ρ .nilM (.map none)
  | mp (n : Nat) (L : Loc) : ρ n = some L → L.o = 0 → VR ρ (.mp n) (.map (some L.b))
  | tuple (cs : List AV) (vs : Array Value) : cs.length = vs.size → (∀ (i : Nat) (x : AV) (v : Value), cs[i]? = some x → vs[i]? = some v → VR ρ x v) → VR ρ (.tuple cs) (.tuple vs)
/-- Two lists related cell by cell. -/
def LR (ρ : Ren) (xs : List AV) (vs : List Value) : Prop := xs.length = vs.length ∧ ∀ (i : Nat) (x : AV) (v : Value), xs[i]? = some x → vs[i]? = some v → VR ρ x v
theorem VR.mono {ρ ρ' : Ren} (h : Sub ρ ρ') {x : AV} {v : Value} (r : VR ρ x v) : VR ρ' x v := by
  induction r with
  | junk v => exact .junk v
  | adr v => exact .adr v
  | yld l => exact .yld l
  | bool b => exact .bool b
  | int k n => exact .int k n
  | agg cs vs hl _ ho ih => exact .agg cs vs hl ih ho
  | nilS => exact .nilS
  | sl es n off len full L a cap h1 h2 h3 h4 h5 => exact .sl es n off len full L a cap (h _ _ h1) h2 h3 h4 h5
  | nilP => exact .nilP
  | ptr n off L h1 => exact .ptr n off L (h _ _ h1)
  | fn f cs vs hl _ ih => exact .fn f cs vs hl ih
  | bm f cs vs hl _ ih => exact .bm f cs vs hl ih
  | nilF => exact .nilF
  | nilM => exact .nilM
  | mp n L h1 h2 => exact .mp n L (h _ _ h1) h2
  | tuple cs vs hl _ ih => exact .tuple cs vs hl ih
/-- What was readable under a smaller renaming stays so when the value is known under a greater one. -/
theorem VR.back {ρ ρ' : Ren} (h : Sub ρ ρ') {x : AV} {v0 : Value} (r0 : VR ρ x v0) : ∀ {v : Value}, VR ρ' x v → VR ρ x v := by
  induction r0 with
  | junk v => intro v r; exact .junk _
  | adr v => intro v r; exact .adr _
  | yld l => intro v r; cases r; exact .yld l
  | bool b => intro v r; cases r; exact .bool b
  | int k n => intro v r; cases r; exact .int k n
  | agg cs vs hl _ ho ih =>
    intro v r
    cases r with
    | agg _ vs' hl' h' ho' =>
      refine .agg _ _ hl' (fun i x v hx hv => ?_) ho'
      have hi : i < cs.length := (List.getElem?_eq_some_iff.1 hx).1
      have : i < vs.size := by omega
      exact ih i x vs[i] hx (by simp [this]) (h' i x v hx hv)
  | nilS => intro v r; cases r; exact .nilS
  | sl es n off len full L a cap h1 h2 h3 h4 h5 =>
    intro v r
    cases r with
    | sl _ _ _ _ _ L' a' cap' h1' h2' h3' h4' h5' =>
      have := h _ _ h1
      rw [this] at h1'; cases h1'
      exact .sl es n off len full L a' cap' h1 h2' h3' h4' h5'
  | nilP => intro v r; cases r; exact .nilP
  | ptr n off L h1 =>
    intro v r
    cases r with
    | ptr _ _ L' h1' =>
      have := h _ _ h1
      rw [this] at h1'; cases h1'
      exact .ptr n off L h1
  | fn f cs vs hl _ ih =>
    intro v r
    cases r with
    | fn _ _ vs' hl' h' =>
      refine .fn _ _ _ hl' (fun i x v hx hv => ?_)
      have hi : i < cs.length := (List.getElem?_eq_some_iff.1 hx).1
      have : i < vs.size := by omega
      exact ih i x vs[i] hx (by simp [this]) (h' i x v hx hv)
  | bm f cs vs hl _ ih =>
    intro v r
    cases r with
    | bm _ _ vs' hl' h' =>
      refine .bm _ _ _ hl' (fun i x v hx hv => ?_)
      have hi : i < cs.length := (List.getElem?_eq_some_iff.1 hx).1
      have : i < vs.size := by omega
      exact ih i x vs[i] hx (by simp [this]) (h' i x v hx hv)
  | nilF => intro v r; cases r; exact .nilF
  | nilM => intro v r; cases r; exact .nilM
  | mp n L h1 h2 =>
    intro v r
    cases r with
    | mp _ L' h1' h2' =>
      have := h _ _ h1
      rw [this] at h1'; cases h1'
      exact .mp n L h1 h2
  | tuple cs vs hl _ ih =>
    intro v r
    cases r with
    | tuple _ vs' hl' h' =>
      refine .tuple _ _ hl' (fun i x v hx hv => ?_)
      have hi : i < cs.length := (List.getElem?_eq_some_iff.1 hx).1
      have : i < vs.size := by omega
      exact ih i x vs[i] hx (by simp [this]) (h' i x v hx hv)
theorem LR.mono {ρ ρ' : Ren} (h : Sub ρ ρ') {xs : List AV} {vs : List Value} (r : LR ρ xs vs) : LR ρ' xs vs := ⟨r.1, fun i x v hx hv => (r.2 i x v hx hv).mono h⟩
theorem LR.nil {ρ : Ren} : LR ρ [] [] := ⟨rfl, fun i x v h => by simp at h⟩
theorem LR.cons {ρ : Ren} {x : AV} {v : Value} {xs : List AV} {vs : List Value} (h : VR ρ x v) (r : LR ρ xs vs) : LR ρ (x :: xs) (v :: vs) := by
  refine ⟨by simp [r.1], fun i y u hy hu => ?_⟩
  cases i with
  | zero => simp at hy hu; subst hy; subst hu; exact h
  | succ i => exact r.2 i y u (by simpa using hy) (by simpa using hu)
theorem LR.head {ρ : Ren} {x : AV} {v : Value} {xs : List AV} {vs : List Value} (r : LR ρ (x :: xs) (v :: vs)) : VR ρ x v := r.2 0 x v rfl rfl
theorem LR.tail {ρ : Ren} {x : AV} {v : Value} {xs : List AV} {vs : List Value} (r : LR ρ (x :: xs) (v :: vs)) : LR ρ xs vs :=
  ⟨by simpa using r.1, fun i y u hy hu => r.2 (i + 1) y u (by simpa using hy) (by simpa using hu)⟩
theorem LR.append {ρ : Ren} {xs ys : List AV} {vs us : List Value} (h : LR ρ xs vs) (k : LR ρ ys us) : LR ρ (xs ++ ys) (vs ++ us) := by
  refine ⟨by simp [h.1, k.1], fun i x v hx hv => ?_⟩
  rw [List.getElem?_append] at hx hv
  by_cases hi : i < xs.length
  · rw [if_pos hi] at hx; rw [if_pos (by rw [← h.1]; exact hi)] at hv
    exact h.2 i x v hx hv
  · rw [if_neg hi] at hx; rw [if_neg (by rw [← h.1]; exact hi)] at hv
    rw [h.1] at hx
    exact k.2 _ x v hx hv
theorem LR.take {ρ : Ren} {xs : List AV} {vs : List Value} (h : LR ρ xs vs) (n : Nat) : LR ρ (xs.take n) (vs.take n) := by
  refine ⟨by simp [h.1], fun i x v hx hv => ?_⟩
  rw [List.getElem?_take] at hx hv
  split at hx
  · rename_i hi; rw [if_pos hi] at hv; exact h.2 i x v hx hv
  · cases hx
theorem LR.drop {ρ : Ren} {xs : List AV} {vs : List Value} (h : LR ρ xs vs) (n : Nat) : LR ρ (xs.drop n) (vs.drop n) := by
  refine ⟨by simp [h.1], fun i x v hx hv => ?_⟩
  rw [List.getElem?_drop] at hx hv
  exact h.2 _ x v hx hv
theorem LR.get {ρ : Ren} {xs : List AV} {vs : List Value} (h : LR ρ xs vs) {i : Nat} {x : AV} (hx : xs[i]? = some x) : ∃ v, vs[i]? = some v ∧ VR ρ x v := by
  have hi : i < xs.length := (List.getElem?_eq_some_iff.1 hx).1
  have hj : i < vs.length := by rw [← h.1]; exact hi
  exact ⟨vs[i], by simp [hj], h.2 i x _ hx (by simp [hj])⟩
theorem VR.agg_iff {ρ : Ren} {cs : List AV} {vs : Array Value} : VR ρ (.agg cs) (.agg vs) ↔ LR ρ cs vs.toList ∧ ∀ v ∈ vs.toList, v.oneCell' = true := by
  constructor
  · intro h
    cases h with
    | agg _ _ h1 h2 h3 => exact ⟨⟨by simpa using h1, fun i x v hx hv => h2 i x v hx (by simpa using hv)⟩, h3⟩
  · rintro ⟨⟨h1, h2⟩, h3⟩
    exact .agg _ _ (by simpa using h1) (fun i x v hx hv => h2 i x v hx (by simpa using hv)) h3
theorem VR.tuple_iff {ρ : Ren} {cs : List AV} {vs : Array Value} : VR ρ (.tuple cs) (.tuple vs) ↔ LR ρ cs vs.toList := by
  constructor
  · intro h
    cases h with
    | tuple _ _ h1 h2 => exact ⟨by simpa using h1, fun i x v hx hv => h2 i x v hx (by simpa using hv)⟩
  · rintro ⟨h1, h2⟩
    exact .tuple _ _ (by simpa using h1) (fun i x v hx hv => h2 i x v hx (by simpa using hv))
theorem VR.fn_iff {ρ : Ren} {f : FuncId} {cs : List AV} {vs : Array Value} : VR ρ (.fn f cs) (.func (.func f) #[] vs) ↔ LR ρ cs vs.toList := by
  constructor
  · intro h
    cases h with
    | fn _ _ _ h1 h2 => exact ⟨by simpa using h1, fun i x v hx hv => h2 i x v hx (by simpa using hv)⟩
  · rintro ⟨h1, h2⟩
    exact .fn _ _ _ (by simpa using h1) (fun i x v hx hv => h2 i x v hx (by simpa using hv))
theorem VR.bm_iff {ρ : Ren} {f : FuncId} {cs : List AV} {vs : Array Value} : VR ρ (.bm f cs) (.func (.func f) vs #[]) ↔ LR ρ cs vs.toList := by
  constructor
  · intro h
    cases h with
    | bm _ _ _ h1 h2 => exact ⟨by simpa using h1, fun i x v hx hv => h2 i x v hx (by simpa using hv)⟩
  · rintro ⟨h1, h2⟩
    exact .bm _ _ _ (by simpa using h1) (fun i x v hx hv => h2 i x v hx (by simpa using hv))
/-- The cells of a value that a variable can hold. -/
def AV.cells? : AV → Option (List AV)
  | .agg l => some l
  | .tuple _ | .junk | .adr => none
  | x => some [x]
theorem VR.cells {ρ : Ren} {x : AV} {v : Value} {l : List AV} (h : VR ρ x v) (hx : x.cells? = some l) : LR ρ l v.cells.toList ∧ ∀ u ∈ v.cells.toList, u.oneCell' = true := by
  have one : ∀ {x : AV} {v : Value}, VR ρ x v → LR ρ [x] [v] := fun h => LR.cons h LR.nil
  cases h <;> simp only [AV.cells?, Option.some.injEq, reduceCtorEq] at hx <;> subst hx <;>
    first
      | (refine VR.agg_iff.1 ?_; constructor <;> assumption)
      | (refine ⟨one ?_, by simp [Value.cells, Value.oneCell']⟩; constructor <;> assumption)
      | (refine ⟨one ?_, by simp [Value.cells, Value.oneCell']⟩; constructor)
/-- An object in its block. -/
def ObjR (ρ : Ren) (L : Loc) : AObj → Option Obj → Prop
  | .dead, _ => True
  | .cells rw l, some (.cells cs _ fz) => (rw = true → L.own = true) ∧ (L.own = true → cs.size = L.sz ∧ fz = (0, 0)) ∧ LR ρ l ((cs.toList.drop L.o).take l.length) ∧ (∀ v ∈ (cs.toList.drop L.o).take l.length, v.oneCell' = true)
  | .mp l, some (.map es _) => L.own = true ∧ LR ρ (l.map (·.1)) (es.toList.map (·.key)) ∧ LR ρ (l.map (·.2)) (es.toList.map (·.val))
  | _, _ => False
def live (H : AHeap) (n : Nat) : Prop := ∃ o, H[n]? = some o ∧ o ≠ .dead
structure Sim (ρ : Ren) (H : AHeap) (w : World) : Prop where
  dom : ∀ n L, ρ n = some L → n < H.length ∧ L.b < w.heap.size
  obj : ∀ n L o, ρ n = some L → H[n]? = some o → ObjR ρ L o w.heap[L.b]?
  sep : ∀ n m L M, ρ n = some L → ρ m = some M → n ≠ m → live H n → live H m → L.b = M.b → L.own = false ∧ M.own = false
/-- The blocks that may be written. -/
def Own (ρ : Ren) (H : AHeap) (b : Nat) : Prop := ∃ n L, ρ n = some L ∧ L.own = true ∧ L.b = b ∧ live H n
/-- From (ρ, H, w) to (ρ', H', w'): old names stay where they are; of old memory only what is the call's own has turned. -/
structure Step (ρ : Ren) (H : AHeap) (w : World) (ρ' : Ren) (H' : AHeap) (w' : World) : Prop where
  old : ∀ n, n < H.length → ρ' n = ρ n
  len : H.length ≤ H'.length
  os : w'.os = w.os
  tape : w'.tape = w.tape
  out : w'.output = w.output
  size : w.heap.size ≤ w'.heap.size
  keep : ∀ b, b < w.heap.size → ¬ Own ρ H b → w'.heap[b]? = w.heap[b]?
  own : ∀ b, Own ρ' H' b → w.heap.size ≤ b ∨ Own ρ H b
  fresh : ∀ n L, ρ' n = some L → n < H.length ∨ w.heap.size ≤ L.b ∨ Own ρ H L.b
theorem Step.refl (ρ : Ren) (H : AHeap) (w : World) (h : Sim ρ H w) : Step ρ H w ρ H w :=
  ⟨fun _ _ => rfl, Nat.le_refl _, rfl, rfl, rfl, Nat.le_refl _, fun _ _ _ => rfl, fun _ h => .inr h, fun n L e => .inl (h.dom n L e).1⟩
theorem Step.trans {ρ ρ₁ ρ₂ : Ren} {H H₁ H₂ : AHeap} {w w₁ w₂ : World} (h : Step ρ H w ρ₁ H₁ w₁) (k : Step ρ₁ H₁ w₁ ρ₂ H₂ w₂) : Step ρ H w ρ₂ H₂ w₂ where
  old n hn := (k.old n (Nat.lt_of_lt_of_le hn h.len)).trans (h.old n hn)
  len := Nat.le_trans h.len k.len
  os := k.os.trans h.os
  tape := k.tape.trans h.tape
  out := k.out.trans h.out
  size := Nat.le_trans h.size k.size
  keep b hb ho := by
    rw [k.keep b (Nat.lt_of_lt_of_le hb h.size) (fun e => by
      rcases h.own b e with h1 | h1
      · omega
      · exact ho h1), h.keep b hb ho]
  own b hb := by
    rcases k.own b hb with h1 | h1
    · exact .inl (Nat.le_trans h.size h1)
    · exact h.own b h1
  fresh n L e := by
    rcases k.fresh n L e with h1 | h1 | h1
    · exact h.fresh n L ((k.old n h1) ▸ e)
    · exact .inr (.inl (Nat.le_trans h.size h1))
    · rcases h.own _ h1 with h2 | h2
      · exact .inr (.inl h2)
      · exact .inr (.inr h2)
theorem Step.sub {ρ ρ' : Ren} {H H' : AHeap} {w w' : World} (hs : Sim ρ H w) (h : Step ρ H w ρ' H' w') : Sub ρ ρ' :=
  fun n L e => by rw [h.old n (hs.dom n L e).1]; exact e
theorem ObjR.mono {ρ ρ' : Ren} (h : Sub ρ ρ') {L : Loc} {o : AObj} {b : Option Obj} (r : ObjR ρ L o b) : ObjR ρ' L o b := by
  cases o with
  | dead => trivial
  | cells rw l =>
    cases b with
    | none => exact r.elim
    | some b =>
      cases b <;> first | exact r.elim | exact ⟨r.1, r.2.1, r.2.2.1.mono h, r.2.2.2⟩
  | mp l =>
    cases b with
    | none => exact r.elim
    | some b =>
      cases b <;> first | exact r.elim | exact ⟨r.1, r.2.1.mono h, r.2.2.mono h⟩
/-- The world has changed, but not in the blocks that are in use. -/
theorem Sim.world {ρ : Ren} {H : AHeap} {w w' : World} (h : Sim ρ H w) (hs : w.heap.size ≤ w'.heap.size) (hb : ∀ n L, ρ n = some L → w'.heap[L.b]? = w.heap[L.b]?) : Sim ρ H w' where
  dom n L e := ⟨(h.dom n L e).1, Nat.lt_of_lt_of_le (h.dom n L e).2 hs⟩
  obj n L o e ho := by rw [hb n L e]; exact h.obj n L o e ho
  sep := h.sep
/-- A draw. -/
theorem Sim.drew {ρ : Ren} {H : AHeap} {w : World} (h : Sim ρ H w) : Sim ρ H w.drew := h.world (Nat.le_refl _) (fun _ _ _ => rfl)
theorem heap_alloc_lt (w : World) (o : Obj) {b : Nat} (h : b < w.heap.size) : (w.alloc o).heap[b]? = w.heap[b]? := by
  show (w.heap.push o)[b]? = _
  rw [Array.getElem?_push, if_neg (Nat.ne_of_lt h)]
theorem heap_alloc_at (w : World) (o : Obj) : (w.alloc o).heap[w.heap.size]? = some o := by
  show (w.heap.push o)[w.heap.size]? = _
  simp
/-- A block of the frame's own (no name). -/
theorem Sim.allocBox {ρ : Ren} {H : AHeap} {w : World} (h : Sim ρ H w) (o : Obj) : Sim ρ H (w.alloc o) :=
  h.world (by simp) (fun n L e => heap_alloc_lt w o (h.dom n L e).2)
theorem Step.allocBox {ρ : Ren} {H : AHeap} {w : World} (h : Sim ρ H w) (o : Obj) : Step ρ H w ρ H (w.alloc o) :=
  ⟨fun _ _ => rfl, Nat.le_refl _, rfl, rfl, rfl, by simp, fun b hb _ => heap_alloc_lt w o hb, fun _ h => .inr h, fun n L e => .inl (h.dom n L e).1⟩
def Ren.put (ρ : Ren) (n : Nat) (L : Loc) : Ren := fun m => if m = n then some L else ρ m
theorem Sub.put {ρ : Ren} {n : Nat} {L : Loc} (h : ρ n = none) : Sub ρ (ρ.put n L) := by
  intro m M e
  unfold Ren.put
  split
  · rename_i hm; subst hm; rw [h] at e; cases e
  · exact e
theorem Sim.none_of_len {ρ : Ren} {H : AHeap} {w : World} (h : Sim ρ H w) : ρ H.length = none := by
  cases e : ρ H.length with
  | none => rfl
  | some L => exact absurd (h.dom _ _ e).1 (Nat.lt_irrefl _)
theorem live_append {H : AHeap} {o : AObj} {n : Nat} (h : n < H.length) : live (H ++ [o]) n ↔ live H n := by
  unfold live
  rw [List.getElem?_append_left h]
/-- A new object in a new block. -/
theorem Sim.alloc {ρ : Ren} {H : AHeap} {w : World} (h : Sim ρ H w) (o : AObj) (ob : Obj) (sz : Nat)
    (hr : ObjR (ρ.put H.length ⟨w.heap.size, 0, true, sz⟩) ⟨w.heap.size, 0, true, sz⟩ o (some ob)) :
    Sim (ρ.put H.length ⟨w.heap.size, 0, true, sz⟩) (H ++ [o]) (w.alloc ob) ∧ Step ρ H w (ρ.put H.length ⟨w.heap.size, 0, true, sz⟩) (H ++ [o]) (w.alloc ob) := by
  have hsub : Sub ρ (ρ.put H.length ⟨w.heap.size, 0, true, sz⟩) := Sub.put h.none_of_len
  have cs : ∀ {n L}, (ρ.put H.length ⟨w.heap.size, 0, true, sz⟩) n = some L → (n = H.length ∧ L = ⟨w.heap.size, 0, true, sz⟩) ∨ (ρ n = some L ∧ n < H.length ∧ L.b < w.heap.size) := by
    intro n L e
    unfold Ren.put at e
    split at e
    · rename_i hn; cases e; exact .inl ⟨hn, rfl⟩
    · exact .inr ⟨e, (h.dom n L e).1, (h.dom n L e).2⟩
  refine ⟨⟨?_, ?_, ?_⟩, ⟨?_, ?_, rfl, rfl, rfl, ?_, ?_, ?_, ?_⟩⟩
  · intro n L e
    rcases cs e with ⟨rfl, rfl⟩ | ⟨_, h1, h2⟩
    · simp
    · simp; omega
  · intro n L o' e ho
    rcases cs e with ⟨rfl, rfl⟩ | ⟨e', h1, h2⟩
    · rw [List.getElem?_append_right (Nat.le_refl _)] at ho
      simp at ho; subst ho
      rw [heap_alloc_at]; exact hr
    · rw [List.getElem?_append_left h1] at ho
      rw [heap_alloc_lt w ob h2]
      exact (h.obj n L o' e' ho).mono hsub
  · intro n m L M en em hne hn hm hb
    rcases cs en with ⟨rfl, rfl⟩ | ⟨en', h1, h2⟩ <;> rcases cs em with ⟨rfl, rfl⟩ | ⟨em', k1, k2⟩
    · exact absurd rfl hne
    · simp at hb; omega
    · simp at hb; omega
    · exact h.sep n m L M en' em' hne ((live_append h1).1 hn) ((live_append k1).1 hm) hb
  · intro n hn; unfold Ren.put; rw [if_neg (Nat.ne_of_lt hn)]
  · simp
  · simp
  · intro b hb _; exact heap_alloc_lt w ob hb
  · rintro b ⟨n, L, e, h1, h2, h3⟩
    rcases cs e with ⟨rfl, rfl⟩ | ⟨e', k1, k2⟩
    · left; simp at h2; omega
    · right; exact ⟨n, L, e', h1, h2, (live_append k1).1 h3⟩
  · intro n L e
    rcases cs e with ⟨rfl, rfl⟩ | ⟨e', k1, k2⟩
    · right; left; simp
    · left; exact k1
theorem getElem?_set_live {H : AHeap} {m n : Nat} {o : AObj} (ho : o ≠ .dead) (hm : live H m) : live (H.set m o) n ↔ live H n := by
  unfold live
  by_cases e : m = n
  · subst e
    obtain ⟨o', h1, h2⟩ := hm
    have hl : m < H.length := (List.getElem?_eq_some_iff.1 h1).1
    exact ⟨fun _ => ⟨o', h1, h2⟩, fun _ => ⟨o, by simp [hl], ho⟩⟩
  · simp [e]
/-- An object of the call's own is written in place. -/
theorem Sim.write {ρ : Ren} {H : AHeap} {w w' : World} (h : Sim ρ H w) {n : Nat} {L : Loc} {o0 o : AObj} (hn : ρ n = some L) (hown : L.own = true) (h0 : H[n]? = some o0) (hd0 : o0 ≠ .dead) (hd : o ≠ .dead)
    (hsz : w'.heap.size = w.heap.size) (hos : w'.os = w.os) (htp : w'.tape = w.tape) (hout : w'.output = w.output) (hother : ∀ b, b ≠ L.b → w'.heap[b]? = w.heap[b]?)
    (hr : ObjR ρ L o w'.heap[L.b]?) : Sim ρ (H.set n o) w' ∧ Step ρ H w ρ (H.set n o) w' := by
  have hl : live H n := ⟨o0, h0, hd0⟩
  have hnl : n < H.length := (h.dom n L hn).1
  have lv : ∀ m, live (H.set n o) m ↔ live H m := fun m => getElem?_set_live hd hl
  refine ⟨⟨?_, ?_, ?_⟩, ⟨fun _ _ => rfl, by simp, hos, htp, hout, by omega, ?_, ?_, ?_⟩⟩
  · intro m M e; have := h.dom m M e; simp; omega
  · intro m M o' e ho
    by_cases hm : m = n
    · subst hm
      rw [hn] at e; cases e
      rw [List.getElem?_set] at ho
      simp [hnl] at ho
      subst ho; exact hr
    · rw [List.getElem?_set] at ho
      rw [if_neg (by omega)] at ho
      by_cases hb : M.b = L.b
      · by_cases hdd : o' = .dead
        · subst hdd; trivial
        · have := h.sep m n M L e hn hm ⟨o', ho, hdd⟩ hl hb
          rw [hown] at this; simp at this
      · rw [hother _ hb]; exact h.obj m M o' e ho
  · intro m k M K em ek hne hm hk hb
    exact h.sep m k M K em ek hne ((lv m).1 hm) ((lv k).1 hk) hb
  · intro b _ hno
    exact hother b (fun e => hno ⟨n, L, hn, hown, e.symm, hl⟩)
  · rintro b ⟨m, M, e, h1, h2, h3⟩
    exact .inr ⟨m, M, e, h1, h2, (lv m).1 h3⟩
  · intro m M e; exact .inl (h.dom m M e).1
end Go.Eng

namespace Go.Eng
open Go
inductive Opd where
  | s (i : Nat)
  | c (v : AV)
def rd (S : List AV) : Opd → AV
  | .s i => (S[i]?).getD .junk
  | .c v => v
def splice (l : List AV) (off : Nat) (c : List AV) : List AV := l.take off ++ c ++ l.drop (off + c.length)
/-- Operations that only look at slots. -/
inductive PAct where
  | mov (x : Opd)
  | pick (c a b : Opd)
  | bin (op : BinOp) (x y : Opd)
  | eqb (neg : Bool) (x y : Opd)
  | eqs (neg : Bool) (ks : List Bool) (x y : Opd)
  | isnil (neg : Bool) (x : Opd)
  | neg (x : Opd)
  | not (x : Opd)
  | build (zero : List AV) (parts : List (Nat × Nat × Opd))
  | part (off sz : Nat) (ag : Bool) (x : Opd)
  | aidx (n sz : Nat) (ag : Bool) (x i : Opd)
  | extr (i : Nat) (x : Opd)
  | len (x : Opd)
  | cap (x : Opd)
  | mm (mx : Bool) (x : Opd) (xs : List Opd)
  | idx (es : Nat) (x i : Opd)
  | fad (off : Nat) (x : Opd)
  | conv (k : IntKind) (x : Opd)
  | mkf (f : FuncId) (caps : List Opd)
  | mkb (f : FuncId) (xs : List Opd)
  | slc (es : Nat) (x : Opd) (lo hi mx : Option Opd)
  | bget (chk : Option Nat) (b off sz : Nat) (ag : Bool)
  | bset (chk : Option Nat) (b off sz : Nat) (x : Opd)
  | bnew (x : Opd)
  | badr (chk : Option Nat) (b : Nat)
  | fail
def binI (op : BinOp) : AV → AV → Option AV
  | .int k a, .int k' b =>
    match op with
    | .shl => if b < 0 then none else some (.int k (k.wrap (a * 2 ^ (min b.toNat k.bits))))
    | .shr => if b < 0 then none else some (.int k (a.fdiv (2 ^ (min b.toNat k.bits))))
    | op => if k ≠ k' then none else
      match op with
      | .add => some (.int k (k.wrap (a + b)))
      | .sub => some (.int k (k.wrap (a - b)))
      | .mul => some (.int k (k.wrap (a * b)))
      | .quo => if b = 0 then none else some (.int k (k.wrap (a.tdiv b)))
      | .rem => if b = 0 then none else some (.int k (a.tmod b))
      | .and => some (.int k (k.wrap ((BitVec.ofInt k.bits a &&& BitVec.ofInt k.bits b).toNat : Int)))
      | .or => some (.int k (k.wrap ((BitVec.ofInt k.bits a ||| BitVec.ofInt k.bits b).toNat : Int)))
      | .xor => some (.int k (k.wrap ((BitVec.ofInt k.bits a ^^^ BitVec.ofInt k.bits b).toNat : Int)))
      | .andNot => some (.int k (k.wrap ((BitVec.ofInt k.bits a &&& ~~~(BitVec.ofInt k.bits b)).toNat : Int)))
      | .eql => some (.bool (a == b))
      | .neq => some (.bool (a != b))
      | .lss => some (.bool (decide (a < b)))
      | .leq => some (.bool (decide (a ≤ b)))
      | .gtr => some (.bool (decide (b < a)))
      | .geq => some (.bool (decide (b ≤ a)))
      | .shl | .shr => none
  | _, _ => none
/-- Structs cell by cell; 'true': a number, 'false': a truth value. -/
def eqc : List Bool → List AV → List AV → Option Bool
  | [], [], [] => some true
  | true :: ks, .int k a :: xs, .int k' b :: ys => if k = k' then (eqc ks xs ys).map (fun r => (a == b) && r) else none
  | false :: ks, .bool a :: xs, .bool b :: ys => (eqc ks xs ys).map (fun r => (a == b) && r)
  | _, _, _ => none
def fillA : List (Nat × Nat × AV) → List AV → Option (List AV)
  | [], l => some l
  | (off, sz, v) :: r, l =>
    match v.cells? with
    | some c => if c.length = sz ∧ off + sz ≤ l.length then fillA r (splice l off c) else none
    | none => none
def partA (l : List AV) (off sz : Nat) (ag : Bool) : Option AV :=
  if off + sz ≤ l.length then (if ag then some (.agg ((l.drop off).take sz)) else (if sz = 1 then l[off]? else none)) else none
def mmA (mx : Bool) : AV → List AV → Option AV
  | x, [] => some x
  | .int k a, .int k' b :: r => if k = k' then mmA mx (.int k (if mx then max a b else min a b)) r else none
  | _, _ => none
def bnd (x : Option AV) (y : Nat) (d : Nat) : Option Nat :=
  match x with
  | none => some d
  | some (.int _ i) => if 0 ≤ i ∧ i ≤ y then some i.toNat else none
  | _ => none
def slcA (es : Nat) (x : AV) (lo hi mx : Option AV) : Option AV :=
  match x with
  | .nilS => match mx, bnd hi 0 0, bnd lo 0 0 with | none, some _, some _ => some .nilS | _, _, _ => none
  | .sl es' n off len full =>
    if es' ≠ es then none else
    match mx with
    | none =>
      match hi with
      | none => (bnd lo len 0).map fun l => .sl es n (off + l * es) (len - l) full
      | some h => (bnd (some h) len len).bind fun h => (bnd lo h 0).map fun l => .sl es n (off + l * es) (h - l) (full && (h == len))
    | some m => (bnd (some m) len len).bind fun m => match hi with
      | none => none
      | some h => (bnd (some h) m m).bind fun h => (bnd lo h 0).map fun l => .sl es n (off + l * es) (h - l) (h == m)
  | _ => none
def isCell : AV → Bool
  | .agg _ | .tuple _ | .junk | .adr => false
  | _ => true
/-- The content of a box after a store of 'x' into its cells from 'off' on. -/
def bput (old : AV) (off sz : Nat) (x : AV) : Option AV :=
  match x.cells? with
  | none => none
  | some c => if c.length ≠ sz then none else
    match old with
    | .agg l => if off + sz ≤ l.length then some (.agg (splice l off c)) else none
    | .junk | .tuple _ | .adr => none
    | _ => if off = 0 then (match c with | [y] => if isCell y then some y else none | _ => none) else none
def bgot (old : AV) (off sz : Nat) (ag : Bool) : Option AV :=
  match old with
  | .agg l => partA l off sz ag
  | .junk | .tuple _ | .adr => none
  | y => if off = 0 ∧ sz = 1 ∧ ag = false then some y else none
def isAdr : AV → Bool
  | .adr => true
  | _ => false
def chkd (chk : Option Nat) (S : List AV) : Bool :=
  match chk with
  | none => true
  | some t => isAdr (rd S (.s t))
def lenA : AV → Option AV
  | .nilS => some (I 0)
  | .sl _ _ _ len _ => some (I len)
  | _ => none
def capA : AV → Option AV
  | .nilS => some (I 0)
  | .sl _ _ _ len true => some (I len)
  | _ => none
def idxA (es : Nat) : AV → AV → Option AV
  | .sl _ n off len _, .int _ j => if 0 ≤ j ∧ j < len then some (.ptr n (off + j.toNat * es)) else none
  | _, _ => none
def pval : PAct → List AV → Option AV
  | .mov x, S => some (rd S x)
  | .pick c a b, S => match rd S c with | .bool t => some (if t then rd S a else rd S b) | _ => none
  | .bin op x y, S => binI op (rd S x) (rd S y)
  | .eqb neg x y, S => match rd S x, rd S y with | .bool a, .bool b => some (.bool (if neg then !(a == b) else a == b)) | _, _ => none
  | .eqs neg ks x y, S => match rd S x, rd S y with | .agg a, .agg b => (eqc ks a b).map fun r => .bool (if neg then !r else r) | _, _ => none
  | .isnil neg x, S => match rd S x with
    | .nilS => some (.bool (!neg))
    | .sl .. => some (.bool neg)
    | _ => none
  | .neg x, S => match rd S x with | .int k a => some (.int k (k.wrap (0 - a))) | _ => none
  | .not x, S => match rd S x with | .bool a => some (.bool (!a)) | _ => none
  | .build zero parts, S => (fillA (parts.map fun p => (p.1, p.2.1, rd S p.2.2)) zero).map .agg
  | .part off sz ag x, S => match rd S x with | .agg l => partA l off sz ag | _ => none
  | .aidx n sz ag x i, S => match rd S x, rd S i with | .agg l, .int _ j => if 0 ≤ j ∧ j < n then partA l (j.toNat * sz) sz ag else none | _, _ => none
  | .extr i x, S => match rd S x with | .tuple l => l[i]? | _ => none
  | .len x, S => lenA (rd S x)
  | .cap x, S => capA (rd S x)
  | .mm mx x xs, S => mmA mx (rd S x) (xs.map (rd S))
  | .idx es x i, S => idxA es (rd S x) (rd S i)
  | .fad off x, S => match rd S x with | .ptr n o => some (.ptr n (o + off)) | _ => none
  | .conv k x, S => match rd S x with | .int _ a => some (.int k (k.wrap a)) | _ => none
  | .mkf f caps, S => some (.fn f (caps.map (rd S)))
  | .mkb f xs, S => some (.bm f (xs.map (rd S)))
  | .slc es x lo hi mx, S => slcA es (rd S x) (lo.map (rd S)) (hi.map (rd S)) (mx.map (rd S))
  | .bget chk b off sz ag, S => if chkd chk S then bgot (rd S (.s b)) off sz ag else none
  | .bset chk b off sz x, S => if chkd chk S then bput (rd S (.s b)) off sz (rd S x) else none
  | .bnew x, S => match (rd S x).cells? with | some _ => some (rd S x) | none => none
  | .badr chk b, S => if chkd chk S then (match (rd S (.s b)).cells? with | some _ => some .adr | none => none) else none
  | .fail, _ => none
/-- Operations that look at the heap. -/
inductive LAct where
  | ld (sz : Nat) (ag : Bool) (p : Opd)
  | lenm (x : Opd)
  | look (zero : AV) (ok : Bool) (x key : Opd)
def cellsAt (H : AHeap) (n off cnt : Nat) : Option (List AV) :=
  match H[n]? with
  | some (.cells _ l) => if off + cnt ≤ l.length then some ((l.drop off).take cnt) else none
  | _ => none
/-- Maps: keys are integers. -/
def findK (k : Int) : List (AV × AV) → Option AV
  | [] => none
  | (.int .i64 j, v) :: r => if k = j then some v else findK k r
  | _ => none
def ldA (sz : Nat) (ag : Bool) (p : AV) (H : AHeap) : Option AV :=
  match p with
  | .ptr n off => match H[n]? with
    | some (.cells _ l) => partA l off sz ag
    | _ => none
  | _ => none
def lval : LAct → List AV → AHeap → Option AV
  | .ld sz ag p, S, H => ldA sz ag (rd S p) H
  | .lenm x, S, H => match rd S x with
    | .nilM => some (I 0)
    | .mp n => match H[n]? with | some (.mp l) => some (I l.length) | _ => none
    | _ => none
  | .look zero ok x key, S, H => match rd S x, rd S key with
    | .mp n, .int .i64 k => match H[n]? with
      | some (.mp l) => if l.all (fun p => match p.1 with | .int .i64 _ => true | _ => false) then
          (match findK k l with | some v => some (if ok then .tuple [v, .bool true] else v) | none => some (if ok then .tuple [zero, .bool false] else zero)) else none
      | _ => none
    | .nilM, .int .i64 _ => some (if ok then .tuple [zero, .bool false] else zero)
    | _, _ => none
/-- Operations that write the heap. -/
inductive HAct where
  | st (sz : Nat) (p x : Opd)
  | newv (x : Opd)
  | mks (es : Nat) (zero : List AV) (len cap : Opd)
  | blds (es n : Nat) (zero : List AV) (parts : List (Nat × Nat × Opd))
  | app (es : Nat) (x y : Opd)
  | appz (es : Nat) (zero : List AV) (x y : Opd)
  | cpy (es : Nat) (x y : Opd)
  | clr (es : Nat) (zero : List AV) (x : Opd)
  | mkm
  | mset (m k v : Opd)
def slCells (es : Nat) (H : AHeap) (x : AV) : Option (Nat × List AV) :=
  match x with
  | .nilS => some (0, [])
  | .sl es' n off len _ => if es' = es then (cellsAt H n off (len * es)).map fun l => (len, l) else none
  | _ => none
def lim : Nat := 2147483648
def appA (es : Nat) (H : AHeap) (x y : AV) : Option (AV × AHeap) :=
  match slCells es H y with
  | none => none
  | some (k, new) =>
    match x with
    | .nilS => if k = 0 then some (.nilS, H) else if k ≤ lim then some (.sl es H.length 0 k false, H ++ [.cells true new]) else none
    | .sl es' n off len full =>
      if k = 0 then some (x, H) else
      if es' = es ∧ len + k ≤ lim then
        match H[n]? with
        | some (.cells rw l) => if off + len * es ≤ l.length then
            (if full then some (.sl es H.length 0 (len + k) false, H ++ [.cells true ((l.drop off).take (len * es) ++ new)])
            else if rw then some (.sl es H.length 0 (len + k) false, H.set n .dead ++ [.cells true ((l.drop off).take (len * es) ++ new)])
            else none) else none
        | _ => none
      else none
    | _ => none
def repl (zero : List AV) : Nat → List AV
  | 0 => []
  | n + 1 => zero ++ repl zero n
/-- So many zeros behind a list of no elements. -/
def appzA (es : Nat) (zero : List AV) (H : AHeap) (x y : AV) : Option (AV × AHeap) :=
  match x, y with
  | .nilS, .int .i64 k => if 0 < k ∧ k ≤ lim then some (.sl es H.length 0 k.toNat false, H ++ [.cells true (repl zero k.toNat)]) else none
  | _, _ => none
def setK (k : Int) (v : AV) : List (AV × AV) → Option (List (AV × AV))
  | [] => some [(.int .i64 k, v)]
  | (.int .i64 j, u) :: r => if k = j then some ((.int .i64 k, v) :: r) else (setK k v r).map fun r => (.int .i64 j, u) :: r
  | _ => none
def hval : HAct → List AV → AHeap → Option (AV × AHeap)
  | .st sz p x, S, H => match rd S p, (rd S x).cells? with
    | .ptr n off, some c => match H[n]? with
      | some (.cells true l) => if c.length = sz ∧ off + sz ≤ l.length then some (undefA, H.set n (.cells true (splice l off c))) else none
      | _ => none
    | _, _ => none
  | .newv x, S, H => match (rd S x).cells? with
    | some c => some (.ptr H.length 0, H ++ [.cells true c])
    | none => none
  | .mks es zero len cap, S, H => match rd S len, rd S cap with
    | .int _ l, .int _ c => if 0 ≤ l ∧ l ≤ c ∧ c ≤ lim then some (.sl es H.length 0 l.toNat (l == c), H ++ [.cells true (repl zero c.toNat)]) else none
    | _, _ => none
  | .blds es n zero parts, S, H => match fillA (parts.map fun p => (p.1, p.2.1, rd S p.2.2)) (repl zero n) with
    | some l => some (.sl es H.length 0 n true, H ++ [.cells true l])
    | none => none
  | .app es x y, S, H => appA es H (rd S x) (rd S y)
  | .appz es zero x y, S, H => appzA es zero H (rd S x) (rd S y)
  | .cpy es x y, S, H => match rd S x, slCells es H (rd S y) with
    | .nilS, some _ => some (I 0, H)
    | .sl es' n off len _, some (k, new) => if es' = es then match H[n]? with
        | some (.cells true l) => if off + len * es ≤ l.length then some (I (min k len : Nat), H.set n (.cells true (splice l off (new.take (min k len * es))))) else none
        | _ => none
      else none
    | _, _ => none
  | .clr es zero x, S, H => match rd S x with
    | .nilS => some (undefA, H)
    | .sl es' n off len _ => if len = 0 then some (undefA, H) else if es' = es then match H[n]? with
        | some (.cells true l) => if off + len * es ≤ l.length then some (undefA, H.set n (.cells true (splice l off (repl zero len)))) else none
        | _ => none
      else none
    | _ => none
  | .mkm, _, H => some (.mp H.length, H ++ [.mp []])
  | .mset m k v, S, H => match rd S m, rd S k with
    | .mp n, .int .i64 k => match H[n]? with
      | some (.mp l) => match setK k (rd S v) l with | some l' => some (undefA, H.set n (.mp l')) | none => none
      | _ => none
    | _, _ => none
inductive Act1 where
  | pu (p : PAct)
  | ld (l : LAct)
  | ha (h : HAct)
  | call (f : FuncId) (args : List Opd)
  | callv (x : Opd) (args : List Opd)
structure MOp where
  w : Option Nat
  sk : Option AV
  guard : Option (Nat × Bool)
  ext : Bool
  act : Act1
/-- The contract of a function over the abstract machine. -/
def ACalls (P : Program) (f : FuncId) (args : List AV) (H : AHeap) (v : AV) (H' : AHeap) : Prop :=
  (∃ fn, P.funcs[f]? = some fn ∧ (fn.name == "runtime.NumGoroutine") = false ∧ fn.body.isNone = false) ∧
  ∀ (ρ : Ren) (w : World) (cargs : Array Value), Sim ρ H w → LR ρ args cargs.toList →
    Calls P f cargs w fun e w' => ∃ ρ' cv, e = .returned cv ∧ VR ρ' v cv ∧ Sim ρ' H' w' ∧ Step ρ H w ρ' H' w'
def Act1.out (P : Program) : Act1 → List AV → AHeap → AV → AHeap → Prop
  | .pu p, S, H, v, H' => pval p S = some v ∧ H' = H
  | .ld l, S, H, v, H' => lval l S H = some v ∧ H' = H
  | .ha h, S, H, v, H' => hval h S H = some (v, H')
  | .call f args, S, H, v, H' => ACalls P f (args.map (rd S)) H v H'
  | .callv x args, S, H, v, H' => (∃ f cap, rd S x = .fn f cap ∧ ACalls P f (args.map (rd S) ++ cap) H v H') ∨ ∃ f xs, rd S x = .bm f xs ∧ ACalls P f (xs ++ args.map (rd S)) H v H'
def putS (S : List AV) (w : Option Nat) (v : AV) : List AV := match w with | some d => S.set d v | none => S
def wantedA (S : List AV) : Option (Nat × Bool) → Option Bool
  | none => some true
  | some (d, want) => match rd S (.s d) with
    | .bool b => some (b == want)
    | .tuple [] => some false
    | _ => none
def skipS (S : List AV) (o : MOp) : List AV := match o.sk with | some v => putS S o.w v | none => S
def AOps (P : Program) : List MOp → (List AV → AHeap → Prop) → List AV → AHeap → Prop
  | [], Q, S, H => Q S H
  | o :: r, Q, S, H =>
    match wantedA S o.guard with
    | none => False
    | some t => if t = true then ∃ v H', o.act.out P S H v H' ∧ (o.ext = true → H <+: H') ∧ AOps P r Q (putS S o.w v) H'
      else AOps P r Q (skipS S o) H
inductive MCode where
  | skip
  | ops (l : List MOp)
  | ops2 (l l' : List MOp)
  | seq (a b : MCode)
  | cond (c : Opd) (a b : MCode)
  | block (id : Nat) (a : MCode)
  | loop (a : MCode)
  | exit (id : Nat)
  | cut (a : MCode)
  | label (l : Nat)
  | scope (g : Nat) (a r : MCode)
  | ret
  | fail
inductive MX where
  | normal
  | exit (id : Nat)
  | ret
abbrev Post := MX → List AV → AHeap → Prop
def MX.then (next : List AV → AHeap → Prop) (Q : Post) : Post
  | .normal, S, H => next S H
  | e, S, H => Q e S H
def MX.inBlock (id : Nat) (Q : Post) : Post
  | .exit id', S, H => if id' = id then Q .normal S H else Q (.exit id') S H
  | e, S, H => Q e S H
/-- A jump to a label is an exit with a number from here on. -/
def GB : Nat := 1000000
/-- In a scope with one label: a jump there, any other jump is no way out. -/
def MX.inScope (g : Nat) (K : List AV → AHeap → Prop) (Q : Post) : Post
  | .exit id, S, H => if id = g then K S H else if GB ≤ id then False else Q (.exit id) S H
  | e, S, H => Q e S H
/-- At the head of a round all that is known is what 'L' lists. -/
def Has (S : List AV) (L : List (Nat × AV)) : Prop := ∀ p ∈ L, rd S (.s p.1) = p.2
def mk (n : Nat) (L : List (Nat × AV)) : List AV := L.foldl (fun S p => S.set p.1 p.2) (List.replicate n .junk)
/-- 'S0' knows nothing that 'S' does not. -/
def Forget (S S0 : List AV) : Prop := S0.length = S.length ∧ ∀ i : Nat, rd S0 (.s i) = .junk ∨ rd S0 (.s i) = rd S (.s i)
def AW (P : Program) : MCode → Post → List AV → AHeap → Prop
  | .skip, Q, S, H => Q .normal S H
  | .ops l, Q, S, H => AOps P l (fun S H => Q .normal S H) S H
  | .ops2 l l', Q, S, H => AOps P l (fun S H => Q .normal S H) S H ∧ AOps P l' (fun S H => Q .normal S H) S H
  | .seq a b, Q, S, H => AW P a (MX.then (AW P b Q) Q) S H
  | .cond c a b, Q, S, H => match rd S c with
    | .bool t => if t = true then AW P a Q S H else AW P b Q S H
    | _ => False
  | .block id a, Q, S, H => AW P a (MX.inBlock id Q) S H
  | .loop a, Q, S, H => ∃ (J : Nat → List AV → AHeap → Prop), (∃ k S0, Forget S S0 ∧ J k S0 H) ∧
      ∀ k S H, J k S H → AW P a (MX.then (fun S' H' => ∃ k' S'', k' < k ∧ Forget S' S'' ∧ J k' S'' H') Q) S H
  | .cut a, Q, S, H => ∃ S0, Forget S S0 ∧ AW P a Q S0 H
  | .label _, Q, S, H => Q .normal S H
  | .scope g a r, Q, S, H => ∃ (J : Nat → List AV → AHeap → Prop), AW P a (MX.inScope g (fun S' H' => ∃ k S'', Forget S' S'' ∧ J k S'' H') Q) S H ∧
      ∀ k S H, J k S H → AW P r (MX.inScope g (fun S' H' => ∃ k' S'', k' < k ∧ Forget S' S'' ∧ J k' S'' H') Q) S H
  | .exit id, Q, S, H => Q (.exit id) S H
  | .ret, Q, S, H => Q .ret S H
  | .fail, _, _, _ => False
def trS : Value → Option AV
  | .bool b => some (.bool b)
  | .int k n => some (.int k n)
  | .slice none 0 0 => some .nilS
  | .pointer none => some .nilP
  | .nilFunc => some .nilF
  | .map none => some .nilM
  | _ => none
def trV : Value → Option AV
  | .agg cs => (cs.toList.mapM trS).map .agg
  | v => trS v
def trOpd (bx : List Nat) : Operand → Option Opd
  | .tmp t => if bx.contains t then none else some (.s t)
  | .const v => (trV v).map .c
  | .func f => some (.c (.fn f []))
  | .global _ => none
def tsize (P : Program) (t : TypeId) : Option Nat := (P.info? t).map (·.size)
def tagg (P : Program) (t : TypeId) : Option Bool :=
  match P.underlying t with
  | some (.struct _) | some (.array _ _) => some true
  | some _ => some false
  | none => none
def tzero (P : Program) (t : TypeId) : Option AV := (P.info? t).bind (fun i => i.zero.bind trV)
/-- The zero cells of an element type, of at least one cell and of no more than 65536 bytes. -/
def ezero (P : Program) (e : TypeId) : Option (List AV) :=
  match P.info? e with
  | some i => match (i.zero.bind trV).bind AV.cells? with
    | some l => if l.length = i.size ∧ 0 < i.size ∧ i.bytes ≤ 65536 then some l else none
    | none => none
  | none => none
def selem (P : Program) (t : TypeId) : Option TypeId := match P.underlying t with | some (.slice e) => some e | _ => none
/-- Fields that are numbers or truth values, one cell each, from cell 'k' on. -/
def flatFields (P : Program) : List Field → Nat → Option (List Bool)
  | [], _ => some []
  | f :: fs, k => if f.name != "_" && f.offset == k then
      match P.underlying f.type, flatFields P fs (k + 1) with
      | some (.int _), some r => some (true :: r)
      | some .bool, some r => some (false :: r)
      | _, _ => none
    else none
/-- Fields that are numbers, truth values or structs of such, from cell 'k' on. -/
def deepFields (P : Program) : List Field → Nat → Option (List Bool)
  | [], _ => some []
  | f :: fs, k => if f.name != "_" && f.offset == k then
      match P.underlying f.type with
      | some (.int _) => (deepFields P fs (k + 1)).map (true :: ·)
      | some .bool => (deepFields P fs (k + 1)).map (false :: ·)
      | some (.struct gs) => if P.stoodInHeld f.type then none else
          match flatFields P gs.toList 0 with
          | some js => if tsize P f.type = some js.length ∧ 0 < js.length then (deepFields P fs (k + js.length)).map (js ++ ·) else none
          | none => none
      | _ => none
    else none
def eqStruct (P : Program) (t : TypeId) : Option (List Bool) :=
  match P.underlying t with
  | some (.struct fs) => if !P.stoodInHeld t && !P.eqGuardType P.depth t then deepFields P fs.toList 0 else none
  | _ => none
/-- Operation, slot, box, offset: the addresses of parts of boxes that a region makes. -/
abbrev BoxEnv := List (Nat × Nat × Nat × Nat)
def envFind (bx : List Nat) (E : BoxEnv) (t : Nat) : Option (Nat × Nat × Nat × Nat) := E.find? (fun e => e.2.1 == t && bx.contains e.2.2.1)
def addrOf (bx : List Nat) (E : BoxEnv) : Operand → Option (Option Nat × Nat × Nat)
  | .tmp t => if bx.contains t then some (none, t, 0) else (envFind bx E t).map fun e => (some t, e.2.2.1, e.2.2.2)
  | _ => none
def fieldOf (P : Program) (s : TypeId) (f : Nat) : Option Field :=
  match P.underlying s with
  | some (.struct fs) => fs[f]?
  | _ => none
def envOf (P : Program) (bx : List Nat) : List Oper → Nat → BoxEnv → BoxEnv
  | [], _, E => E
  | o :: r, j, E =>
    match o.op, o.dst with
    | .fieldAddr s a f, some d => match addrOf bx E a, fieldOf P s f with
      | some (_, b, off), some fd => envOf P bx r (j + 1) (E ++ [(j, d, b, off + fd.offset)])
      | _, _ => envOf P bx r (j + 1) E
    | _, _ => envOf P bx r (j + 1) E
def trParts (bx : List Nat) (place : Nat → Option (Nat × Nat)) (parts : List (Nat × Operand)) : Option (List (Nat × Nat × Opd)) :=
  parts.mapM fun p => do
    let q ← place p.1
    let x ← trOpd bx p.2
    pure (q.1, q.2, x)
def isDst (bx : List Nat) (d : Option Nat) : Bool := match d with | some d => bx.contains d | none => false
def trTwo (bx : List Nat) (x y : Operand) (f : Opd → Opd → Act1) : Option Act1 :=
  match trOpd bx x, trOpd bx y with
  | some x, some y => some (f x y)
  | _, _ => none
def isNilConst : Operand → Bool
  | .const (.slice none 0 0) => true
  | _ => false
def trBool (bx : List Nat) (op : BinOp) (x y : Operand) : Option Act1 :=
  match op with
  | .eql => trTwo bx x y fun x y => .pu (.eqb false x y)
  | .neq => trTwo bx x y fun x y => .pu (.eqb true x y)
  | _ => none
def trStruct (bx : List Nat) (ks : List Bool) (op : BinOp) (x y : Operand) : Option Act1 :=
  match op with
  | .eql => trTwo bx x y fun x y => .pu (.eqs false ks x y)
  | .neq => trTwo bx x y fun x y => .pu (.eqs true ks x y)
  | _ => none
def trNil (bx : List Nat) (op : BinOp) (x : Operand) : Option Act1 :=
  match op with
  | .eql => (trOpd bx x).map fun x => .pu (.isnil false x)
  | .neq => (trOpd bx x).map fun x => .pu (.isnil true x)
  | _ => none
def trBin (P : Program) (bx : List Nat) (op : BinOp) (t : TypeId) (x y : Operand) : Option Act1 :=
  match P.underlying t with
  | some (.int _) => trTwo bx x y fun x y => .pu (.bin op x y)
  | some .bool => trBool bx op x y
  | some (.struct _) => (eqStruct P t).bind fun ks => trStruct bx ks op x y
  | some (.slice _) => if isNilConst y then trNil bx op x else none
  | _ => none
def trBuiltin (P : Program) (bx : List Nat) (b : Builtin) (args : List Operand) (ts : List TypeId) : Option Act1 :=
  match b, args, ts with
  | .len, [x], [t] => match P.underlying t with
    | some (.slice _) => (trOpd bx x).map fun x => .pu (.len x)
    | some (.map _ _) => (trOpd bx x).map fun x => .ld (.lenm x)
    | _ => none
  | .append, [x, y], [t, u] => if t = u then (match selem P t with
      | some e => match ezero P e with
        | some z => do let x ← trOpd bx x; let y ← trOpd bx y; pure (.ha (.app z.length x y))
        | none => none
      | none => none) else (match P.underlying u with
      | some (.int .i64) => (match selem P t with
        | some e => match ezero P e with
          | some z => do let x ← trOpd bx x; let y ← trOpd bx y; pure (.ha (.appz z.length z x y))
          | none => none
        | none => none)
      | _ => none)
  | .cap, [x], [t] => match P.underlying t with
    | some (.slice _) => (trOpd bx x).map fun x => .pu (.cap x)
    | _ => none
  | .copy, [x, y], [t, u] => if t = u then (match selem P t with
      | some e => match ezero P e with
        | some z => do let x ← trOpd bx x; let y ← trOpd bx y; pure (.ha (.cpy z.length x y))
        | none => none
      | none => none) else none
  | .clear, [x], [t] => match selem P t with
      | some e => match ezero P e with
        | some z => (trOpd bx x).map fun x => .ha (.clr z.length z x)
        | none => none
      | none => none
  | .max, x :: xs, _ => do let x ← trOpd bx x; let xs ← xs.mapM (trOpd bx); pure (.pu (.mm true x xs))
  | .min, x :: xs, _ => do let x ← trOpd bx x; let xs ← xs.mapM (trOpd bx); pure (.pu (.mm false x xs))
  | _, _, _ => none
/-- The bytes of a text that stands in the program. -/
def bytesA (s : ByteArray) : List AV := s.data.toList.map fun b => .int .u8 b.toNat
def trAct (P : Program) (bx : List Nat) (E : BoxEnv) (o : Oper) : Option Act1 :=
  match o.op with
  | .move x | .assign x => (trOpd bx x).map fun x => .pu (.mov x)
  | .pick c a b => do let c ← trOpd bx c; let a ← trOpd bx a; let b ← trOpd bx b; pure (.pu (.pick c a b))
  | .alloc t => (tzero P t).map fun z => if isDst bx o.dst then .pu (.bnew (.c z)) else .ha (.newv (.c z))
  | .box _ x => (trOpd bx x).map fun x => if isDst bx o.dst then .pu (.bnew x) else .ha (.newv x)
  | .build t parts => do
    let z ← ((P.info? t).bind (·.zero)).bind trV
    let zc ← z.cells?
    match P.underlying t with
    | some (.struct fs) => do
      let ps ← trParts bx (fun i => (fs[i]?).bind fun f => (tsize P f.type).map fun s => (f.offset, s)) parts.toList
      if fs.toList.all (fun f => (tsize P f.type).isSome) then pure (.pu (.build zc ps)) else none
    | some (.array _ e) => do
      let s ← tsize P e
      let ps ← trParts bx (fun i => some (i * s, s)) parts.toList
      pure (.pu (.build zc ps))
    | _ => none
  | .load t a => do
    let s ← tsize P t
    let ag ← tagg P t
    match addrOf bx E a with
    | some (chk, b, off) => pure (.pu (.bget chk b off s ag))
    | none => do let a ← trOpd bx a; pure (.ld (.ld s ag a))
  | .store t a x => do
    let s ← tsize P t
    let x ← trOpd bx x
    match addrOf bx E a with
    | some (chk, b, off) => pure (.pu (.bset chk b off s x))
    | none => do let a ← trOpd bx a; pure (.ha (.st s a x))
  | .fieldAddr s a f => do
    let fd ← fieldOf P s f
    let sz ← tsize P fd.type
    if sz = 0 then none else
    match addrOf bx E a with
    | some (chk, b, _) => pure (.pu (.badr chk b))
    | none => do let a ← trOpd bx a; pure (.pu (.fad fd.offset a))
  | .field t x f => do
    let fd ← fieldOf P t f
    let sz ← tsize P fd.type
    let ag ← tagg P fd.type
    let x ← trOpd bx x
    pure (.pu (.part fd.offset sz ag x))
  | .indexAddr t x i => do
    let e ← selem P t
    let s ← tsize P e
    let x ← trOpd bx x
    let i ← trOpd bx i
    pure (.pu (.idx s x i))
  | .index t x i => match P.underlying t with
    | some (.array n e) => do
      let s ← tsize P e
      let ag ← tagg P e
      let x ← trOpd bx x
      let i ← trOpd bx i
      pure (.pu (.aidx n s ag x i))
    | some .string => match x with
      | .const (.string s) => (trOpd bx i).map fun i => .pu (.aidx s.size 1 false (.c (.agg (bytesA s))) i)
      | _ => none
    | _ => none
  | .extract x i => (trOpd bx x).map fun x => .pu (.extr i x)
  | .binOp op t x y _ => trBin P bx op t x y
  | .unOp .neg _ x => (trOpd bx x).map fun x => .pu (.neg x)
  | .unOp .not _ x => (trOpd bx x).map fun x => .pu (.not x)
  | .convert src dst x => match P.underlying src, P.underlying dst with
    | some (.int _), some (.int k) => (trOpd bx x).map fun x => .pu (.conv k x)
    | _, _ => none
  | .makeFunc (.func f) first caps => if first.isEmpty then (caps.toList.mapM (trOpd bx)).map fun cs => .pu (.mkf f cs) else
      if caps.isEmpty then (first.toList.mapM (trOpd bx)).map fun cs => .pu (.mkb f cs) else none
  | .slice t x lo hi mx => do
    let e ← selem P t
    let z ← ezero P e
    let x ← trOpd bx x
    let opt (y : Option Operand) : Option (Option Opd) := match y with | none => some none | some y => (trOpd bx y).map some
    let lo ← opt lo
    let hi ← opt hi
    let mx ← opt mx
    pure (.pu (.slc z.length x lo hi mx))
  | .makeSlice t l c => do
    let e ← selem P t
    let z ← ezero P e
    let l ← trOpd bx l
    let c ← trOpd bx c
    pure (.ha (.mks z.length z l c))
  | .buildSlice t n parts => do
    let e ← selem P t
    let z ← ezero P e
    if n * z.length > 65536 then none else
    let ps ← trParts bx (fun i => some (i * z.length, z.length)) parts.toList
    pure (.ha (.blds z.length n z ps))
  | .makeMap _ none => some (.ha .mkm)
  | .lookup t x k ok => match P.underlying t with
    | some (.map kt e) => match P.underlying kt with
      | some (.int .i64) => do
        let z ← tzero P e
        let x ← trOpd bx x
        let k ← trOpd bx k
        pure (.ld (.look z ok x k))
      | _ => none
    | _ => none
  | .mapUpdate t m k v | .insert t m k v => match P.underlying t with
    | some (.map kt _) => match P.underlying kt with
      | some (.int .i64) => do
        let m ← trOpd bx m
        let k ← trOpd bx k
        let v ← trOpd bx v
        pure (.ha (.mset m k v))
      | _ => none
    | _ => none
  | .call c => match c.callee with
    | .value (.func f) => (c.args.toList.mapM (trOpd bx)).map fun xs => .call f xs
    | .value x => do let x ← trOpd bx x; let xs ← c.args.toList.mapM (trOpd bx); pure (.callv x xs)
    | .builtin b => trBuiltin P bx b c.args.toList c.argTypes.toList
    | _ => none
  | _ => none
/-- The slot that an abstract operation writes. -/
def trW (bx : List Nat) (E : BoxEnv) (o : Oper) : Option Nat :=
  match o.op with
  | .store _ a _ => match addrOf bx E a with | some (_, b, _) => some b | none => o.dst
  | _ => o.dst
def trSk (bx : List Nat) (E : BoxEnv) (o : Oper) : Option AV :=
  match o.op with
  | .store _ a _ => match addrOf bx E a with | some _ => none | none => some undefA
  | _ => some (if isDst bx o.dst then .junk else undefA)
/-- A box is written by the operations that make it and by stores alone; a store has no slot of its own. -/
def dstOk (bx : List Nat) (o : Oper) : Bool :=
  match o.op with
  | .alloc _ | .box _ _ => true
  | .store _ _ _ => o.dst.isNone
  | _ => !isDst bx o.dst
def trGuard (ops : List Oper) (bx : List Nat) (o : Oper) : Option (Option (Nat × Bool)) :=
  match o.guard with
  | none => some none
  | some (j, want) => match (ops[j]?).bind (·.dst) with
    | some d => if bx.contains d then none else some (some (d, want))
    | none => none
/-- What a look at the heap takes for an address is no box and no address of the text's. -/
def okAddr (bx : List Nat) : Opd → Bool
  | .s i => !bx.contains i
  | .c (.ptr _ _) | .c (.mp _) => false
  | .c _ => true
def lactOk (bx : List Nat) : Act1 → Bool
  | .ld (.ld _ _ p) => okAddr bx p
  | .ld (.lenm x) => okAddr bx x
  | .ld (.look _ _ x _) => okAddr bx x
  | _ => true
def trOp (P : Program) (bx : List Nat) (E : BoxEnv) (ops : List Oper) (ext : Bool) (o : Oper) : Option MOp :=
  match trGuard ops bx o with
  | none => none
  | some g => if dstOk bx o && lactOk bx ((trAct P bx E o).getD (.pu .fail)) then some { w := trW bx E o, sk := trSk bx E o, guard := g, ext := ext, act := (trAct P bx E o).getD (.pu .fail) } else none
def Opd.slots : Opd → List Nat
  | .s i => [i]
  | .c _ => []
def opSlots (xs : List Opd) : List Nat := xs.flatMap Opd.slots
def PAct.reads : PAct → List Nat
  | .mov x | .isnil _ x | .neg x | .not x | .part _ _ _ x | .extr _ x | .len x | .cap x | .fad _ x | .conv _ x | .bnew x => x.slots
  | .pick a b c => opSlots [a, b, c]
  | .bin _ x y | .eqb _ x y | .eqs _ _ x y | .idx _ x y | .aidx _ _ _ x y => opSlots [x, y]
  | .build _ ps => opSlots (ps.map (·.2.2))
  | .mm _ x xs => opSlots (x :: xs)
  | .mkf _ xs | .mkb _ xs => opSlots xs
  | .slc _ x a b c => opSlots (x :: (a.toList ++ b.toList ++ c.toList))
  | .bget chk b _ _ _ => b :: chk.toList
  | .bset chk b _ _ x => b :: chk.toList ++ x.slots
  | .badr chk b => b :: chk.toList
  | .fail => []
def LAct.reads : LAct → List Nat
  | .ld _ _ p => p.slots
  | .lenm x => x.slots
  | .look _ _ x k => opSlots [x, k]
def HAct.reads : HAct → List Nat
  | .st _ p x => opSlots [p, x]
  | .newv x => x.slots
  | .mks _ _ a b => opSlots [a, b]
  | .blds _ _ _ ps => opSlots (ps.map (·.2.2))
  | .app _ x y | .cpy _ x y | .appz _ _ x y => opSlots [x, y]
  | .clr _ _ x => x.slots
  | .mkm => []
  | .mset a b c => opSlots [a, b, c]
def Act1.reads : Act1 → List Nat
  | .pu p => p.reads
  | .ld l => l.reads
  | .ha h => h.reads
  | .call _ xs => opSlots xs
  | .callv x xs => opSlots (x :: xs)
def MOp.looks (m : MOp) : List Nat := m.act.reads ++ (m.guard.map (·.1)).toList
def Act1.cls : Act1 → Nat
  | .pu _ => 0
  | .ld _ => 1
  | _ => 2
/-- 'a' stands before 'b' in the text: may 'b' come first? -/
def indep (a b : MOp) : Bool :=
  (match a.w with | some d => !b.looks.contains d && b.w != some d | none => true) &&
  (match b.w with | some d => !a.looks.contains d | none => true) &&
  (match a.act.cls, b.act.cls with
   | 2, 2 => false
   | 2, 1 => a.ext
   | 1, 2 => b.ext
   | _, _ => true)
/-- For each operation the set (as bits) of those that must come before it. -/
def masks : List Oper → List Nat → List Nat
  | [], acc => acc
  | o :: r, acc => masks r (acc ++ [o.after.toList.foldl (fun s e => if Region.binds .any e then s ||| (1 <<< e.on) ||| (acc[e.on]?).getD 0 else s) 0])
def prec (draw : Bool) (ms : List Nat) (i j : Nat) : Bool := if draw then ((ms[i]?).getD 0).testBit j else decide (j < i)
def usesEnv (bx : List Nat) (E : BoxEnv) (o : Oper) : List Nat :=
  match o.op with
  | .load _ a | .store _ a _ | .fieldAddr _ a _ => match a with
    | .tmp t => if bx.contains t then [] else ((envFind bx E t).map (·.1)).toList
    | _ => []
  | _ => []
def isBnew (bx : List Nat) (o : Oper) : Option Nat :=
  match o.op, o.dst with
  | .alloc _, some d | .box _ _, some d => if bx.contains d then some d else none
  | _, _ => none
def regionOk (bx : List Nat) (E : BoxEnv) (ops : List Oper) (draw : Bool) (ms : List Nat) (l : List MOp) : Bool :=
  -- no slot is written twice
  (ops.zipIdx.all fun (o, i) => match o.dst with | some d => ops.zipIdx.all (fun (o', j) => i == j || o'.dst != some d) | none => true) &&
  -- edges lead back
  (ops.zipIdx.all fun (o, i) => o.after.toList.all fun e => !Region.binds .any e || decide (e.on < i)) &&
  -- an address of a part of a box is used after it is made, and the box is made before it
  (ops.zipIdx.all fun (o, i) => (usesEnv bx E o).all (fun j => prec draw ms i j)) &&
  (E.all fun e => ops.zipIdx.all fun (o, k) => match isBnew bx o with | some d => d != e.2.2.1 || prec draw ms e.1 k | none => true) &&
  (!draw || l.zipIdx.all fun (b, i) => l.zipIdx.all fun (a, j) => !decide (j < i) || prec draw ms i j || indep a b)
def needsExt (P : Program) (bx : List Nat) (E : BoxEnv) (ops : List Oper) (draw : Bool) (ms : List Nat) (i : Nat) : Bool :=
  draw && ops.zipIdx.any fun (o, j) => ((trAct P bx E o).getD (.pu .fail)).cls == 1 && !prec draw ms i j && !prec draw ms j i
def trRegion (P : Program) (bx : List Nat) (ops : List Oper) (draw : Bool) : Option (List MOp) :=
  let E := envOf P bx ops 0 []
  let ms := masks ops []
  match ops.zipIdx.mapM fun (o, i) => trOp P bx E ops (needsExt P bx E ops draw ms i) o with
  | none => none
  | some l => if regionOk bx E ops draw ms l then some l else none
/-- All pairs of a list, the earlier one first. -/
def pairsOk {α : Type} (ok : α → α → Bool) : List α → Bool
  | [] => true
  | x :: r => r.all (ok x) && pairsOk ok r
/-- The text's order, but 'J' stands behind 'I'. -/
def moveB (L : List (MOp × Nat)) (J I : Nat) : List (MOp × Nat) := L.filter (fun p => decide (p.2 ≤ I) && !decide (p.2 = J)) ++ L.filter (fun p => decide (p.2 = J)) ++ L.filter (fun p => !decide (p.2 ≤ I) && !decide (p.2 = J))
def badPairs (ms : List Nat) (l : List MOp) : List (Nat × Nat) :=
  l.zipIdx.flatMap fun (b, i) => l.zipIdx.filterMap fun (a, j) => if decide (j < i) && !prec true ms i j && !indep a b then some (j, i) else none
/-- A region in which two operations that look alike to the rest may come in either order: both orders. -/
def trRegion2 (P : Program) (bx : List Nat) (ops : List Oper) (draw : Bool) : Option (List MOp × List MOp) :=
  let E := envOf P bx ops 0 []
  let ms := masks ops []
  if draw then
    match ops.zipIdx.mapM fun (o, i) => trOp P bx E ops (needsExt P bx E ops draw ms i) o with
    | none => none
    | some l => match badPairs ms l with
      | [(J, I)] =>
        let LB := moveB l.zipIdx J I
        if regionOk bx E ops draw ((ms.set I (((ms[I]?).getD 0) ||| (1 <<< J)))) l &&
          (ops.zipIdx.all fun (o, i) => (usesEnv bx E o).all (fun j => prec draw ms i j)) &&
          (E.all fun e => ops.zipIdx.all fun (o, k) => match isBnew bx o with | some d => d != e.2.2.1 || prec draw ms e.1 k | none => true) &&
          decide (J < I) && decide (I < l.length) &&
          pairsOk (fun a b => prec draw ms b.2 a.2 || indep a.1 b.1 || (a.2 == I && b.2 == J)) LB &&
          (l.zipIdx.all fun (b, i) => i == I || i == J || b.act.cls != 2 || prec draw ms i I || prec draw ms i J) &&
          (pairsOk (fun a b => a.2 != b.2) LB && decide (LB.length ≤ ops.length))
        then some (l, LB.map (·.1)) else none
      | _ => none
  else none
/-- The number of the first region. -/
def firstId : Code → Option Nat
  | .region id _ _ => some id
  | .seq a b => match firstId a with | some i => some i | none => firstId b
  | .block _ a | .loop a => firstId a
  | _ => none
def cutsAt (cs : List Nat) (c : Code) : Bool := match firstId c with | some i => cs.contains i | none => false
/-- The label of a scope. -/
def labelOf : Code → Option Nat
  | .seq a b => match labelOf a with | some l => some l | none => labelOf b
  | .label l => some l
  | _ => none
def findM : MCode → Nat → Option MCode
  | .seq a b, l => match findM a l with | some r => some (.seq r b) | none => findM b l
  | .cut a, l => findM a l
  | .label l', l => if l' = l then some .skip else none
  | _, _ => none
def trC (P : Program) (bx cs : List Nat) : Code → Option MCode
  | .skip => some .skip
  | .region _ ops draw => match trRegion P bx ops.toList draw with
    | some l => some (.ops l)
    | none => (trRegion2 P bx ops.toList draw).map fun p => .ops2 p.1 p.2
  | .seq a b => match trC P bx cs a, trC P bx cs b with
    | some ma, some mb => some (if cutsAt cs b then .seq ma (.cut mb) else .seq ma mb)
    | _, _ => none
  | .cond c a b => match trOpd bx c, trC P bx cs a, trC P bx cs b with
    | some c, some a, some b => some (.cond c a b)
    | _, _, _ => none
  | .block id a => if id < GB then (trC P bx cs a).map (.block id) else none
  | .loop a => (trC P bx cs a).map .loop
  | .exit id => if id < GB then some (.exit id) else none
  | .label l => some (.label l)
  | .goto l => some (.exit (GB + l))
  | .scope a => match labelOf a, trC P bx cs a with
    | some l, some m => match findM m l with
      | some r => some (.scope (GB + l) m r)
      | none => none
    | _, _ => none
  | .ret => some .ret
  | _ => some .fail
structure MFun where
  nt : Nat
  bx : List Nat
  res : List PAct
  body : MCode
def trRes (P : Program) (bx : List Nat) : ResultVar → Option PAct
  | .tmp t => if bx.contains t then none else some (.mov (.s t))
  | .cell a t => if bx.contains a then match tsize P t, tagg P t with
      | some s, some ag => some (.bget none a 0 s ag)
      | _, _ => none
    else none
def trF (P : Program) (bx cs : List Nat) (fn : Func) : Option MFun :=
  match fn.body with
  | none => none
  | some c => match trC P bx cs c, fn.results.toList.mapM (trRes P bx) with
    | some m, some rs => if bx.all (fun d => decide (fn.params.size + fn.nfree ≤ d ∧ d < fn.ntmps)) then some { nt := fn.ntmps, bx := bx, res := rs, body := m } else none
    | _, _ => none
def resL : List PAct → List AV → Option (List AV)
  | [], _ => some []
  | p :: ps, S => match pval p S, resL ps S with
    | some v, some vs => some (v :: vs)
    | _, _ => none
def resV (res : List PAct) (S : List AV) : Option AV :=
  match resL res S with
  | some [x] => some x
  | some xs => some (.tuple xs)
  | none => none
end Go.Eng

namespace Go.Eng
open Go
/-- How an abstract frame stands in the model's: 'β' says in which block each box lies. -/
structure Fr (ρ0 : Ren) (H0 : AHeap) (w0 : World) (bx : List Nat) (β : Nat → Option Nat) (ρ : Ren) (S : List AV) (H : AHeap) (a : Act) (w : World) : Prop where
  sim : Sim ρ H w
  step : Step ρ0 H0 w0 ρ H w
  dfr : a.defers = []
  len : S.length = a.tmps.size
  slots : ∀ i, bx.contains i = false → VR ρ (rd S (.s i)) (a.tmps.getD i undef)
  boxes : ∀ d, bx.contains d = true → rd S (.s d) = .junk ∨ ∃ b cs T l, β d = some b ∧ a.tmps.getD d undef = .pointer (some ⟨b, 0, none⟩) ∧
    w.heap[b]? = some (.cells cs T (0, 0)) ∧ (rd S (.s d)).cells? = some l ∧ LR ρ l cs.toList ∧ ∀ v ∈ cs.toList, v.oneCell' = true
  priv : ∀ d b, β d = some b → w0.heap.size ≤ b ∧ b < w.heap.size ∧ (∀ n L, ρ n = some L → L.b ≠ b) ∧ (∀ d', β d' = some b → d' = d)
section
variable {ρ0 : Ren} {H0 : AHeap} {w0 : World} {bx : List Nat} {β : Nat → Option Nat} {ρ : Ren} {S : List AV} {H : AHeap} {a : Act} {w : World}
theorem rd_set {S : List AV} {d i : Nat} {v : AV} : rd (S.set d v) (.s i) = if d = i ∧ d < S.length then v else rd S (.s i) := by
  show ((S.set d v)[i]?).getD .junk = if d = i ∧ d < S.length then v else (S[i]?).getD .junk
  rw [List.getElem?_set]
  by_cases h : d = i
  · subst h
    by_cases hl : d < S.length
    · simp [hl]
    · simp [hl]
  · simp [h]
theorem getD_put {a : Act} {d i : Nat} {v : Value} : (a.put (some d) v).tmps.getD i undef = if d = i ∧ d < a.tmps.size then v else a.tmps.getD i undef := by
  simp only [Act.put, Array.getD_eq_getD_getElem?, Array.getElem?_setIfInBounds]
  by_cases h : d = i
  · subst h
    by_cases hl : d < a.tmps.size
    · simp [hl]
    · simp [hl]
  · simp [h]
/-- The world goes on; the frame's slots and boxes stay. -/
theorem Fr.go (F : Fr ρ0 H0 w0 bx β ρ S H a w) {ρ' : Ren} {H' : AHeap} {w' : World} (hs : Sim ρ' H' w') (st : Step ρ H w ρ' H' w') : Fr ρ0 H0 w0 bx β ρ' S H' a w' := by
  have hsub : Sub ρ ρ' := st.sub F.sim
  have hblk : ∀ d b, β d = some b → w'.heap[b]? = w.heap[b]? := by
    intro d b hb
    obtain ⟨_, h2, h3, _⟩ := F.priv d b hb
    refine st.keep b h2 ?_
    rintro ⟨n, L, e, _, e2, _⟩
    exact h3 n L e e2
  refine ⟨hs, F.step.trans st, F.dfr, F.len, fun i hi => (F.slots i hi).mono hsub, ?_, ?_⟩
  · intro d hd
    rcases F.boxes d hd with h | ⟨b, cs, T, l, h1, h2, h3, h4, h5, h6⟩
    · exact .inl h
    · exact .inr ⟨b, cs, T, l, h1, h2, by rw [hblk d b h1]; exact h3, h4, h5.mono hsub, h6⟩
  · intro d b hb
    obtain ⟨h1, h2, h3, h4⟩ := F.priv d b hb
    refine ⟨h1, Nat.lt_of_lt_of_le h2 st.size, ?_, h4⟩
    intro n L e hb'
    rcases st.fresh n L e with h5 | h5 | ⟨m, M, em, _, eb, _⟩
    · exact h3 n L ((st.old n h5) ▸ e) hb'
    · omega
    · exact h3 m M em (eb.trans hb')
/-- A slot that is no box is written. -/
theorem Fr.put (F : Fr ρ0 H0 w0 bx β ρ S H a w) {dst : Option Nat} {v : AV} {cv : Value} (hd : isDst bx dst = false) (hv : VR ρ v cv) : Fr ρ0 H0 w0 bx β ρ (putS S dst v) H (a.put dst cv) w := by
  cases dst with
  | none => exact F
  | some d =>
    simp only [isDst] at hd
    refine ⟨F.sim, F.step, F.dfr, by simp [putS, Act.put, F.len], ?_, ?_, F.priv⟩
    · intro i hi
      simp only [putS]
      rw [rd_set, getD_put, F.len]
      split
      · exact hv
      · exact F.slots i hi
    · intro d' hd'
      have hne : d ≠ d' := by rintro rfl; rw [hd] at hd'; cases hd'
      simp only [putS]
      rw [rd_set, getD_put, if_neg (by simp [hne]), if_neg (by simp [hne])]
      exact F.boxes d' hd'
/-- A slot that is no box holds something that is not asked for. -/
theorem Fr.forget (F : Fr ρ0 H0 w0 bx β ρ S H a w) {S0 : List AV} (h : Forget S S0) : Fr ρ0 H0 w0 bx β ρ S0 H a w := by
  refine ⟨F.sim, F.step, F.dfr, h.1.trans F.len, ?_, ?_, F.priv⟩
  · intro i hi
    rcases h.2 i with e | e
    · rw [e]; exact .junk _
    · rw [e]; exact F.slots i hi
  · intro d hd
    rcases h.2 d with e | e
    · exact .inl e
    · rw [e]; exact F.boxes d hd
theorem mapM_some {α β : Type} {f : α → Option β} : ∀ {l : List α} {r : List β}, l.mapM f = some r → l.length = r.length ∧ ∀ (i : Nat) (x : α), l[i]? = some x → ∃ y, r[i]? = some y ∧ f x = some y
  | [], r, h => by simp at h; subst h; simp
  | x :: l, r, h => by
    rw [List.mapM_cons] at h
    cases hx : f x with
    | none => simp [hx] at h
    | some y =>
      cases hl : l.mapM f with
      | none => simp [hx, hl] at h
      | some ys =>
        simp [hx, hl] at h
        subst h
        obtain ⟨h1, h2⟩ := mapM_some hl
        refine ⟨by simp [h1], fun i z hz => ?_⟩
        cases i with
        | zero => simp at hz; subst hz; exact ⟨y, by simp, hx⟩
        | succ i => simpa using h2 i z (by simpa using hz)
theorem trS_ok {ρ : Ren} {v : Value} {x : AV} (h : trS v = some x) : VR ρ x v ∧ v.oneCell' = true := by
  unfold trS at h
  split at h <;> simp at h <;> subst h <;> refine ⟨?_, rfl⟩ <;> constructor
theorem trV_ok {ρ : Ren} {v : Value} {x : AV} (h : trV v = some x) : VR ρ x v := by
  unfold trV at h
  split at h
  · rename_i cs
    cases hm : cs.toList.mapM trS with
    | none => simp [hm] at h
    | some l =>
      simp [hm] at h
      subst h
      obtain ⟨h1, h2⟩ := mapM_some hm
      refine VR.agg_iff.2 ⟨⟨h1.symm, fun i x v hx hv => ?_⟩, fun v hv => ?_⟩
      · obtain ⟨y, hy, hs⟩ := h2 i v hv
        rw [hx] at hy; cases hy
        exact (trS_ok hs).1
      · obtain ⟨i, hi, he⟩ := List.getElem_of_mem hv
        obtain ⟨y, hy, hs⟩ := h2 i v (by rw [List.getElem?_eq_getElem hi, he])
        exact (trS_ok (ρ := ρ) hs).2
  · exact (trS_ok h).1
/-- An operand. -/
theorem Fr.opd (F : Fr ρ0 H0 w0 bx β ρ S H a w) {x : Operand} {o : Opd} (h : trOpd bx x = some o) : VR ρ (rd S o) (a.eval x) := by
  cases x with
  | tmp t =>
    simp only [trOpd] at h
    split at h
    · cases h
    · rename_i hc
      cases h
      exact F.slots t (by simpa using hc)
  | const v =>
    simp only [trOpd] at h
    cases hv : trV v with
    | none => simp [hv] at h
    | some y =>
      simp [hv] at h
      subst h
      exact trV_ok hv
  | func f =>
    simp only [trOpd] at h
    cases h
    exact VR.fn_iff.2 LR.nil
  | global g => simp [trOpd] at h
theorem Fr.opds (F : Fr ρ0 H0 w0 bx β ρ S H a w) {xs : List Operand} {os : List Opd} (h : xs.mapM (trOpd bx) = some os) : LR ρ (os.map (rd S)) (xs.map a.eval) := by
  obtain ⟨h1, h2⟩ := mapM_some h
  refine ⟨by simp [h1], fun i x v hx hv => ?_⟩
  simp only [List.getElem?_map, Option.map_eq_some_iff] at hx hv
  obtain ⟨o, ho, rfl⟩ := hx
  obtain ⟨y, hy, rfl⟩ := hv
  obtain ⟨z, hz, hs⟩ := h2 i y hy
  rw [ho] at hz; cases hz
  exact F.opd hs
end
theorem wp_value {P : Program} {o : Oper} {a : Act} {w w' : World} {K : Act → World → Prop} {Q : Exit → Act → World → Prop} {v : Value}
    (h : (execOp a.eval o).run P w = .ok (.value v) w') (k : K (a.put o.dst v) w') : o.wp P a w K Q := by
  unfold Oper.wp; rw [h]; exact k
theorem wp_skipped {P : Program} {o : Oper} {a : Act} {w w' : World} {K : Act → World → Prop} {Q : Exit → Act → World → Prop}
    (h : (execOp a.eval o).run P w = .ok .skip w') (k : K (a.put o.dst undef) w') : o.wp P a w K Q := by
  unfold Oper.wp; rw [h]; exact k
theorem undef_ok {ρ : Ren} : VR ρ undefA undef := VR.tuple_iff.2 LR.nil
end Go.Eng

namespace Go.Eng
open Go
section
variable {P : Program} {ρ : Ren} {w : World}
theorem ok_bin {op : BinOp} {t : TypeId} (x y : Operand) {X Y V : AV} {cx cy : Value} (hx : VR ρ X cx) (hy : VR ρ Y cy) (h : binI op X Y = some V) :
    ∃ cv, ((do eqGuard op t x y cx cy; binOp op t cx cy : Sem Value)).run P w = .ok cv w ∧ VR ρ V cv := by
  unfold binI at h
  split at h
  · rename_i k a k' b
    cases hx; cases hy
    have eg : (eqGuard op t x y (.int k a) (.int k' b)).run P w = .ok () w := by cases op <;> simp [eqGuard]
    simp only [Sem.run_bind, eg, Result.andThen_ok]
    cases op
    case shl =>
      simp only at h
      split at h
      · cases h
      · rename_i hb
        cases h
        exact ⟨_, by simp [binOp, Op.shift, hb], .int _ _⟩
    case shr =>
      simp only at h
      split at h
      · cases h
      · rename_i hb
        cases h
        exact ⟨_, by simp [binOp, Op.shift, hb], .int _ _⟩
    all_goals
      simp only at h
      split at h
      · cases h
      · rename_i hk
        simp only [ne_eq, Decidable.not_not] at hk
        subst hk
        first
          | (split at h
             · cases h
             · rename_i hb
               cases h
               refine ⟨_, ?_, .int _ _⟩
               simp [binOp, Op.intDiv, hb]
               done)
          | (cases h
             refine ⟨_, ?_, .int _ _⟩
             simp [binOp, Op.intArith]
             done)
          | (cases h
             refine ⟨_, ?_, .int _ _⟩
             simp only [binOp, ne_eq, not_true, if_false, Op.intBits]; rfl)
          | (cases h
             refine ⟨_, ?_, .bool _⟩
             simp [binOp, Op.intCmp])
  · cases h
theorem ok_eqb (neg : Bool) {t : TypeId} (x y : Operand) {a b : Bool} {cx cy : Value} (ht : P.underlying t = some .bool) (hx : VR ρ (.bool a) cx) (hy : VR ρ (.bool b) cy) :
    ∃ cv, ((do eqGuard (if neg then .neq else .eql) t x y cx cy; binOp (if neg then .neq else .eql) t cx cy : Sem Value)).run P w = .ok cv w ∧ VR ρ (.bool (if neg then !(a == b) else a == b)) cv := by
  cases hx; cases hy
  cases neg
  · exact ⟨.bool (a == b), by simp [eqGuard, binOp, Op.equal, Op.maxDepth, run_equalIn_bool' w 9999 t a b ht], .bool _⟩
  · exact ⟨.bool (!(a == b)), by simp [eqGuard, binOp, Op.equal, Op.maxDepth, run_equalIn_bool' w 9999 t a b ht], .bool _⟩
theorem run_part (t : TypeId) (cs : Array Value) (off sz : Nat) (ag : Bool) (l : List AV) {v : AV} (hs : tsize P t = some sz) (ha : tagg P t = some ag) (h : partA l off sz ag = some v) (hr : LR ρ l cs.toList)
    (h1 : ∀ v ∈ cs.toList, v.oneCell' = true) : ∃ cv, (part t cs off).run P w = .ok cv w ∧ VR ρ v cv := by
  unfold partA at h
  split at h
  case isFalse => cases h
  rename_i hl
  cases hi : P.info? t with
  | none => simp [tsize, hi] at hs
  | some i =>
    simp [tsize, hi] at hs
    subst hs
    cases ag with
    | true =>
      simp at h
      subst h
      have hagg : (isAgg t).run P w = .ok true w := by
        unfold tagg at ha
        split at ha <;> simp at ha <;> rename_i hu <;> simp [isAgg, run_underlying hu]
      refine ⟨.agg (cs.extract off (off + i.size)), by simp [part, hagg, sizeOf, typeInfo, hi], VR.agg_iff.2 ⟨?_, ?_⟩⟩
      · have := (hr.drop off).take i.size
        have e : (cs.extract off (off + i.size)).toList = (cs.toList.drop off).take i.size := by
          rw [Array.toList_extract, List.extract_eq_take_drop]; congr 1; omega
        rw [e]; exact this
      · intro v hv
        have e : (cs.extract off (off + i.size)).toList = (cs.toList.drop off).take i.size := by
          rw [Array.toList_extract, List.extract_eq_take_drop]; congr 1; omega
        rw [e] at hv
        exact h1 v (List.mem_of_mem_drop (List.mem_of_mem_take hv))
    | false =>
      simp at h
      obtain ⟨hsz, h⟩ := h
      obtain ⟨cv, h2, h3⟩ := hr.get h
      have hagg : (isAgg t).run P w = .ok false w := by
        unfold tagg at ha
        split at ha <;> simp at ha
        rename_i d h1 h2 hu
        simp only [isAgg, Sem.run_bind, run_underlying hu, Result.andThen_ok]
        try rfl
      refine ⟨cv, ?_, h3⟩
      have h2' : cs[off]? = some cv := by simpa using h2
      simp [part, hagg, h2']
theorem eqFields_ok (d : Nat) : ∀ (fs : List Field) (k : Nat) (ks : List Bool) (xs ys : List AV) (vx vy : Array Value) (r : Bool), flatFields P fs k = some ks → LR ρ xs (vx.toList.drop k) → LR ρ ys (vy.toList.drop k) →
    eqc ks xs ys = some r → (Op.eqFields (d + 1) vx vy fs).run P w = .ok r w
  | [], k, ks, xs, ys, vx, vy, r, hf, _, _, h => by
    simp [flatFields] at hf
    subst hf
    unfold eqc at h
    split at h <;> simp at *
    subst h
    simp [Op.eqFields]
  | f :: fs, k, ks, xs, ys, vx, vy, r, hf, hx, hy, h => by
    unfold flatFields at hf
    split at hf
    case isFalse => cases hf
    rename_i hno
    simp only [Bool.and_eq_true, bne_iff_ne, ne_eq, beq_iff_eq] at hno
    obtain ⟨hn, ho⟩ := hno
    have key : ∃ x xs' y ys' kd ks' b r', xs = x :: xs' ∧ ys = y :: ys' ∧ flatFields P fs (k + 1) = some ks' ∧ ks = kd :: ks' ∧ eqc ks' xs' ys' = some r' ∧ r = (b && r') ∧
        (∀ w : World, (isAgg f.type).run P w = .ok false w) ∧ ∀ cx cy, VR ρ x cx → VR ρ y cy → (Op.equalIn (d + 1) f.type cx cy).run P w = .ok b w := by
      split at hf
      · rename_i ki ks' hu hfs
        cases hf
        unfold eqc at h
        split at h <;> try (simp at *; done)
        rename_i ks1 k1 a xs' k2 b ys' e0
        simp at e0
        subst e0
        split at h
        · rename_i hk
          subst hk
          cases hr : eqc ks' xs' ys' with
          | none => simp [hr] at h
          | some r' =>
            simp [hr] at h
            refine ⟨_, _, _, _, _, ks', a == b, r', rfl, rfl, hfs, rfl, hr, h.symm, fun w => by simp [isAgg, run_underlying hu], ?_⟩
            intro cx cy h1 h2
            cases h1; cases h2
            exact run_equalIn_int w d f.type _ _ a b hu
        · cases h
      · rename_i ks' hu hfs
        cases hf
        unfold eqc at h
        split at h <;> try (simp at *; done)
        rename_i ks1 a xs' b ys' e0
        simp at e0
        subst e0
        cases hr : eqc ks' xs' ys' with
        | none => simp [hr] at h
        | some r' =>
          simp [hr] at h
          refine ⟨_, _, _, _, _, ks', a == b, r', rfl, rfl, hfs, rfl, hr, h.symm, fun w => by simp [isAgg, run_underlying hu], ?_⟩
          intro cx cy h1 h2
          cases h1; cases h2
          exact run_equalIn_bool' w d f.type a b hu
      · cases hf
    obtain ⟨x, xs', y, ys', kd, ks', b, r', rfl, rfl, hfs, rfl, hr', rfl, hagg, heq⟩ := key
    obtain ⟨cx, hcx, hvx⟩ := hx.get (i := 0) rfl
    obtain ⟨cy, hcy, hvy⟩ := hy.get (i := 0) rfl
    have hcx' : vx[k]? = some cx := by simpa using hcx
    have hcy' : vy[k]? = some cy := by simpa using hcy
    have tx : LR ρ xs' (vx.toList.drop (k + 1)) := by
      have := hx.drop 1; simpa [List.drop_drop, Nat.add_comm] using this
    have ty : LR ρ ys' (vy.toList.drop (k + 1)) := by
      have := hy.drop 1; simpa [List.drop_drop, Nat.add_comm] using this
    have px : (part f.type vx f.offset).run P w = .ok cx w := by simp [part, hagg, ho, hcx']
    have py : (part f.type vy f.offset).run P w = .ok cy w := by simp [part, hagg, ho, hcy']
    have ih := eqFields_ok d fs (k + 1) ks' xs' ys' vx vy r' hfs tx ty hr'
    simp only [Op.eqFields, Sem.run_bind, Sem.run_ite]
    rw [if_pos (by simpa using hn)]
    simp only [px, py, heq cx cy hvx hvy, Result.andThen_ok]
    cases b <;> simp [ih]
theorem eqc_append : ∀ (js ks : List Bool) (xs ys : List AV) (r : Bool), eqc (js ++ ks) xs ys = some r → ∃ r1 r2, eqc js (xs.take js.length) (ys.take js.length) = some r1 ∧ eqc ks (xs.drop js.length) (ys.drop js.length) = some r2 ∧ r = (r1 && r2) ∧ js.length ≤ xs.length ∧ js.length ≤ ys.length
  | [], ks, xs, ys, r, h => ⟨true, r, by simp [eqc], by simpa using h, by simp, by simp, by simp⟩
  | true :: js, ks, xs, ys, r, h => by
    rw [List.cons_append] at h
    unfold eqc at h
    split at h <;> try (simp at *; done)
    rename_i ks1 k1 a xs' k2 b ys' e0
    simp at e0
    subst e0
    split at h
    · rename_i hk
      subst hk
      cases hr : eqc (js ++ ks) xs' ys' with
      | none => simp [hr] at h
      | some r' =>
        simp [hr] at h
        obtain ⟨r1, r2, h1, h2, h3, h4, h5⟩ := eqc_append js ks xs' ys' r' hr
        refine ⟨(a == b) && r1, r2, ?_, by simpa using h2, by rw [← h, h3, Bool.and_assoc], by simpa using h4, by simpa using h5⟩
        simp [eqc, h1]
    · cases h
  | false :: js, ks, xs, ys, r, h => by
    rw [List.cons_append] at h
    unfold eqc at h
    split at h <;> try (simp at *; done)
    rename_i ks1 a xs' b ys' e0
    simp at e0
    subst e0
    cases hr : eqc (js ++ ks) xs' ys' with
    | none => simp [hr] at h
    | some r' =>
      simp [hr] at h
      obtain ⟨r1, r2, h1, h2, h3, h4, h5⟩ := eqc_append js ks xs' ys' r' hr
      refine ⟨(a == b) && r1, r2, ?_, by simpa using h2, by rw [← h, h3, Bool.and_assoc], by simpa using h4, by simpa using h5⟩
      simp [eqc, h1]
theorem deepFields_ok (d : Nat) : ∀ (fs : List Field) (k : Nat) (ks : List Bool) (xs ys : List AV) (vx vy : Array Value) (r : Bool), deepFields P fs k = some ks → LR ρ xs (vx.toList.drop k) → LR ρ ys (vy.toList.drop k) →
    (∀ v ∈ vx.toList, v.oneCell' = true) → (∀ v ∈ vy.toList, v.oneCell' = true) →
    eqc ks xs ys = some r → (Op.eqFields (d + 2) vx vy fs).run P w = .ok r w
  | [], k, ks, xs, ys, vx, vy, r, hf, _, _, _, _, h => by
    simp [deepFields] at hf
    subst hf
    unfold eqc at h
    split at h <;> simp at *
    subst h
    simp [Op.eqFields]
  | f :: fs, k, ks, xs, ys, vx, vy, r, hf, hx, hy, ox, oy, h => by
    unfold deepFields at hf
    split at hf
    case isFalse => cases hf
    rename_i hno
    simp only [Bool.and_eq_true, bne_iff_ne, ne_eq, beq_iff_eq] at hno
    obtain ⟨hn, ho⟩ := hno
    have key : ∃ (n : Nat) (ks' : List Bool) (cx cy : Value) (b r' : Bool), deepFields P fs (k + n) = some ks' ∧ eqc ks' (xs.drop n) (ys.drop n) = some r' ∧ r = (b && r') ∧
        (part f.type vx f.offset).run P w = .ok cx w ∧ (part f.type vy f.offset).run P w = .ok cy w ∧ (Op.equalIn (d + 2) f.type cx cy).run P w = .ok b w := by
      split at hf
      · rename_i ki hu
        simp only [Option.map_eq_some_iff] at hf
        obtain ⟨ks', hfs, rfl⟩ := hf
        unfold eqc at h
        split at h <;> try (simp at *; done)
        rename_i ks1 k1 a xs' k2 b ys' e0
        simp at e0
        subst e0
        split at h
        · rename_i hk
          subst hk
          cases hr : eqc ks' xs' ys' with
          | none => simp [hr] at h
          | some r' =>
            simp [hr] at h
            obtain ⟨cx, hcx, hvx⟩ := hx.get (i := 0) rfl
            obtain ⟨cy, hcy, hvy⟩ := hy.get (i := 0) rfl
            have hcx' : vx[k]? = some cx := by simpa using hcx
            have hcy' : vy[k]? = some cy := by simpa using hcy
            have hagg : (isAgg f.type).run P w = .ok false w := by simp [isAgg, run_underlying hu]
            refine ⟨1, ks', cx, cy, a == b, r', hfs, by simpa using hr, h.symm, by simp [part, hagg, ho, hcx'], by simp [part, hagg, ho, hcy'], ?_⟩
            cases hvx; cases hvy
            exact run_equalIn_int w (d + 1) f.type _ _ a b hu
        · cases h
      · rename_i hu
        simp only [Option.map_eq_some_iff] at hf
        obtain ⟨ks', hfs, rfl⟩ := hf
        unfold eqc at h
        split at h <;> try (simp at *; done)
        rename_i ks1 a xs' b ys' e0
        simp at e0
        subst e0
        cases hr : eqc ks' xs' ys' with
        | none => simp [hr] at h
        | some r' =>
          simp [hr] at h
          obtain ⟨cx, hcx, hvx⟩ := hx.get (i := 0) rfl
          obtain ⟨cy, hcy, hvy⟩ := hy.get (i := 0) rfl
          have hcx' : vx[k]? = some cx := by simpa using hcx
          have hcy' : vy[k]? = some cy := by simpa using hcy
          have hagg : (isAgg f.type).run P w = .ok false w := by simp [isAgg, run_underlying hu]
          refine ⟨1, ks', cx, cy, a == b, r', hfs, by simpa using hr, h.symm, by simp [part, hagg, ho, hcx'], by simp [part, hagg, ho, hcy'], ?_⟩
          cases hvx; cases hvy
          exact run_equalIn_bool' w (d + 1) f.type a b hu
      · rename_i gs hu
        split at hf
        case isTrue => cases hf
        rename_i hst
        split at hf
        case h_2 => cases hf
        rename_i js hjs
        split at hf
        case isFalse => cases hf
        rename_i hc
        obtain ⟨hsz, hjp⟩ := hc
        simp only [Option.map_eq_some_iff] at hf
        obtain ⟨ks', hfs, rfl⟩ := hf
        obtain ⟨r1, r2, e1, e2, e3, l1, l2⟩ := eqc_append js ks' xs ys r h
        have hta : tagg P f.type = some true := by simp [tagg, hu]
        have px : partA xs 0 js.length true = some (.agg (xs.take js.length)) := by simp [partA, l1]
        have py : partA ys 0 js.length true = some (.agg (ys.take js.length)) := by simp [partA, l2]
        have part' : ∀ (zs : List AV) (vz : Array Value), LR ρ zs (vz.toList.drop k) → js.length ≤ zs.length → (∀ v ∈ vz.toList, v.oneCell' = true) →
            ∃ cz : Array Value, (part f.type vz f.offset).run P w = .ok (.agg cz) w ∧ LR ρ (zs.take js.length) cz.toList ∧ ∀ v ∈ cz.toList, v.oneCell' = true := by
          intro zs vz hz hl oz
          have hlen : (List.replicate k AV.junk ++ zs).length = k + zs.length := by simp
          by_cases hk : k ≤ vz.size
          · have hz' : LR ρ (List.replicate k AV.junk ++ zs) vz.toList := by
              refine ⟨by rw [hlen, hz.1]; simp; omega, fun i x v h1 h2 => ?_⟩
              rw [List.getElem?_append] at h1
              by_cases hi : i < (List.replicate k AV.junk).length
              · rw [if_pos hi] at h1
                have : x = .junk := by
                  have := List.mem_of_getElem? h1
                  simpa using (List.mem_replicate.1 this).2
                subst this; exact .junk _
              · rw [if_neg hi] at h1
                simp only [List.length_replicate, Nat.not_lt] at hi h1
                refine hz.2 (i - k) x v h1 ?_
                rw [List.getElem?_drop, show k + (i - k) = i by omega]; exact h2
            have hp : partA (List.replicate k AV.junk ++ zs) k js.length true = some (.agg (zs.take js.length)) := by
              simp [partA, hl]
            obtain ⟨cv, g1, g2⟩ := run_part (P := P) (w := w) f.type vz k js.length true _ hsz hta hp hz' oz
            have g3 := g2
            cases g2 with
            | agg _ cz _ _ _ => exact ⟨cz, by rw [ho]; exact g1, (VR.agg_iff.1 g3).1, (VR.agg_iff.1 g3).2⟩
          · have hz0 : zs.length = 0 := by rw [hz.1]; simp; omega
            omega
        obtain ⟨ax, g1, g2, g3⟩ := part' xs vx hx l1 ox
        obtain ⟨ay, g4, g5, g6⟩ := part' ys vy hy l2 oy
        have hst' : P.stoodInHeld f.type = false := by simpa using hst
        have hfo : P.fieldsOf f.type = gs := by simp [Program.fieldsOf, hu]
        refine ⟨js.length, ks', .agg ax, .agg ay, r1, r2, hfs, e2, e3, g1, g4, ?_⟩
        rw [run_equalIn_struct w (d + 1) f.type ax ay (by rw [hfo]; exact hu) hst', hfo]
        exact eqFields_ok d gs.toList 0 js _ _ ax ay r1 hjs (by simpa using g2) (by simpa using g5) e1
      · cases hf
    obtain ⟨n, ks', cx, cy, b, r', hfs, hr', rfl, px, py, heq⟩ := key
    have tx : LR ρ (xs.drop n) (vx.toList.drop (k + n)) := by
      have := hx.drop n; simpa [List.drop_drop, Nat.add_comm] using this
    have ty : LR ρ (ys.drop n) (vy.toList.drop (k + n)) := by
      have := hy.drop n; simpa [List.drop_drop, Nat.add_comm] using this
    have ih := deepFields_ok d fs (k + n) ks' _ _ vx vy r' hfs tx ty ox oy hr'
    simp only [Op.eqFields, Sem.run_bind, Sem.run_ite]
    rw [if_pos (by simpa using hn)]
    simp only [px, py, heq, Result.andThen_ok]
    cases b <;> simp [ih]
theorem ok_eqs (neg : Bool) {t : TypeId} (x y : Operand) {xs ys : List AV} {ks : List Bool} {r : Bool} {cx cy : Value} (ht : eqStruct P t = some ks) (hx : VR ρ (.agg xs) cx) (hy : VR ρ (.agg ys) cy) (h : eqc ks xs ys = some r) :
    ∃ cv, ((do eqGuard (if neg then .neq else .eql) t x y cx cy; binOp (if neg then .neq else .eql) t cx cy : Sem Value)).run P w = .ok cv w ∧ VR ρ (.bool (if neg then !r else r)) cv := by
  have hx' := hx
  have hy' := hy
  cases hx; cases hy
  rename_i vx _ _ _ vy _ _ _
  unfold eqStruct at ht
  split at ht
  case h_2 => cases ht
  rename_i fs hu
  split at ht
  case isFalse => cases ht
  rename_i hc
  simp only [Bool.and_eq_true, Bool.not_eq_true'] at hc
  have hfo : P.fieldsOf t = fs := by simp [Program.fieldsOf, hu]
  have he : (Op.equalIn 10000 t (.agg vx) (.agg vy)).run P w = .ok r w := by
    rw [run_equalIn_struct w 9999 t vx vy (by rw [hfo]; exact hu) hc.1, hfo]
    exact deepFields_ok 9997 fs.toList 0 ks xs ys vx vy r ht (by simpa using (VR.agg_iff.1 hx').1) (by simpa using (VR.agg_iff.1 hy').1) (VR.agg_iff.1 hx').2 (VR.agg_iff.1 hy').2 h
  cases neg
  · refine ⟨.bool r, ?_, .bool _⟩
    simp [run_eqGuard_agg (P := P) w .eql t x y vx vy hc.2, run_eql_struct, he]
  · refine ⟨.bool (!r), ?_, .bool _⟩
    simp [run_eqGuard_agg (P := P) w .neq t x y vx vy hc.2, run_neq_struct, he]
end
end Go.Eng

namespace Go.Eng
open Go
section
variable {P : Program} {ρ : Ren} {w : World}
theorem add_none (b o n : Nat) : (⟨b, o, none⟩ : Addr).add n = ⟨b, o + n, none⟩ := by
  unfold Addr.add; split <;> simp_all
theorem info_of_size {t : TypeId} {sz : Nat} (h : tsize P t = some sz) : ∃ i, P.info? t = some i ∧ i.size = sz := by
  cases hi : P.info? t with
  | none => simp [tsize, hi] at h
  | some i => exact ⟨i, rfl, by simpa [tsize, hi] using h⟩
theorem run_sizeOf {t : TypeId} {sz : Nat} (h : tsize P t = some sz) (w : World) : (sizeOf t).run P w = .ok sz w := by
  obtain ⟨i, hi, hs⟩ := info_of_size h
  simp [sizeOf, typeInfo, hi, hs]
theorem run_isAgg {t : TypeId} {ag : Bool} (h : tagg P t = some ag) (w : World) : (isAgg t).run P w = .ok ag w := by
  unfold tagg at h
  split at h
  · rename_i hu; simp at h; subst h; simp [isAgg, run_underlying hu]
  · rename_i hu; simp at h; subst h; simp [isAgg, run_underlying hu]
  · rename_i d h1 h2 hu
    simp at h; subst h
    simp only [isAgg, Sem.run_bind, run_underlying hu, Result.andThen_ok]
    rfl
  · cases h
theorem fieldOf_some {s : TypeId} {f : Nat} {fd : Field} (h : fieldOf P s f = some fd) : ∃ fs, P.underlying s = some (.struct fs) ∧ fs[f]? = some fd := by
  unfold fieldOf at h
  split at h
  · rename_i fs hu; exact ⟨fs, hu, h⟩
  · cases h
theorem ok_field {t : TypeId} {f : Nat} {fd : Field} {sz : Nat} {ag : Bool} {l : List AV} {v : AV} {cx : Value} (hf : fieldOf P t f = some fd) (hs : tsize P fd.type = some sz) (ha : tagg P fd.type = some ag)
    (hx : VR ρ (.agg l) cx) (h : partA l fd.offset sz ag = some v) : ∃ cv, (Instr.field t cx f).run P w = .ok cv w ∧ VR ρ v cv := by
  obtain ⟨fs, hu, hfs⟩ := fieldOf_some hf
  have hx' := hx
  cases hx
  rename_i vs _ _ _
  obtain ⟨h1, h2⟩ := VR.agg_iff.1 hx'
  obtain ⟨cv, hr, hv⟩ := run_part (P := P) (w := w) fd.type vs fd.offset sz ag l hs ha h h1 h2
  exact ⟨cv, by simp [Instr.field, run_underlying hu, hfs, asAgg, hr], hv⟩
theorem ok_aidx {t e : TypeId} {n sz : Nat} {ag : Bool} {l : List AV} {v : AV} {k : IntKind} {j : Int} {cx ci : Value} (hu : P.underlying t = some (.array n e)) (hs : tsize P e = some sz) (ha : tagg P e = some ag)
    (hx : VR ρ (.agg l) cx) (hi : VR ρ (.int k j) ci) (hj : 0 ≤ j ∧ j < n) (h : partA l (j.toNat * sz) sz ag = some v) : ∃ cv, (Instr.index t cx ci).run P w = .ok cv w ∧ VR ρ v cv := by
  have hx' := hx
  cases hx; cases hi
  rename_i vs _ _ _
  obtain ⟨h1, h2⟩ := VR.agg_iff.1 hx'
  obtain ⟨cv, hr, hv⟩ := run_part (P := P) (w := w) e vs (j.toNat * sz) sz ag l hs ha h h1 h2
  exact ⟨cv, by simp [Instr.index, asIntOf, run_underlying hu, hj, run_sizeOf hs, hr], hv⟩
theorem ok_sidx {t : TypeId} {s : ByteArray} {k : IntKind} {j : Int} {v : AV} {ci : Value} (hu : P.underlying t = some .string)
    (hi : VR ρ (.int k j) ci) (hj : 0 ≤ j ∧ j < s.size) (h : partA (bytesA s) (j.toNat * 1) 1 false = some v) : ∃ cv, (Instr.index t (.string s) ci).run P w = .ok cv w ∧ VR ρ v cv := by
  cases hi
  have hlt : j.toNat < s.size := by omega
  have hb : (bytesA s)[j.toNat]? = some (.int .u8 (s[j.toNat]'hlt).toNat) := by
    have h1 : s.data[j.toNat]? = some (s[j.toNat]'hlt) := Array.getElem?_eq_getElem hlt
    unfold bytesA
    rw [List.getElem?_map, Array.getElem?_toList, h1]
    rfl
  have hv : v = .int .u8 (s[j.toNat]'hlt).toNat := by
    rw [Nat.mul_one] at h
    simp [partA, hb] at h
    exact h.2.symm
  subst hv
  refine ⟨_, ?_, .int _ _⟩
  have h2 : (if 0 ≤ j ∧ j < (s.size : Int) then s[j.toNat]? else none) = some (s[j.toNat]'hlt) := by rw [if_pos hj, getElem?_pos s j.toNat hlt]
  have h3 : (if 0 ≤ j then s[j.toNat]? else none) = some (s[j.toNat]'hlt) := by rw [if_pos hj.1, getElem?_pos s j.toNat hlt]
  simp [Instr.index, asIntOf, run_underlying hu, h3]
theorem selem_some {t e : TypeId} (h : selem P t = some e) : P.underlying t = some (.slice e) := by
  unfold selem at h
  split at h
  · rename_i hu; cases h; exact hu
  · cases h
theorem ok_idx {t e : TypeId} {sz es n off len : Nat} {full : Bool} {k : IntKind} {j : Int} {cx ci : Value} (ht : selem P t = some e) (hs : tsize P e = some sz)
    (hx : VR ρ (.sl es n off len full) cx) (hi : VR ρ (.int k j) ci) (hj : 0 ≤ j ∧ j < len) :
    ∃ cv, (Instr.indexAt t cx ci).run P w = .ok cv w ∧ VR ρ (.ptr n (off + j.toNat * sz)) cv := by
  have hu := selem_some ht
  cases hi
  cases hx with
  | sl _ _ _ _ _ L a cap h1 h2 h3 h4 h5 =>
    have hc : cap ≠ 0 := by omega
    rcases h4 with rfl | h4
    case inr => exact absurd h4 hc
    refine ⟨.pointer (some ⟨L.b, L.o + (off + j.toNat * sz), none⟩), ?_, .ptr _ _ L h1⟩
    simp [Instr.indexAt, asIntOf, run_underlying hu, hj, run_sizeOf hs, add_none, Nat.add_assoc]
theorem ok_fad {s : TypeId} {f : Nat} {fd : Field} {sz : Nat} (hf : fieldOf P s f = some fd) (hs : tsize P fd.type = some sz) (h0 : sz ≠ 0) (b o : Nat) :
    (Instr.fieldAt s (.pointer (some ⟨b, o, none⟩)) f).run P w = .ok (.pointer (some ⟨b, o + fd.offset, none⟩)) w := by
  obtain ⟨fs, hu, hfs⟩ := fieldOf_some hf
  simp [Instr.fieldAt, run_underlying hu, hfs, Instr.sureAddr, fieldPlace, run_sizeOf hs, h0, add_none]
/-- Cells written one after another. -/
theorem setAll (off : Nat) : ∀ (vs : List Value) (k : Nat) (arr : Array Value), off + k + vs.length ≤ arr.size →
    ((vs.zipIdx k).foldl (fun cs p => cs.setIfInBounds (off + p.2) p.1) arr).toList = arr.toList.take (off + k) ++ vs ++ arr.toList.drop (off + k + vs.length)
  | [], k, arr, _ => by simp
  | v :: vs, k, arr, h => by
    have h' : off + k + (vs.length + 1) ≤ arr.size := by simpa using h
    simp only [List.zipIdx_cons, List.foldl_cons]
    rw [setAll off vs (k + 1) _ (by simp; omega)]
    have e := list_seg_step arr.toList (off + k) v vs (by simp; omega)
    simpa [Array.toList_setIfInBounds, Nat.add_assoc] using e
theorem LR.splice {l c : List AV} {ls cs : List Value} (h : LR ρ l ls) (k : LR ρ c cs) (off : Nat) : LR ρ (splice l off c) (ls.take off ++ cs ++ ls.drop (off + cs.length)) := by
  unfold Eng.splice
  rw [k.1]
  exact ((h.take off).append k).append (h.drop _)
theorem mem_splice {ls cs : List Value} {off n : Nat} {p : Value → Prop} (h1 : ∀ v ∈ ls, p v) (h2 : ∀ v ∈ cs, p v) : ∀ v ∈ ls.take off ++ cs ++ ls.drop n, p v := by
  intro v hv
  simp only [List.mem_append] at hv
  rcases hv with (hv | hv) | hv
  · exact h1 v (List.mem_of_mem_take hv)
  · exact h2 v hv
  · exact h1 v (List.mem_of_mem_drop hv)
theorem fill_ok (place : Nat → Option (Nat × Nat)) : ∀ (ps : List (Nat × Value)) (as : List (Nat × Nat × AV)) (l l' : List AV) (cells : Array Value),
    as.length = ps.length → (∀ (i : Nat) p a, ps[i]? = some p → as[i]? = some a → place p.1 = some (a.1, a.2.1) ∧ VR ρ a.2.2 p.2) → LR ρ l cells.toList → (∀ v ∈ cells.toList, v.oneCell' = true) →
    fillA as l = some l' → ∃ cells', Instr.fill place cells ps = some cells' ∧ LR ρ l' cells'.toList ∧ ∀ v ∈ cells'.toList, v.oneCell' = true
  | [], [], l, l', cells, _, _, h1, h2, h => by simp [fillA] at h; subst h; exact ⟨cells, rfl, h1, h2⟩
  | [], _ :: _, _, _, _, h, _, _, _, _ => by simp at h
  | _ :: _, [], _, _, _, h, _, _, _, _ => by simp at h
  | (i, v) :: ps, (off, sz, x) :: as, l, l', cells, hlen, hrel, h1, h2, h => by
    obtain ⟨hp, hv⟩ := hrel 0 _ _ rfl rfl
    simp only [fillA] at h
    split at h
    case h_2 => cases h
    rename_i c hc
    split at h
    case isFalse => cases h
    rename_i hsz
    obtain ⟨hr, ho⟩ := hv.cells hc
    have hcl : v.cells.size = c.length := by simpa using hr.1.symm
    have hll : l.length = cells.size := by simpa using h1.1
    have hset := setAll off v.cells.toList 0 cells (by simp; omega)
    have e : (v.cells.zipIdx.foldl (fun cs (c, j) => cs.setIfInBounds (off + j) c) cells).toList = cells.toList.take off ++ v.cells.toList ++ cells.toList.drop (off + v.cells.toList.length) := by
      rw [← Array.foldl_toList, Array.toList_zipIdx]
      simpa using hset
    obtain ⟨cells', hf, hl', ho'⟩ := fill_ok place ps as _ l' (v.cells.zipIdx.foldl (fun cs (c, j) => cs.setIfInBounds (off + j) c) cells) (by simpa using hlen)
      (fun j p a hp ha => hrel (j + 1) p a (by simpa using hp) (by simpa using ha)) (by rw [e]; exact h1.splice hr off) (by rw [e]; exact mem_splice h2 ho) h
    refine ⟨cells', ?_, hl', ho'⟩
    simp only [Instr.fill, hp]
    rw [if_neg (by simp; omega)]
    exact hf
theorem ezero_some {e : TypeId} {z : List AV} (h : ezero P e = some z) : ∃ i v, P.info? e = some i ∧ i.zero = some v ∧ i.size = z.length ∧ 0 < z.length ∧ i.bytes ≤ 65536 ∧ v.cells.size = z.length ∧ ∀ ρ, LR ρ z v.cells.toList ∧ ∀ u ∈ v.cells.toList, u.oneCell' = true := by
  unfold ezero at h
  split at h
  case h_2 => cases h
  rename_i i hi
  split at h
  case h_2 => cases h
  rename_i l hl
  split at h
  case isFalse => cases h
  rename_i hc
  cases h
  cases hz : i.zero with
  | none => simp [hz] at hl
  | some v =>
    simp only [hz, Option.bind_some] at hl
    cases hx : trV v with
    | none => simp [hx] at hl
    | some x =>
      simp only [hx, Option.bind_some] at hl
      have key : ∀ ρ, LR ρ z v.cells.toList ∧ ∀ u ∈ v.cells.toList, u.oneCell' = true := fun ρ => (trV_ok (ρ := ρ) hx).cells hl
      refine ⟨i, v, hi, hz, hc.1.symm, by omega, hc.2.2, ?_, key⟩
      have := (key (fun _ => none)).1.1
      simpa using this.symm
theorem repl_length (z : List AV) : ∀ n, (repl z n).length = n * z.length
  | 0 => by simp [repl]
  | n + 1 => by simp [repl, repl_length z n, Nat.add_mul]; omega
theorem repl_get (z : List AV) (hz : 0 < z.length) : ∀ (n i : Nat), i < n * z.length → (repl z n)[i]? = z[i % z.length]?
  | 0, i, h => by simp at h
  | n + 1, i, h => by
    simp only [repl]
    by_cases hi : i < z.length
    · rw [List.getElem?_append_left hi, Nat.mod_eq_of_lt hi]
    · rw [List.getElem?_append_right (by omega), repl_get z hz n _ (by rw [Nat.add_mul] at h; omega), Nat.mod_eq_sub_mod (Nat.not_lt.1 hi)]
theorem repl_made {z : List AV} {v : Value} (hz : 0 < z.length) (hs : v.cells.size = z.length) (h : LR ρ z v.cells.toList ∧ ∀ u ∈ v.cells.toList, u.oneCell' = true) (n : Nat) :
    LR ρ (repl z n) (madeCells v.cells (n * z.length)).toList ∧ ∀ u ∈ (madeCells v.cells (n * z.length)).toList, u.oneCell' = true := by
  have get : ∀ i, i < n * z.length → (madeCells v.cells (n * z.length)).toList[i]? = some (v.cells[i % z.length]'(by rw [hs]; exact Nat.mod_lt _ hz)) := by
    intro i hi
    have hm : i % z.length < v.cells.size := by rw [hs]; exact Nat.mod_lt _ hz
    simp [madeCells, hi, hs]
    exact getElem!_pos v.cells (i % z.length) hm
  refine ⟨⟨by simp [repl_length, size_madeCells], fun i x u hx hu => ?_⟩, fun u hu => ?_⟩
  · have hi : i < n * z.length := by have := (List.getElem?_eq_some_iff.1 hx).1; rwa [repl_length] at this
    rw [repl_get z hz n i hi] at hx
    rw [get i hi] at hu
    cases hu
    exact h.1.2 (i % z.length) x _ hx (by simp [hs, Nat.mod_lt _ hz])
  · obtain ⟨i, hi, he⟩ := List.getElem_of_mem hu
    have hi' : i < n * z.length := by simpa [size_madeCells] using hi
    have := get i hi'
    rw [List.getElem?_eq_getElem hi, he] at this
    cases this
    exact h.2 _ (by simp)
end
end Go.Eng

namespace Go.Eng
open Go
section
variable {P : Program} {ρ : Ren} {H : AHeap} {w : World}
theorem Sim.window (hs : Sim ρ H w) {n : Nat} {L : Loc} {rw : Bool} {l : List AV} (hn : ρ n = some L) (hl : H[n]? = some (.cells rw l)) :
    ∃ cs T fz, w.heap[L.b]? = some (.cells cs T fz) ∧ (rw = true → L.own = true) ∧ (L.own = true → cs.size = L.sz ∧ fz = (0, 0)) ∧ L.o + l.length ≤ cs.size ∨ l.length = 0 := by
  have h := hs.obj n L _ hn hl
  cases hb : w.heap[L.b]? with
  | none => rw [hb] at h; exact h.elim
  | some b =>
    rw [hb] at h
    cases b with
    | cells cs T fz =>
      obtain ⟨h1, h2, h3, h4⟩ := h
      have := h3.1
      simp at this
      by_cases h0 : l.length = 0
      · exact ⟨cs, T, fz, .inr h0⟩
      · exact ⟨cs, T, fz, .inl ⟨rfl, h1, h2, by omega⟩⟩
    | _ => exact h.elim
/-- The cells of a live object. -/
theorem Sim.cellsOf (hs : Sim ρ H w) {n : Nat} {L : Loc} {rw : Bool} {l : List AV} (hn : ρ n = some L) (hl : H[n]? = some (.cells rw l)) :
    ∃ cs T fz, w.heap[L.b]? = some (.cells cs T fz) ∧ (rw = true → L.own = true) ∧ (L.own = true → cs.size = L.sz ∧ fz = (0, 0)) ∧ LR ρ l ((cs.toList.drop L.o).take l.length) ∧
      (∀ v ∈ (cs.toList.drop L.o).take l.length, v.oneCell' = true) := by
  have h := hs.obj n L _ hn hl
  cases hb : w.heap[L.b]? with
  | none => rw [hb] at h; exact h.elim
  | some b =>
    rw [hb] at h
    cases b with
    | cells cs T fz => exact ⟨cs, T, fz, rfl, h⟩
    | _ => exact h.elim
/-- A run of cells of a live object. -/
theorem Sim.run (hs : Sim ρ H w) {n : Nat} {L : Loc} {rw : Bool} {l : List AV} (hn : ρ n = some L) (hl : H[n]? = some (.cells rw l)) (off cnt : Nat) (hc : off + cnt ≤ l.length) :
    ∃ vs, LR ρ ((l.drop off).take cnt) vs ∧ vs.length = cnt ∧ (∀ v ∈ vs, v.oneCell' = true) ∧ ∀ (j : Nat) v, vs[j]? = some v → w.cell? ((⟨L.b, L.o + off, none⟩ : Addr).add j) = some v := by
  obtain ⟨cs, T, fz, hb, _, _, hr, ho⟩ := hs.cellsOf hn hl
  have hlen := hr.1
  simp at hlen
  refine ⟨(((cs.toList.drop L.o).take l.length).drop off).take cnt, (hr.drop off).take cnt, by simp; omega, fun v hv => ho v (List.mem_of_mem_drop (List.mem_of_mem_take hv)), fun j v hv => ?_⟩
  rw [add_none, cell_of_row w L.b _ cs T fz hb]
  rw [List.getElem?_take] at hv
  split at hv
  · rw [List.getElem?_drop, List.getElem?_take] at hv
    split at hv
    · rw [List.getElem?_drop] at hv
      rw [← hv, ← Array.getElem?_toList]
      congr 1; omega
    · cases hv
  · cases hv
theorem ok_ld (hs : Sim ρ H w) {t : TypeId} {sz : Nat} {ag : Bool} {n off : Nat} {rw : Bool} {l : List AV} {v : AV} {cp : Value} (h1 : tsize P t = some sz) (h2 : tagg P t = some ag) (hp : VR ρ (.ptr n off) cp)
    (hl : H[n]? = some (.cells rw l)) (h : partA l off sz ag = some v) : ∃ cv, (Instr.loadAt t cp).run P w = .ok cv w ∧ VR ρ v cv := by
  cases hp with
  | ptr _ _ L hn =>
    unfold partA at h
    split at h
    case isFalse => cases h
    rename_i hle
    obtain ⟨vs, hr, hvl, ho, hc⟩ := hs.run hn hl off sz hle
    cases ag with
    | true =>
      simp at h
      subst h
      refine ⟨.agg vs.toArray, ?_, VR.agg_iff.2 ⟨by simpa using hr, by simpa using ho⟩⟩
      have := run_loadCells_list (P := P) w ⟨L.b, L.o + off, none⟩ vs hc
      rw [hvl] at this
      simp [Instr.loadAt, Instr.sureAddr, loadVar, run_isAgg h2, run_sizeOf h1, this]
    | false =>
      simp at h
      obtain ⟨hsz, h⟩ := h
      subst hsz
      obtain ⟨cv, hcv, hv⟩ := hr.get (i := 0) (x := v) (by simp [h])
      refine ⟨cv, ?_, hv⟩
      have hcell := hc 0 cv hcv
      rw [add_none, Nat.add_zero] at hcell
      simp [Instr.loadAt, Instr.sureAddr, loadVar, run_isAgg h2, hcell]
theorem take_drop_splice (A c : List Value) (o n off : Nat) (h1 : o + n ≤ A.length) (h2 : off + c.length ≤ n) :
    ((A.take (o + off) ++ c ++ A.drop (o + off + c.length)).drop o).take n = ((A.drop o).take n).take off ++ c ++ ((A.drop o).take n).drop (off + c.length) := by
  apply List.ext_getElem?
  intro i
  simp only [List.getElem?_take, List.getElem?_drop, List.getElem?_append, List.length_append, List.length_take, List.length_drop]
  have e1 : min (o + off) A.length = o + off := by omega
  have e2 : min off (min n (A.length - o)) = off := by omega
  rw [e1, e2]
  by_cases hi : i < n
  · simp only [hi, if_true]
    by_cases h3 : i < off
    · simp only [show o + i < o + off + c.length from by omega, show o + i < o + off from by omega, show i < off + c.length from by omega, h3, if_true]
    · by_cases h4 : i < off + c.length
      · rw [if_pos (by omega), if_neg (by omega), if_pos (by omega), if_neg (by omega)]
        congr 1; omega
      · rw [if_neg (by omega), if_neg (by omega), if_pos (by omega)]
        congr 1; omega
  · rw [if_neg hi]
    rw [if_neg (by omega), if_neg (by omega)]
/-- Cells of an object of the call's own are overwritten. -/
theorem write_row (hs : Sim ρ H w) {n : Nat} {L : Loc} {l c : List AV} {cs : List Value} {off : Nat} (hn : ρ n = some L) (hl : H[n]? = some (.cells true l)) (hc : off + c.length ≤ l.length) (hr : LR ρ c cs) (ho : ∀ v ∈ cs, v.oneCell' = true) :
    ∃ w', (storeCells ⟨L.b, L.o + off, none⟩ cs).run P w = .ok () w' ∧ Sim ρ (H.set n (.cells true (splice l off c))) w' ∧ Step ρ H w ρ (H.set n (.cells true (splice l off c))) w' := by
  obtain ⟨cur, T, fz, hb, hown, hsz, hlr, hone⟩ := hs.cellsOf hn hl
  obtain ⟨hsz1, rfl⟩ := hsz (hown rfl)
  have hlen := hlr.1
  simp at hlen
  have hcl := hr.1
  by_cases hz : cs.length = 0
  · have e1 : cs = [] := List.eq_nil_of_length_eq_zero hz
    have e2 : c = [] := List.eq_nil_of_length_eq_zero (by omega)
    subst e1; subst e2
    refine ⟨w, by simp [storeCells], ?_⟩
    have e3 : splice l off [] = l := by simp [splice]
    rw [e3]
    exact hs.write hn (hown rfl) hl (by simp) (by simp) rfl rfl rfl rfl (fun _ _ => rfl) (hs.obj n L _ hn hl)
  · have hst := run_storeCells_at P L.b (L.o + off) T cs 0 cur w hb (by omega) ho
    simp only [Nat.add_zero] at hst
    refine ⟨_, hst, hs.write hn (hown rfl) hl (by simp) (by simp) (by simp [World.setRow]) rfl rfl rfl (fun b hb' => setRow_other w L.b b _ hb') ?_⟩
    rw [setRow_heap w L.b cur _ T (0, 0) hb]
    have hlen' : (splice l off c).length = l.length := by simp [splice]; omega
    have hcur : cur.toList.length = cur.size := by simp
    have e := take_drop_splice cur.toList cs L.o l.length off (by omega) (by omega)
    refine ⟨fun _ => hown rfl, fun _ => ⟨?_, rfl⟩, ?_, ?_⟩
    · simp; omega
    · rw [hlen', List.toList_toArray, e]
      exact hlr.splice hr off
    · rw [hlen', List.toList_toArray, e]
      exact mem_splice hone ho
theorem ok_st (hs : Sim ρ H w) {t : TypeId} {sz : Nat} {n off : Nat} {l c : List AV} {x : AV} {cp cx : Value} (h1 : tsize P t = some sz) (hp : VR ρ (.ptr n off) cp) (hx : VR ρ x cx) (hxc : x.cells? = some c)
    (hl : H[n]? = some (.cells true l)) (hc : c.length = sz ∧ off + sz ≤ l.length) :
    ∃ w', (Instr.storeAt t cp cx).run P w = .ok () w' ∧ Sim ρ (H.set n (.cells true (splice l off c))) w' ∧ Step ρ H w ρ (H.set n (.cells true (splice l off c))) w' := by
  cases hp with
  | ptr _ _ L hn =>
    obtain ⟨hr, ho⟩ := hx.cells hxc
    obtain ⟨w', hrun, hs', st⟩ := write_row (P := P) hs hn hl (off := off) (by omega) hr ho
    refine ⟨w', ?_, hs', st⟩
    have hsz : cx.cells.size = sz := by rw [← hc.1]; simpa using hr.1.symm
    simp [Instr.storeAt, Instr.sureAddr, storeVar, run_sizeOf h1, hsz, hrun]
/-- A new object. -/
theorem new_row (hs : Sim ρ H w) {l : List AV} {cs : Array Value} (T : TypeId) (_hle : l.length ≤ cs.size) (hr : LR ρ l (cs.toList.take l.length)) (ho : ∀ v ∈ cs.toList.take l.length, v.oneCell' = true) :
    Sim (ρ.put H.length ⟨w.heap.size, 0, true, cs.size⟩) (H ++ [.cells true l]) (w.alloc (.cells cs T)) ∧
      Step ρ H w (ρ.put H.length ⟨w.heap.size, 0, true, cs.size⟩) (H ++ [.cells true l]) (w.alloc (.cells cs T)) := by
  refine hs.alloc (.cells true l) (.cells cs T) cs.size ⟨fun _ => rfl, fun _ => ⟨rfl, rfl⟩, ?_, ?_⟩
  · simp only [List.drop_zero]; exact hr.mono (Sub.put hs.none_of_len)
  · simpa using ho
theorem put_self {ρ : Ren} {n : Nat} {L : Loc} : (ρ.put n L) n = some L := by simp [Ren.put]
theorem new_all (hs : Sim ρ H w) {l : List AV} {cs : Array Value} (T : TypeId) (hr : LR ρ l cs.toList) (ho : ∀ v ∈ cs.toList, v.oneCell' = true) :
    Sim (ρ.put H.length ⟨w.heap.size, 0, true, cs.size⟩) (H ++ [.cells true l]) (w.alloc (.cells cs T)) ∧
      Step ρ H w (ρ.put H.length ⟨w.heap.size, 0, true, cs.size⟩) (H ++ [.cells true l]) (w.alloc (.cells cs T)) := by
  have hl : l.length = cs.toList.length := hr.1
  refine new_row hs T (by simp at hl; omega) (by rw [hl, List.take_length]; exact hr) (fun v hv => ho v (List.mem_of_mem_take hv))
theorem ok_mks (hs : Sim ρ H w) {t e : TypeId} {z : List AV} {k1 k2 : IntKind} {lv cv : Int} (ht : selem P t = some e) (hz : ezero P e = some z) (h : 0 ≤ lv ∧ lv ≤ cv ∧ cv ≤ lim) :
    ∃ v w' ρ', (Instr.makeSlice t (.int k1 lv) (.int k2 cv)).run P w = .ok v w' ∧ VR ρ' (.sl z.length H.length 0 lv.toNat (lv == cv)) v ∧ Sim ρ' (H ++ [.cells true (repl z cv.toNat)]) w' ∧
      Step ρ H w ρ' (H ++ [.cells true (repl z cv.toNat)]) w' := by
  obtain ⟨i, v, hi, hv, hsz, hpos, hby, hvs, hcells⟩ := ezero_some hz
  obtain ⟨h0, h1, h2⟩ := h
  have h2' : cv ≤ 2147483648 := h2
  have hb : (i.bytes : Int) * cv ≤ 281474976710656 := by
    have : (i.bytes : Int) * cv ≤ 65536 * 2147483648 := Int.mul_le_mul (by omega) h2' (by omega) (by omega)
    omega
  have hr := run_make (P := P) w t e i v (selem_some ht) hi hv k1 k2 lv cv h0 h1 hb (by omega)
  rw [hsz] at hr
  obtain ⟨hlr, hone⟩ := repl_made hpos hvs (hcells ρ) cv.toNat
  obtain ⟨hs', st⟩ := new_all hs e hlr hone
  refine ⟨_, _, _, hr, ?_, hs', st⟩
  refine VR.sl _ _ _ _ _ ⟨w.heap.size, 0, true, _⟩ ⟨w.heap.size, 0, none⟩ cv.toNat put_self (by omega) (fun hf => ?_) (.inl rfl) (fun _ => .inr (by simp [size_madeCells]))
  have : lv = cv := by simpa using hf
  rw [this]
theorem ok_blds (hs : Sim ρ H w) {t e : TypeId} {z l : List AV} {n : Nat} {ps : Array (Nat × Value)} {as : List (Nat × Nat × AV)} (ht : selem P t = some e) (hz : ezero P e = some z) (hn : n * z.length ≤ 65536)
    (hlen : as.length = ps.toList.length) (hrel : ∀ (i : Nat) p a, ps.toList[i]? = some p → as[i]? = some a → (some (p.1 * z.length, z.length) = some (a.1, a.2.1)) ∧ VR ρ a.2.2 p.2) (h : fillA as (repl z n) = some l) :
    ∃ v w' ρ', (Instr.buildSlice t n ps).run P w = .ok v w' ∧ VR ρ' (.sl z.length H.length 0 n true) v ∧ Sim ρ' (H ++ [.cells true l]) w' ∧ Step ρ H w ρ' (H ++ [.cells true l]) w' := by
  obtain ⟨i, v, hi, hv, hsz, hpos, hby, hvs, hcells⟩ := ezero_some hz
  obtain ⟨hlr, hone⟩ := repl_made hpos hvs (hcells ρ) n
  obtain ⟨cells', hf, hl', ho'⟩ := fill_ok (fun i => some (i * z.length, z.length)) ps.toList as _ l _ hlen hrel hlr hone h
  obtain ⟨hs', st⟩ := new_all hs e hl' ho'
  have hsize : cells'.size = n * z.length := by
    have keep : ∀ (as : List (Nat × Nat × AV)) (l l' : List AV), fillA as l = some l' → l'.length = l.length := by
      intro as
      induction as with
      | nil => intro l l' h; simp [fillA] at h; subst h; rfl
      | cons a as ih =>
        intro l l' h
        obtain ⟨off, sz, x⟩ := a
        simp only [fillA] at h
        split at h
        · rename_i c _
          split at h
          · rw [ih _ _ h]; simp [splice]; omega
          · cases h
        · cases h
    have h1 := keep _ _ _ h
    rw [repl_length] at h1
    have := hl'.1
    simp at this
    omega
  refine ⟨.slice (some ⟨w.heap.size, 0, none⟩) n n, _, _, ?_, ?_, hs', st⟩
  · simp only [Instr.buildSlice, Sem.run_bind, run_underlying (selem_some ht), Result.andThen_ok, sizeOf, typeInfo, run_program, hi, Sem.run_pure, hsz, zeroValue]
    have hf' : Instr.fill (fun i => some (i * z.length, z.length)) (madeCells v.cells (n * z.length)) ps.toList = some cells' := hf
    by_cases h0 : n * z.length = 0
    · have : madeCells v.cells (n * z.length) = (Array.range (n * z.length)).map ((#[] : Array Value)[· % (#[] : Array Value).size]!) := by simp [madeCells, h0]
      rw [this] at hf'
      simp [h0] at hf' ⊢
      simp [hf', newRow]
    · have hn' : ¬ (16777216 < n * z.length) := by omega
      unfold madeCells at hf'
      simp [h0, hn', hi, hv, hf', newRow]
  · refine VR.sl _ _ _ _ _ ⟨w.heap.size, 0, true, cells'.size⟩ ⟨w.heap.size, 0, none⟩ n put_self (Nat.le_refl _) (fun _ => rfl) (.inl rfl) (fun _ => .inr ?_)
    simp [hsize]
end
end Go.Eng

namespace Go.Eng
open Go
section
variable {P : Program} {ρ : Ren} {H : AHeap} {w : World}
theorem cellsAt_some {H : AHeap} {n off cnt : Nat} {l : List AV} (h : cellsAt H n off cnt = some l) : ∃ rw l0, H[n]? = some (.cells rw l0) ∧ off + cnt ≤ l0.length ∧ l = (l0.drop off).take cnt := by
  unfold cellsAt at h
  split at h
  · rename_i rw l0 hl
    split at h
    · rename_i hle; cases h; exact ⟨rw, l0, hl, hle, rfl⟩
    · cases h
  · cases h
/-- What a slice holds. -/
theorem slCells_ok (hs : Sim ρ H w) {es k : Nat} {Y : AV} {new : List AV} {cy : Value} (hy : VR ρ Y cy) (h : slCells es H Y = some (k, new)) :
    ∃ (a : Option Addr) (cap : Nat) (vs : List Value), cy = .slice a k cap ∧ (a = none → k = 0 ∧ cap = 0) ∧ LR ρ new vs ∧ vs.length = k * es ∧ (∀ v ∈ vs, v.oneCell' = true) ∧
      ∀ a', a = some a' → ∀ (j : Nat) v, vs[j]? = some v → w.cell? (a'.add j) = some v := by
  unfold slCells at h
  split at h
  · cases h
    cases hy
    exact ⟨none, 0, [], rfl, fun _ => ⟨rfl, rfl⟩, LR.nil, by simp, by simp, by simp⟩
  · rename_i es' n off len full
    split at h
    case isFalse => cases h
    rename_i he
    subst he
    simp only [Option.map_eq_some_iff, Prod.mk.injEq] at h
    obtain ⟨l, hl, rfl, rfl⟩ := h
    cases hy with
    | sl _ _ _ _ _ L a cap h1 h2 h3 h4 h5 =>
      obtain ⟨rw, l0, hl0, hle, rfl⟩ := cellsAt_some hl
      obtain ⟨vs, hr, hvl, ho, hc⟩ := hs.run h1 hl0 off _ hle
      refine ⟨some a, cap, vs, rfl, by simp, hr, hvl, ho, ?_⟩
      intro a' ha' j v hv
      cases ha'
      rcases h4 with h4 | h4
      · subst h4; exact hc j v hv
      · have : len = 0 := by omega
        subst this
        simp at hvl
        subst hvl
        simp at hv
  · cases h
theorem grown_size {z : Value} {es need c : Nat} {vs : List Value} (hz : z.cells.size = es) (hl : vs.length = need * es) (hc : need ≤ c) : (vs.toArray ++ Builtin.zeroCells z.cells (c - need)).size = c * es := by
  simp [Builtin.zeroCells, hz, hl, ← Nat.add_mul]
  congr 1; omega
theorem ok_app (hs : Sim ρ H w) {t e ty : TypeId} {z : List AV} {X Y V : AV} {H' : AHeap} {cx cy : Value} (ht : selem P t = some e) (hz : ezero P e = some z) (hx : VR ρ X cx) (hy : VR ρ Y cy) (h : appA z.length H X Y = some (V, H')) :
    ∃ v w' ρ', (Builtin.append_ #[t, t] ty #[cx, cy]).run P w = .ok v w' ∧ VR ρ' V v ∧ Sim ρ' H' w' ∧ Step ρ H w ρ' H' w' := by
  obtain ⟨i, zv, hi, hzv, hsz, hpos, hby, hvs, hcells⟩ := ezero_some hz
  have hu := selem_some ht
  unfold appA at h
  split at h
  case h_1 => cases h
  rename_i k new hk
  obtain ⟨a, cap, vs, rfl, hnone, hr, hvl, ho, hcell⟩ := slCells_ok hs hy hk
  -- nothing to append
  have zero : ∀ (base : Option Addr) (len c : Nat), len ≤ c → k = 0 → cx = .slice base len c → (Builtin.append_ #[t, t] ty #[cx, .slice a k cap]).run P w = .ok cx w := by
    intro base len c hlc hk0 hcx
    subst hk0; subst hcx
    have hf : (Builtin.firstCells i.size 0 (.slice a 0 cap)).run P w = .ok #[] w := by cases a <;> simp [Builtin.firstCells, loadCells, loadCellsFrom]
    cases base <;> simp [Builtin.append_, run_underlying hu, sizeOf, typeInfo, hi, Builtin.lenOf, hlc, hf, storeCells]
  -- a new block
  have grow : ∀ (olds : List Value) (ol : List AV) (len : Nat) (cap0 : Nat) (base : Option Addr), cx = .slice base len cap0 → (base = none → len = 0 ∧ cap0 = 0) → olds.length = len * z.length → LR ρ ol olds → (∀ v ∈ olds, v.oneCell' = true) →
      (∀ b, base = some b → ∀ (j : Nat) v, olds[j]? = some v → w.cell? (b.add j) = some v) → 0 < k → cap0 < len + k → len + k ≤ lim →
      ∃ v w' ρ', (Builtin.append_ #[t, t] ty #[cx, .slice a k cap]).run P w = .ok v w' ∧ VR ρ' (.sl z.length H.length 0 (len + k) false) v ∧ Sim ρ' (H ++ [.cells true (ol ++ new)]) w' ∧ Step ρ H w ρ' (H ++ [.cells true (ol ++ new)]) w' := by
    intro olds ol len cap0 base hcx hb0 hol hor hoo hoc hkp hcap hlim
    obtain ⟨a', rfl⟩ : ∃ a', a = some a' := by
      cases a with
      | none => have := (hnone rfl).1; omega
      | some a' => exact ⟨a', rfl⟩
    have hlim' : len + k ≤ 2147483648 := hlim
    have hbytes : (len + k) * i.bytes ≤ 140737488355328 := by
      have := Nat.mul_le_mul hlim' hby
      omega
    have hge := grownCap_ge w (len + k) cap0 e
    have hrun : (Builtin.append_ #[t, t] ty #[cx, .slice (some a') k cap]).run P w =
        .ok (.slice (some ⟨w.heap.size, 0, none⟩) (len + k) (grownCap w (len + k) cap0 e)) (w.drew.alloc (.cells ((olds ++ vs).toArray ++ Builtin.zeroCells zv.cells (grownCap w (len + k) cap0 e - (len + k))) e)) := by
      cases base with
      | none =>
        obtain ⟨rfl, rfl⟩ := hb0 rfl
        have : olds = [] := List.eq_nil_of_length_eq_zero (by simpa using hol)
        subst this
        subst hcx
        have := run_append_nil (P := P) w t ty e i zv hu hi hzv a' k cap vs (by rw [hsz]; exact hvl) (hcell a' rfl) hkp (by omega) (by simp at hbytes; omega)
        simpa using this
      | some b =>
        subst hcx
        have := run_append_grow (P := P) w t ty e i zv hu hi hzv b len cap0 olds (by rw [hsz]; exact hol) (hoc b rfl) a' k cap vs (by rw [hsz]; exact hvl) (hcell a' rfl) hcap (by omega)
          (growslice_fits hcap hbytes)
        rw [this]
        simp
    have hll : (ol ++ new).length = (olds ++ vs).length := (hor.append hr).1
    have hsize := grown_size (z := zv) (es := z.length) (need := len + k) (c := grownCap w (len + k) cap0 e) (vs := olds ++ vs) hvs (by rw [List.length_append, hol, hvl, Nat.add_mul]) hge
    have htk : ((olds ++ vs).toArray ++ Builtin.zeroCells zv.cells (grownCap w (len + k) cap0 e - (len + k))).toList.take (ol ++ new).length = olds ++ vs := by
      rw [hll, Array.toList_append, List.toList_toArray]; exact List.take_left
    obtain ⟨hs', st⟩ := new_row (w := w.drew) hs.drew (l := ol ++ new) (cs := (olds ++ vs).toArray ++ Builtin.zeroCells zv.cells (grownCap w (len + k) cap0 e - (len + k))) e
      (by rw [hll, Array.size_append]; simp) (by rw [htk]; exact hor.append hr)
      (by rw [htk]; intro v hv; rcases List.mem_append.1 hv with h | h; exact hoo v h; exact ho v h)
    have st' : Step ρ H w ρ H w.drew := ⟨fun _ _ => rfl, Nat.le_refl _, rfl, rfl, rfl, Nat.le_refl _, fun _ _ _ => rfl, fun _ h => .inr h, fun n L e => .inl (hs.dom n L e).1⟩
    refine ⟨_, _, _, hrun, ?_, hs', st'.trans st⟩
    refine VR.sl _ _ _ _ _ ⟨w.heap.size, 0, true, _⟩ ⟨w.heap.size, 0, none⟩ _ put_self hge (by simp) (.inl rfl) (fun _ => .inr ?_)
    show 0 + grownCap w (len + k) cap0 e * z.length ≤ Array.size _
    rw [hsize]; exact Nat.le_of_eq (Nat.zero_add _)
  split at h
  · -- nil
    split at h
    · rename_i hk0
      cases h
      cases hx
      exact ⟨_, w, ρ, zero none 0 0 (Nat.le_refl _) hk0 rfl, .nilS, hs, Step.refl _ _ _ hs⟩
    · split at h
      · rename_i hk0 hlim
        cases h
        cases hx
        have := grow [] [] 0 0 none rfl (fun _ => ⟨rfl, rfl⟩) (by simp) LR.nil (by simp) (by simp) (by omega) (by omega) (by omega)
        simpa using this
      · cases h
  · -- a slice
    rename_i es' n off len full
    split at h
    · rename_i hk0
      cases h
      have hx' := hx
      cases hx with
      | sl _ _ _ _ _ L a0 cap0 h1 h2 h3 h4 h5 =>
        exact ⟨_, w, ρ, zero _ _ _ h2 hk0 rfl, hx', hs, Step.refl _ _ _ hs⟩
    · rename_i hk0
      split at h
      case isFalse => cases h
      rename_i hc
      obtain ⟨rfl, hlim⟩ := hc
      split at h
      case h_2 => cases h
      rename_i rw l hl
      split at h
      case isFalse => cases h
      rename_i hle
      cases hx with
      | sl _ _ _ _ _ L a0 cap0 h1 h2 h3 h4 h5 =>
        obtain ⟨olds, hor, hol, hoo, hoc⟩ := hs.run h1 hl off _ hle
        have hoc' : ∀ b, (some a0 : Option Addr) = some b → ∀ (j : Nat) v, olds[j]? = some v → w.cell? (b.add j) = some v := by
          intro b hb j v hv
          cases hb
          rcases h4 with h4 | h4
          · subst h4; exact hoc j v hv
          · have : len = 0 := by omega
            subst this
            simp at hol
            subst hol
            simp at hv
        cases full with
        | true =>
          simp at h
          obtain ⟨rfl, rfl⟩ := h
          have := h3 rfl
          exact grow olds _ len cap0 (some a0) rfl (by simp) hol hor hoo hoc' (by omega) (by omega) (by omega)
        | false =>
          cases rw with
          | false => simp at h
          | true =>
            simp at h
            obtain ⟨rfl, rfl⟩ := h
            have hown : L.own = true := by
              obtain ⟨_, _, _, _, h, _⟩ := hs.cellsOf h1 hl
              exact h rfl
            have hnl := (hs.dom n L h1).1
            have hlv : live H n := ⟨_, hl, by simp⟩
            have dead : ∀ {m : Nat}, live (H.set n .dead) m → m ≠ n ∧ live H m := by
              rintro m ⟨o, h1, h2⟩
              rw [List.getElem?_set] at h1
              split at h1
              · rename_i e; subst e; simp [] at h1; exact absurd h1.symm h2
              · rename_i e; exact ⟨fun h => e h.symm, o, h1, h2⟩
            -- the old name is given up
            have hsd : Sim ρ (H.set n .dead) w := by
              refine ⟨fun m M e => by simpa using hs.dom m M e, fun m M o e ho => ?_, fun m m' M M' e e' hne l1 l2 hb => hs.sep m m' M M' e e' hne (dead l1).2 (dead l2).2 hb⟩
              rw [List.getElem?_set] at ho
              split at ho
              · rename_i e'; subst e'; simp [] at ho; subst ho; trivial
              · exact hs.obj m M o e ho
            have std : Step ρ H w ρ (H.set n .dead) w := by
              refine ⟨fun _ _ => rfl, by simp, rfl, rfl, rfl, Nat.le_refl _, fun _ _ _ => rfl, ?_, fun m M e => .inl (hs.dom m M e).1⟩
              rintro b ⟨m, M, e, h1, h2, h3⟩
              exact .inr ⟨m, M, e, h1, h2, (dead h3).2⟩
            by_cases hroom : len + k ≤ cap0
            · -- in place
              have hc0 : cap0 ≠ 0 := by omega
              rcases h4 with rfl | h4
              case inr => exact absurd h4 hc0
              have hcapsz : L.o + off + cap0 * z.length ≤ L.sz := (h5 hown).resolve_left hc0
              obtain ⟨cur, T, fz, hb, _, hsz2, hlr, hone⟩ := hs.cellsOf h1 hl
              obtain ⟨hcs, rfl⟩ := hsz2 hown
              have hmul : (len + k) * z.length ≤ cap0 * z.length := Nat.mul_le_mul_right _ hroom
              rw [Nat.add_mul] at hmul
              obtain ⟨a', rfl⟩ : ∃ a', a = some a' := by
                cases a with
                | none => have := (hnone rfl).1; omega
                | some a' => exact ⟨a', rfl⟩
              have hf := run_firstCells_some (P := P) w i.size k a' k cap vs (by rw [hsz]; exact hvl) (hcell a' rfl)
              rw [hsz] at hf
              have hst := run_storeCells_at P L.b (L.o + off + len * z.length) T vs 0 cur w hb (by omega) ho
              simp only [Nat.add_zero] at hst
              have hrun : (Builtin.append_ #[t, t] ty #[.slice (some ⟨L.b, L.o + off, none⟩) len cap0, .slice (some a') k cap]).run P w =
                  .ok (.slice (some ⟨L.b, L.o + off, none⟩) (len + k) cap0) (w.setRow L.b (cur.toList.take (L.o + off + len * z.length) ++ vs ++ cur.toList.drop (L.o + off + len * z.length + vs.length)).toArray) := by
                simp [Builtin.append_, run_underlying hu, sizeOf, typeInfo, hi, Builtin.lenOf, hroom, hf, hsz, add_none, hst]
              let L' : Loc := ⟨L.b, L.o + off, true, L.sz⟩
              have hlen : (H.set n .dead).length = H.length := by simp
              have hput : ρ H.length = none := hs.none_of_len
              have hsub : Sub ρ (ρ.put H.length L') := Sub.put hput
              have cs : ∀ {m M}, (ρ.put H.length L') m = some M → (m = H.length ∧ M = L') ∨ (ρ m = some M ∧ m < H.length) := by
                intro m M e
                unfold Ren.put at e
                split at e
                · rename_i hm; cases e; exact .inl ⟨hm, rfl⟩
                · exact .inr ⟨e, (hs.dom m M e).1⟩
              have hlast : ((H.set n .dead) ++ [AObj.cells true ((l.drop off).take (len * z.length) ++ new)])[H.length]? = some (.cells true ((l.drop off).take (len * z.length) ++ new)) := by
                rw [List.getElem?_append_right (by simp)]; simp
              have lv : ∀ {m : Nat}, m < H.length → (live ((H.set n .dead) ++ [AObj.cells true ((l.drop off).take (len * z.length) ++ new)]) m ↔ live (H.set n .dead) m) := fun hm => live_append (by simpa using hm)
              have hcurl : cur.toList.length = cur.size := by simp
              have hcell' : ((cur.toList.take (L.o + off + len * z.length) ++ vs ++ cur.toList.drop (L.o + off + len * z.length + vs.length)).drop (L.o + off)).take (len * z.length + vs.length) = olds ++ vs := by
                have hl2 := hlr.1
                simp at hl2
                have ho2 : olds = ((cur.toList.drop L.o).take l.length |>.drop off).take (len * z.length) := by
                  apply List.ext_getElem?
                  intro j
                  by_cases hj : j < len * z.length
                  · obtain ⟨v, hv⟩ : ∃ v, olds[j]? = some v := ⟨olds[j]'(by omega), by simp [hol, hj]⟩
                    have := hoc j v hv
                    rw [add_none, cell_of_row w L.b _ cur T (0, 0) hb] at this
                    rw [hv, List.getElem?_take, if_pos hj, List.getElem?_drop, List.getElem?_take, if_pos (by omega), List.getElem?_drop, ← this, ← Array.getElem?_toList]
                    congr 1; omega
                  · rw [List.getElem?_eq_none (by omega), List.getElem?_eq_none (by simp; omega)]
                have key := take_drop_splice cur.toList vs (L.o + off) (len * z.length + vs.length) (len * z.length) (by omega) (Nat.le_refl _)
                rw [key, ho2]
                have e0 : ((List.drop (L.o + off) cur.toList).take (len * z.length + vs.length)).drop (len * z.length + vs.length) = [] := List.drop_eq_nil_of_le (by rw [List.length_take]; omega)
                rw [e0, List.append_nil]
                congr 1
                rw [List.take_take, List.drop_take, List.take_take, List.drop_drop]
                congr 1
                omega
              refine ⟨_, _, ρ.put H.length L', hrun, ?_, ⟨?_, ?_, ?_⟩, ⟨?_, ?_, rfl, rfl, rfl, ?_, ?_, ?_, ?_⟩⟩
              · refine VR.sl _ _ _ _ _ L' ⟨L.b, L.o + off, none⟩ cap0 put_self hroom (by simp) (.inl rfl) (fun _ => .inr hcapsz)
              · intro m M e
                rcases cs e with ⟨rfl, rfl⟩ | ⟨e', hm⟩
                · exact ⟨by simp, by simpa [World.setRow] using (hs.dom n L h1).2⟩
                · refine ⟨by simp; omega, by simpa [World.setRow] using (hs.dom m M e').2⟩
              · intro m M o e hmo
                rcases cs e with ⟨rfl, rfl⟩ | ⟨e', hm⟩
                · rw [hlast] at hmo
                  cases hmo
                  show ObjR _ L' _ _
                  rw [setRow_heap w L.b cur _ T (0, 0) hb]
                  refine ⟨fun _ => rfl, fun _ => ⟨by simp [L']; omega, rfl⟩, ?_, ?_⟩
                  · have hn : ((l.drop off).take (len * z.length) ++ new).length = len * z.length + vs.length := by rw [List.length_append, hor.1, hr.1, hol]
                    rw [hn, List.toList_toArray, hcell']
                    exact (hor.append hr).mono hsub
                  · have hn : ((l.drop off).take (len * z.length) ++ new).length = len * z.length + vs.length := by rw [List.length_append, hor.1, hr.1, hol]
                    rw [hn, List.toList_toArray, hcell']
                    intro v hv
                    rcases List.mem_append.1 hv with h | h
                    · exact hoo v h
                    · exact ho v h
                · rw [List.getElem?_append_left (by simpa using hm)] at hmo
                  by_cases hd : o = .dead
                  · subst hd; trivial
                  · have hlm : live (H.set n .dead) m := ⟨o, hmo, hd⟩
                    obtain ⟨hmn, hlm'⟩ := dead hlm
                    have hbne : M.b ≠ L.b := by
                      intro hbe
                      have := hs.sep m n M L e' h1 hmn hlm' hlv hbe
                      rw [hown] at this; simp at this
                    rw [setRow_other w L.b M.b _ hbne]
                    exact (hsd.obj m M o e' hmo).mono hsub
              · intro m m' M M' e e' hne l1 l2 hbe
                rcases cs e with ⟨rfl, rfl⟩ | ⟨e1, hm⟩ <;> rcases cs e' with ⟨rfl, rfl⟩ | ⟨e2, hm'⟩
                · exact absurd rfl hne
                · exfalso
                  obtain ⟨hmn, hlm'⟩ := dead ((lv hm').1 l2)
                  have := hs.sep m' n M' L e2 h1 hmn hlm' hlv hbe.symm
                  rw [hown] at this; simp at this
                · exfalso
                  obtain ⟨hmn, hlm'⟩ := dead ((lv hm).1 l1)
                  have := hs.sep m n M L e1 h1 hmn hlm' hlv hbe
                  rw [hown] at this; simp at this
                · exact hsd.sep m m' M M' e1 e2 hne ((lv hm).1 l1) ((lv hm').1 l2) hbe
              · intro m hm; unfold Ren.put; rw [if_neg (by omega)]
              · simp
              · simp [World.setRow]
              · intro b _ hno
                exact setRow_other w L.b b _ (fun e => hno ⟨n, L, h1, hown, e.symm, hlv⟩)
              · rintro b ⟨m, M, e, h2', h3', h4'⟩
                rcases cs e with ⟨rfl, rfl⟩ | ⟨e1, hm⟩
                · exact .inr ⟨n, L, h1, hown, h3', hlv⟩
                · exact .inr ⟨m, M, e1, h2', h3', (dead ((lv hm).1 h4')).2⟩
              · intro m M e
                rcases cs e with ⟨rfl, rfl⟩ | ⟨e1, hm⟩
                · exact .inr (.inr ⟨n, L, h1, hown, rfl, hlv⟩)
                · exact .inl hm
            · -- a new block
              obtain ⟨v, w', ρ', g1, g2, g3, g4⟩ := grow olds _ len cap0 (some a0) rfl (by simp) hol hor hoo hoc' (by omega) (by omega) (by omega)
              refine ⟨v, w', ρ', g1, g2, ?_, ?_⟩
              all_goals
                have hset : (H.set n AObj.dead) ++ [AObj.cells true ((l.drop off).take (len * z.length) ++ new)] = (H ++ [AObj.cells true ((l.drop off).take (len * z.length) ++ new)]).set n .dead := by
                  rw [List.set_append_left _ _ hnl]
                have hn' : n < (H ++ [AObj.cells true ((l.drop off).take (len * z.length) ++ new)]).length := by simp; omega
                have dead' : ∀ {m : Nat}, live ((H ++ [AObj.cells true ((l.drop off).take (len * z.length) ++ new)]).set n .dead) m → live (H ++ [AObj.cells true ((l.drop off).take (len * z.length) ++ new)]) m := by
                  rintro m ⟨o, k1, k2⟩
                  rw [List.getElem?_set] at k1
                  split at k1
                  · rename_i e; subst e; simp [] at k1; exact absurd k1.symm k2
                  · exact ⟨o, k1, k2⟩
                rw [hset]
              · refine ⟨fun m M e => by simpa using g3.dom m M e, fun m M o e hmo => ?_, fun m m' M M' e e' hne l1 l2 hb => g3.sep m m' M M' e e' hne (dead' l1) (dead' l2) hb⟩
                rw [List.getElem?_set] at hmo
                split at hmo
                · rename_i e'; subst e'; simp [] at hmo; subst hmo; trivial
                · exact g3.obj m M o e hmo
              · refine ⟨g4.old, by simp, g4.os, g4.tape, g4.out, g4.size, g4.keep, ?_, g4.fresh⟩
                rintro b ⟨m, M, e, k1, k2, k3⟩
                exact g4.own b ⟨m, M, e, k1, k2, dead' k3⟩
  · cases h
/-- So many zeros behind no elements. -/
theorem ok_appz (hs : Sim ρ H w) {t u e ty : TypeId} {z : List AV} {X Y V : AV} {H' : AHeap} {cx cy : Value} (ht : selem P t = some e) (hint : P.underlying u = some (.int .i64)) (hz : ezero P e = some z) (hx : VR ρ X cx) (hy : VR ρ Y cy) (h : appzA z.length z H X Y = some (V, H')) :
    ∃ v w' ρ', (Builtin.append_ #[t, u] ty #[cx, cy]).run P w = .ok v w' ∧ VR ρ' V v ∧ Sim ρ' H' w' ∧ Step ρ H w ρ' H' w' := by
  obtain ⟨i, zv, hi, hzv, hsz, hpos, hby, hvs, hcells⟩ := ezero_some hz
  have hu := selem_some ht
  unfold appzA at h
  split at h
  case h_2 => cases h
  rename_i k
  split at h
  case isFalse => cases h
  rename_i hk
  cases h
  cases hx
  cases hy
  obtain ⟨n, rfl⟩ : ∃ n : Nat, k = n := ⟨k.toNat, by omega⟩
  have hk2 : n ≤ 2147483648 := by have := hk.2; unfold lim at this; omega
  have hn : n ≠ 0 := by omega
  have w64' : ∀ m : Int, -9223372036854775808 ≤ m → m < 9223372036854775808 → IntKind.i64.wrap m = m := by
    intro m h0 h1
    have e : IntKind.i64.wrap m = if m % 18446744073709551616 ≥ 9223372036854775808 then m % 18446744073709551616 - 18446744073709551616 else m % 18446744073709551616 := by
      simp [IntKind.wrap, IntKind.bits, IntKind.signed]
    rw [e]
    split <;> omega
  have hw : IntKind.i64.wrap (n : Int) = n := w64' n (by omega) (by omega)
  have hbytes : n * i.bytes ≤ 140737488355328 := by
    have := Nat.mul_le_mul hk2 hby
    omega
  have hb0 : ¬ ((281474976710656 : Int) < (n : Int) * (i.bytes : Int)) := by
    rw [← Int.natCast_mul]
    omega
  have h63' : ¬ (9223372036854775807 < (n : Int)) := by omega
  have hneg : ¬ ((n : Int) < 0) := by omega
  have h48' : ¬ (281474976710656 < Builtin.nextslicecap n 0 * i.bytes) := by rw [nextslicecap_zero (by omega)]; omega
  have hpz : 0 < i.size := by omega
  have hns : ¬ n * i.size = 0 := Nat.mul_ne_zero hn (by omega)
  have hge := grownCap_ge w n 0 e
  have hrun : (Builtin.append_ #[t, u] ty #[.slice none 0 0, .int .i64 n]).run P w =
      .ok (.slice (some ⟨w.heap.size, 0, none⟩) n (grownCap w n 0 e)) (w.drew.alloc (.cells (Builtin.zeroCells zv.cells n ++ Builtin.zeroCells zv.cells (grownCap w n 0 e - n)) e)) := by
    simp [Builtin.append_, run_underlying hu, run_underlying hint, sizeOf, typeInfo, zeroValue, hi, hzv, asInt, asIntOf, hw, hn, hneg, hb0, h63', h48', hns, Question.forced, run_firstCells_none, newRow, grownCap]
  have hzn : Builtin.zeroCells zv.cells n = madeCells zv.cells (n * z.length) := by rw [← hvs]; rfl
  obtain ⟨hlr, hone⟩ := repl_made hpos hvs (hcells ρ) n
  have htk : (Builtin.zeroCells zv.cells n ++ Builtin.zeroCells zv.cells (grownCap w n 0 e - n)).toList.take (repl z n).length = (madeCells zv.cells (n * z.length)).toList := by
    rw [hzn, Array.toList_append, hlr.1]; exact List.take_left
  obtain ⟨hs', st⟩ := new_row (w := w.drew) hs.drew (l := repl z n) (cs := Builtin.zeroCells zv.cells n ++ Builtin.zeroCells zv.cells (grownCap w n 0 e - n)) e
    (by rw [Array.size_append, hlr.1, hzn]; simp) (by rw [htk]; exact hlr) (by rw [htk]; exact hone)
  have st' : Step ρ H w ρ H w.drew := ⟨fun _ _ => rfl, Nat.le_refl _, rfl, rfl, rfl, Nat.le_refl _, fun _ _ _ => rfl, fun _ h => .inr h, fun n L e => .inl (hs.dom n L e).1⟩
  refine ⟨_, _, _, hrun, ?_, hs', st'.trans st⟩
  refine VR.sl _ _ _ _ _ ⟨w.heap.size, 0, true, _⟩ ⟨w.heap.size, 0, none⟩ _ put_self (by simpa using hge) (by simp) (.inl rfl) (fun _ => .inr ?_)
  show 0 + grownCap w n 0 e * z.length ≤ Array.size _
  simp only [Builtin.zeroCells, Array.size_append, Array.size_map, Array.size_range, hvs, ← Nat.add_mul]
  rw [Nat.zero_add]
  exact Nat.mul_le_mul_right _ (by omega)
end
end Go.Eng

namespace Go.Eng
open Go
section
variable {P : Program} {ρ : Ren} {H : AHeap} {w : World}
theorem write_slice (hs : Sim ρ H w) {n : Nat} {L : Loc} {l c : List AV} {cs : List Value} {off : Nat} {a0 : Addr} (hn : ρ n = some L) (hl : H[n]? = some (.cells true l)) (hc : off + c.length ≤ l.length) (hr : LR ρ c cs) (ho : ∀ v ∈ cs, v.oneCell' = true)
    (ha : a0 = ⟨L.b, L.o + off, none⟩ ∨ c.length = 0) :
    ∃ w', (storeCells a0 cs).run P w = .ok () w' ∧ Sim ρ (H.set n (.cells true (splice l off c))) w' ∧ Step ρ H w ρ (H.set n (.cells true (splice l off c))) w' := by
  rcases ha with ha | ha
  · subst ha; exact write_row hs hn hl hc hr ho
  · obtain ⟨w', h1, h2, h3⟩ := write_row (P := P) hs hn hl hc hr ho
    have hz : cs = [] := List.eq_nil_of_length_eq_zero (by rw [← hr.1]; exact ha)
    subst hz
    simp [storeCells] at h1
    subst h1
    exact ⟨w, by simp [storeCells], h2, h3⟩
theorem slCells_take (hs : Sim ρ H w) {es k : Nat} {Y : AV} {new : List AV} {cy : Value} (hy : VR ρ Y cy) (h : slCells es H Y = some (k, new)) (m : Nat) (hm : m ≤ k) :
    ∃ (a : Option Addr) (cap : Nat) (vs : List Value), cy = .slice a k cap ∧ LR ρ (new.take (m * es)) vs ∧ vs.length = m * es ∧ (∀ v ∈ vs, v.oneCell' = true) ∧ (Builtin.firstCells es m cy).run P w = .ok vs.toArray w := by
  obtain ⟨a, cap, vs, rfl, hnone, hr, hvl, ho, hc⟩ := slCells_ok hs hy h
  have hmul : m * es ≤ k * es := Nat.mul_le_mul_right _ hm
  refine ⟨a, cap, vs.take (m * es), rfl, hr.take _, by rw [List.length_take]; omega, fun v hv => ho v (List.mem_of_mem_take hv), ?_⟩
  cases a with
  | none =>
    have := (hnone rfl).1
    subst this
    have : m = 0 := by omega
    subst this
    simp [Builtin.firstCells]
  | some a =>
    refine run_firstCells_some (P := P) w es m a k cap _ (by rw [List.length_take]; omega) (fun j v hv => ?_)
    rw [List.getElem?_take] at hv
    split at hv
    · exact hc a rfl j v hv
    · cases hv
theorem ok_cpy (hs : Sim ρ H w) {t e ty : TypeId} {z : List AV} {X Y V : AV} {H' : AHeap} {cx cy : Value} (ht : selem P t = some e) (hz : ezero P e = some z) (hx : VR ρ X cx) (hy : VR ρ Y cy) (S : List AV) (ox oy : Opd) (hX : rd S ox = X) (hY : rd S oy = Y)
    (h : hval (.cpy z.length ox oy) S H = some (V, H')) :
    ∃ v w', (Builtin.copy_ #[t, t] ty #[cx, cy]).run P w = .ok v w' ∧ VR ρ V v ∧ Sim ρ H' w' ∧ Step ρ H w ρ H' w' := by
  obtain ⟨i, zv, hi, hzv, hsz, hpos, hby, hvs, hcells⟩ := ezero_some hz
  have hu := selem_some ht
  simp only [hval, hX, hY] at h
  split at h
  · rename_i k hk
    cases h
    cases hx
    obtain ⟨a, cap, vs, rfl, hr, hvl, ho, hf⟩ := slCells_take (P := P) hs hy hk 0 (Nat.zero_le _)
    have : vs = [] := List.eq_nil_of_length_eq_zero (by simpa using hvl)
    subst this
    refine ⟨.int .i64 0, w, ?_, .int _ _, hs, Step.refl _ _ _ hs⟩
    simp [Builtin.copy_, run_underlying hu, Builtin.lenOf, sizeOf, typeInfo, hi, hsz, hf, goInt]
  · rename_i es' n off len full k new hk
    split at h
    case isFalse => cases h
    rename_i he
    subst he
    split at h
    case h_2 => cases h
    rename_i l hl
    split at h
    case isFalse => cases h
    rename_i hle
    cases h
    cases hx with
    | sl _ _ _ _ _ L a0 cap0 h1 h2 h3 h4 h5 =>
      obtain ⟨a, cap, vs, rfl, hr, hvl, ho, hf⟩ := slCells_take (P := P) hs hy hk (min k len) (Nat.min_le_left _ _)
      have hmul : min k len * z.length ≤ len * z.length := Nat.mul_le_mul_right _ (Nat.min_le_right _ _)
      have hcl := hr.1
      obtain ⟨w', hrun, hs', st⟩ := write_slice (P := P) hs h1 hl (off := off) (a0 := a0) (by omega) hr ho (by
        rcases h4 with h4 | h4
        · exact .inl h4
        · right
          have : len = 0 := by omega
          subst this
          simp)
      refine ⟨_, w', ?_, .int _ _, hs', st⟩
      have hmin : Nat.min k len = min k len := rfl
      simp [Builtin.copy_, run_underlying hu, Builtin.lenOf, sizeOf, typeInfo, hi, hsz, hmin, hf, hrun, goInt]
  · cases h
theorem ok_clr (hs : Sim ρ H w) {t e ty : TypeId} {z : List AV} {X V : AV} {H' : AHeap} {cx : Value} (ht : selem P t = some e) (hz : ezero P e = some z) (hx : VR ρ X cx) (S : List AV) (ox : Opd) (hX : rd S ox = X)
    (h : hval (.clr z.length z ox) S H = some (V, H')) :
    ∃ v w', (Builtin.clear_ #[t] ty #[cx]).run P w = .ok v w' ∧ VR ρ V v ∧ Sim ρ H' w' ∧ Step ρ H w ρ H' w' := by
  obtain ⟨i, zv, hi, hzv, hsz, hpos, hby, hvs, hcells⟩ := ezero_some hz
  have hu := selem_some ht
  simp only [hval, hX] at h
  split at h
  · cases h
    cases hx
    exact ⟨undef, w, by simp [Builtin.clear_, run_underlying hu, undef], undef_ok, hs, Step.refl _ _ _ hs⟩
  · rename_i es' n off len full
    split at h
    · rename_i h0
      cases h
      subst h0
      cases hx with
      | sl _ _ _ _ _ L a0 cap0 h1 h2 h3 h4 h5 =>
        exact ⟨undef, w, by simp [Builtin.clear_, run_underlying hu, undef], undef_ok, hs, Step.refl _ _ _ hs⟩
    · rename_i h0
      split at h
      case isFalse => cases h
      rename_i he
      subst he
      split at h
      case h_2 => cases h
      rename_i l hl
      split at h
      case isFalse => cases h
      rename_i hle
      cases h
      cases hx with
      | sl _ _ _ _ _ L a0 cap0 h1 h2 h3 h4 h5 =>
        obtain ⟨hlr, hone⟩ := repl_made hpos hvs (hcells ρ) len
        have hzc : Builtin.zeroCells zv.cells len = madeCells zv.cells (len * z.length) := by simp [Builtin.zeroCells, madeCells, hvs]
        rw [← hzc] at hlr hone
        obtain ⟨w', hrun, hs', st⟩ := write_slice (P := P) hs h1 hl (off := off) (a0 := a0) (by rw [repl_length]; exact hle) hlr hone (.inl (h4.resolve_right (by omega)))
        refine ⟨_, w', ?_, undef_ok, hs', st⟩
        simp only [Builtin.clear_]
        simp only [List.getElem?_toArray, List.getElem?_cons_zero, Sem.run_bind, run_underlying hu, Result.andThen_ok]
        cases len with
        | zero => exact absurd rfl h0
        | succ len =>
          simp [zeroValue, typeInfo, hi, hzv, hrun, undef]
  · cases h
theorem bnd_some {x : Option AV} {y d : Nat} {r : Nat} (h : bnd x y d = some r) : (x = none ∧ r = d) ∨ ∃ k i, x = some (.int k i) ∧ 0 ≤ i ∧ i ≤ y ∧ r = i.toNat := by
  unfold bnd at h
  split at h
  · cases h; exact .inl ⟨rfl, rfl⟩
  · rename_i k i
    split at h
    · rename_i hc; cases h; exact .inr ⟨k, i, rfl, hc.1, hc.2, rfl⟩
    · cases h
  · cases h
theorem run_bound (k : IntKind) (i : Int) (y : Nat) (code : BoundsCode) (h0 : 0 ≤ i) (h1 : i ≤ y) : (Instr.sliceBound (.int k i) y code).run P w = .ok i.toNat w := run_sliceBound w k i y code h0 h1
theorem ok_slc {t e : TypeId} {z : List AV} {X V : AV} {lo hi mx : Option AV} {clo chi cmx : Option Value} {cx : Value} (ht : selem P t = some e) (hz : ezero P e = some z) (hx : VR ρ X cx)
    (hlo : (lo = none ∧ clo = none) ∨ ∃ a c, lo = some a ∧ clo = some c ∧ VR ρ a c) (hhi : (hi = none ∧ chi = none) ∨ ∃ a c, hi = some a ∧ chi = some c ∧ VR ρ a c) (hmx : (mx = none ∧ cmx = none) ∨ ∃ a c, mx = some a ∧ cmx = some c ∧ VR ρ a c)
    (h : slcA z.length X lo hi mx = some V) : ∃ v, (Instr.sliceAt t cx clo chi cmx).run P w = .ok v w ∧ VR ρ V v := by
  obtain ⟨i, zv, hi', hzv, hsz, hpos, hby, hvs, hcells⟩ := ezero_some hz
  have hu := selem_some ht
  -- what a slice of (a, len, cap) with bounds l, h, m is
  have fin : ∀ (a : Option Addr) (len cap l h m : Nat), (Instr.sliceBounds true len cap clo chi cmx).run P w = .ok (l, h, m) w →
      (Instr.sliceAt t (.slice a len cap) clo chi cmx).run P w = .ok (.slice (if m = l then a else a.map (·.add (l * z.length))) (h - l) (m - l)) w := by
    intro a len cap l h m hb
    simp [Instr.sliceAt, Instr.slice, run_underlying hu, hb, sizeOf, typeInfo, hi', hsz]
  unfold slcA at h
  split at h
  · -- nil
    split at h
    case h_2 => cases h
    rename_i rh rl eh el
    cases h
    cases hx
    refine ⟨.slice none 0 0, ?_, .nilS⟩
    have b0 : ∀ {x : Option AV} {c : Option Value} {r : Nat}, ((x = none ∧ c = none) ∨ ∃ a v, x = some a ∧ c = some v ∧ VR ρ a v) → bnd x 0 0 = some r → c = none ∨ ∃ k, c = some (.int k 0) := by
      intro x c r hc hb
      rcases bnd_some hb with ⟨rfl, _⟩ | ⟨k, j, rfl, h0, h1, _⟩
      · rcases hc with hc | ⟨a, v, h, _⟩
        · exact .inl hc.2
        · cases h
      · rcases hc with ⟨h, _⟩ | ⟨a, v, h, rfl, hv⟩
        · cases h
        · cases h
          cases hv
          have : j = 0 := by omega
          subst this
          exact .inr ⟨k, rfl⟩
    have hcm : cmx = none := by
      rcases hmx with ⟨_, h⟩ | ⟨a, c, h, _⟩
      · exact h
      · cases h
    subst hcm
    have hb := fin none 0 0 0 0 0
    simp only [if_true, Nat.sub_self] at hb
    refine hb ?_
    rcases b0 hlo el with rfl | ⟨k1, rfl⟩ <;> rcases b0 hhi eh with rfl | ⟨k2, rfl⟩ <;> simp [Instr.sliceBounds, run_sliceBound]
  · -- a slice
    rename_i es' n off len full
    split at h
    case isTrue => cases h
    rename_i he
    have he' : es' = z.length := by simpa using he
    subst he'
    cases hx with
    | sl _ _ _ _ _ L a0 cap h1 h2 h3 h4 h5 =>
      -- the value that comes out
      have out : ∀ (l hh m : Nat) (fl : Bool), l ≤ hh → hh ≤ m → m ≤ cap → (fl = true → m = hh) → hh ≤ cap →
          VR ρ (.sl z.length n (off + l * z.length) (hh - l) fl) (.slice (if m = l then (some a0 : Option Addr) else (some a0).map (·.add (l * z.length))) (hh - l) (m - l)) := by
        intro l hh m fl hlh hhm hmc hfl _
        split
        · rename_i hml
          subst hml
          refine .sl _ _ _ _ _ L a0 _ h1 (by omega) (fun h => by have := hfl h; omega) (.inr (by omega)) (fun ho => .inl (by omega))
        · rename_i hml
          rcases h4 with rfl | h4
          case inr => omega
          simp only [Option.map_some, add_none]
          refine .sl _ _ _ _ _ L _ _ h1 (by omega) (fun h => by have := hfl h; omega) (.inl (by rw [Nat.add_assoc])) (fun ho => .inr ?_)
          · have := (h5 ho).resolve_left (by omega)
            have h6 : (l + (m - l)) * z.length ≤ cap * z.length := Nat.mul_le_mul_right _ (by omega)
            rw [Nat.add_mul] at h6
            omega
      have bv : ∀ {x : Option AV} {c : Option Value} {y d r : Nat} {code : BoundsCode}, ((x = none ∧ c = none) ∨ ∃ a v, x = some a ∧ c = some v ∧ VR ρ a v) → bnd x y d = some r →
          (c = none ∧ r = d) ∨ ∃ k i, c = some (.int k i) ∧ 0 ≤ i ∧ i ≤ y ∧ r = i.toNat := by
        intro x c y d r _ hc hb
        rcases bnd_some hb with ⟨rfl, hr⟩ | ⟨k, j, rfl, h0, h1, hr⟩
        · rcases hc with hc | ⟨a, v, h, _⟩
          · exact .inl ⟨hc.2, hr⟩
          · cases h
        · rcases hc with ⟨h, _⟩ | ⟨a, v, h, rfl, hv⟩
          · cases h
          · cases h
            cases hv
            exact .inr ⟨k, j, rfl, h0, h1, hr⟩
      split at h
      · -- no maximum
        have hcm : cmx = none := by
          rcases hmx with ⟨_, h⟩ | ⟨a, c, h, _⟩
          · exact h
          · cases h
        subst hcm
        split at h
        · -- to the end
          have hch : chi = none := by
            rcases hhi with ⟨_, h⟩ | ⟨a, c, h, _⟩
            · exact h
            · cases h
          subst hch
          simp only [Option.map_eq_some_iff] at h
          obtain ⟨l, hl, rfl⟩ := h
          have hlr : l ≤ len := by
            rcases bv (code := .index) hlo hl with ⟨_, rfl⟩ | ⟨k, j, _, h0, h1, rfl⟩ <;> omega
          refine ⟨_, fin _ len cap l len cap ?_, out l len cap full hlr h2 (Nat.le_refl _) h3 h2⟩
          rcases bv (code := .index) hlo hl with ⟨rfl, rfl⟩ | ⟨k, j, rfl, h0, h1, rfl⟩
          · simp [Instr.sliceBounds]
          · simp [Instr.sliceBounds, run_bound k j len _ h0 h1]
        · rename_i hv
          simp only [Option.bind_eq_some_iff, Option.map_eq_some_iff] at h
          obtain ⟨hh, hhe, l, hl, rfl⟩ := h
          rcases bv (code := .index) hhi hhe with ⟨hcn, _⟩ | ⟨k2, j2, rfl, g0, g1, rfl⟩
          · rcases hhi with ⟨h, _⟩ | ⟨a, c, _, hc, _⟩
            · cases h
            · rw [hcn] at hc; cases hc
          · have hlr : l ≤ j2.toNat := by
              rcases bv (code := .index) hlo hl with ⟨_, rfl⟩ | ⟨k, j, _, h0, h1, rfl⟩ <;> omega
            refine ⟨_, fin _ len cap l j2.toNat cap ?_, out l j2.toNat cap _ hlr (by omega) (Nat.le_refl _) (fun hf => ?_) (by omega)⟩
            · rcases bv (code := .index) hlo hl with ⟨rfl, rfl⟩ | ⟨k, j, rfl, h0, h1, rfl⟩
              · simp [Instr.sliceBounds, run_bound k2 j2 cap _ g0 (by omega)]
              · simp [Instr.sliceBounds, run_bound k2 j2 cap _ g0 (by omega), run_bound k j j2.toNat _ h0 h1]
            · simp at hf
              have := h3 hf.1
              omega
      · rename_i mv
        simp only [Option.bind_eq_some_iff] at h
        obtain ⟨m, hm, h⟩ := h
        split at h
        · cases h
        rename_i hv
        simp only [Option.bind_eq_some_iff, Option.map_eq_some_iff] at h
        obtain ⟨hh, hhe, l, hl, rfl⟩ := h
        rcases bv (code := .index) hmx hm with ⟨rfl, _⟩ | ⟨k3, j3, rfl, m0, m1, rfl⟩
        · rcases hmx with ⟨h, _⟩ | ⟨a, c, _, h, _⟩ <;> cases h
        rcases bv (code := .index) hhi hhe with ⟨rfl, _⟩ | ⟨k2, j2, rfl, g0, g1, rfl⟩
        · rcases hhi with ⟨h, _⟩ | ⟨a, c, _, h, _⟩ <;> cases h
        have hlr : l ≤ j2.toNat := by
          rcases bv (code := .index) hlo hl with ⟨_, rfl⟩ | ⟨k, j, _, h0, h1, rfl⟩ <;> omega
        refine ⟨_, fin _ len cap l j2.toNat j3.toNat ?_, out l j2.toNat j3.toNat _ hlr (by omega) (by omega) (fun hf => ?_) (by omega)⟩
        · rcases bv (code := .index) hlo hl with ⟨rfl, rfl⟩ | ⟨k, j, rfl, h0, h1, rfl⟩
          · simp [Instr.sliceBounds, run_bound k3 j3 cap _ m0 (by omega), run_bound k2 j2 j3.toNat _ g0 (by omega)]
          · simp [Instr.sliceBounds, run_bound k3 j3 cap _ m0 (by omega), run_bound k2 j2 j3.toNat _ g0 (by omega), run_bound k j j2.toNat _ h0 (by omega)]
        · have : j2.toNat = j3.toNat := by simpa using hf
          omega
  · cases h
end
end Go.Eng

namespace Go.Eng
open Go
section
variable {P : Program} {ρ : Ren} {H : AHeap} {w : World}
def intKeys (l : List (AV × AV)) : Bool := l.all (fun p => match p.1 with | .int .i64 _ => true | _ => false)
theorem findNow_ok (k : Int) (k0 : IntKind) : ∀ (l : List (AV × AV)) (es : List MapEntry) (i : Nat), LR ρ (l.map (·.1)) (es.map (·.key)) → LR ρ (l.map (·.2)) (es.map (·.val)) → intKeys l = true →
    (∀ v, findK k l = some v → ∃ j cv, Instr.findNow (.int k0) (.int .i64 k) es i = some (some (i + j, cv)) ∧ VR ρ v cv) ∧ (findK k l = none → Instr.findNow (.int k0) (.int .i64 k) es i = some none)
  | [], [], i, _, _, _ => by simp [findK, Instr.findNow]
  | [], _ :: _, _, h, _, _ => by have := h.1; simp at this
  | _ :: _, [], _, h, _, _ => by have := h.1; simp at this
  | (x, v) :: l, e :: es, i, h1, h2, hk => by
    simp only [intKeys, List.all_cons, Bool.and_eq_true] at hk
    obtain ⟨hx, hk⟩ := hk
    split at hx
    case h_2 => cases hx
    rename_i j
    have hkey := h1.head
    have hval := h2.head
    obtain ⟨ih1, ih2⟩ := findNow_ok k k0 l es (i + 1) h1.tail h2.tail hk
    simp only at hkey hval
    generalize hek : e.key = ek at hkey
    cases hkey
    by_cases hkj : k = j
    · subst hkj
      refine ⟨fun u hu => ?_, fun hu => ?_⟩
      · simp [findK] at hu
        subst hu
        exact ⟨0, e.val, by simp [Instr.findNow, hek, Instr.sameNow], hval⟩
      · simp [findK] at hu
    · have hb : (k == j) = false := by simpa using hkj
      refine ⟨fun u hu => ?_, fun hu => ?_⟩
      · simp [findK, hkj] at hu
        obtain ⟨m, cv, hm, hv⟩ := ih1 u hu
        exact ⟨m + 1, cv, by simp [Instr.findNow, hek, Instr.sameNow, hb, hm]; omega, hv⟩
      · simp [findK, hkj] at hu
        simp [Instr.findNow, hek, Instr.sameNow, hb, ih2 hu]
theorem run_checkKey (e : Bool) (kt : TypeId) (k0 : IntKind) (v : Value) (h : P.underlying kt = some (.int k0)) (n : Nat) : (Instr.checkKey e (n + 1) kt v).run P w = .ok () w := by
  simp [Instr.checkKey, run_underlying h]
theorem Sim.mapOf (hs : Sim ρ H w) {n : Nat} {L : Loc} {l : List (AV × AV)} (hn : ρ n = some L) (hl : H[n]? = some (.mp l)) :
    ∃ es clock, w.heap[L.b]? = some (.map es clock) ∧ L.own = true ∧ LR ρ (l.map (·.1)) (es.toList.map (·.key)) ∧ LR ρ (l.map (·.2)) (es.toList.map (·.val)) := by
  have h := hs.obj n L _ hn hl
  cases hb : w.heap[L.b]? with
  | none => rw [hb] at h; exact h.elim
  | some b =>
    rw [hb] at h
    cases b with
    | map es clock => exact ⟨es, clock, rfl, h⟩
    | _ => exact h.elim
theorem tzero_some {e : TypeId} {z : AV} (h : tzero P e = some z) : ∃ i v, P.info? e = some i ∧ i.zero = some v ∧ ∀ ρ, VR ρ z v := by
  unfold tzero at h
  cases hi : P.info? e with
  | none => simp [hi] at h
  | some i =>
    simp only [hi, Option.bind_some] at h
    cases hz : i.zero with
    | none => simp [hz] at h
    | some v =>
      simp only [hz, Option.bind_some] at h
      exact ⟨i, v, rfl, hz, fun ρ => trV_ok h⟩
theorem ok_look (hs : Sim ρ H w) {t kt e : TypeId} {z V : AV} {ok : Bool} {X K : AV} {cx ck : Value} (hu : P.underlying t = some (.map kt e)) (hk : P.underlying kt = some (.int .i64)) (hz : tzero P e = some z)
    (hx : VR ρ X cx) (hkv : VR ρ K ck) (S : List AV) (ox ok' : Opd) (hX : rd S ox = X) (hK : rd S ok' = K) (h : lval (.look z ok ox ok') S H = some V) :
    ∃ v, (Instr.lookup t cx ck ok).run P w = .ok v w ∧ VR ρ V v := by
  obtain ⟨i, zv, hi, hzv, hzr⟩ := tzero_some hz
  have tup : ∀ {a : AV} {v : Value} (b : Bool), VR ρ a v → VR ρ (.tuple [a, .bool b]) (.tuple #[v, .bool b]) := fun b h => VR.tuple_iff.2 (LR.cons h (LR.cons (.bool b) LR.nil))
  simp only [lval, hX, hK] at h
  split at h
  · rename_i n k
    split at h
    case h_2 => cases h
    rename_i l hl
    split at h
    case isFalse => cases h
    rename_i hkeys
    cases hkv
    cases hx with
    | mp _ L hn ho =>
      obtain ⟨es, clock, hb, _, h1, h2⟩ := hs.mapOf hn hl
      obtain ⟨f1, f2⟩ := findNow_ok k .i64 l es.toList 0 h1 h2 hkeys
      have hget : (getObj L.b).run P w = .ok (.map es clock) w := by simp [getObj, Sem.run, hb]
      cases hf : findK k l with
      | some v =>
        obtain ⟨j, cv, hj, hv⟩ := f1 v hf
        simp only [hf] at h
        cases h
        refine ⟨if ok then .tuple #[cv, .bool true] else cv, ?_, ?_⟩
        · simp [Instr.lookup, run_underlying hu, hget, run_checkKey (P := P) (w := w) _ kt .i64 _ hk 9999, Instr.findKey, run_underlying hk, hj]
        · cases ok
          · exact hv
          · exact tup true hv
      | none =>
        have hj := f2 hf
        simp only [hf] at h
        cases h
        refine ⟨if ok then .tuple #[zv, .bool false] else zv, ?_, ?_⟩
        · simp [Instr.lookup, run_underlying hu, hget, run_checkKey (P := P) (w := w) _ kt .i64 _ hk 9999, Instr.findKey, run_underlying hk, hj, zeroValue, typeInfo, hi, hzv]
        · cases ok
          · exact hzr ρ
          · exact tup false (hzr ρ)
  · cases h
    cases hx; cases hkv
    refine ⟨if ok then .tuple #[zv, .bool false] else zv, ?_, ?_⟩
    · simp [Instr.lookup, run_underlying hu, run_checkKey (P := P) (w := w) _ kt .i64 _ hk 9999, Instr.findKey, run_underlying hk, Instr.findNow, zeroValue, typeInfo, hi, hzv]
    · cases ok
      · exact hzr ρ
      · exact tup false (hzr ρ)
  · cases h
/-- A key's entry is written, or comes last. -/
theorem setK_ok (k : Int) (v : AV) (cv : Value) (hv : VR ρ v cv) (clock : Nat) : ∀ (l l' : List (AV × AV)) (es : List MapEntry) (i : Nat), LR ρ (l.map (·.1)) (es.map (·.key)) → LR ρ (l.map (·.2)) (es.map (·.val)) → setK k v l = some l' →
    (∃ (j : Nat) (u : Value) (hj : j < es.length), Instr.findNow (.int .i64) (.int .i64 k) es i = some (some (i + j, u)) ∧ es[j].key = .int .i64 k ∧
      LR ρ (l'.map (·.1)) ((es.modify j fun (e : MapEntry) => { e with key := .int .i64 k, val := cv }).map (·.key)) ∧ LR ρ (l'.map (·.2)) ((es.modify j fun (e : MapEntry) => { e with key := .int .i64 k, val := cv }).map (·.val))) ∨
    (Instr.findNow (.int .i64) (.int .i64 k) es i = some none ∧ LR ρ (l'.map (·.1)) ((es ++ [({ key := .int .i64 k, val := cv, born := clock } : MapEntry)]).map (·.key)) ∧ LR ρ (l'.map (·.2)) ((es ++ [({ key := .int .i64 k, val := cv, born := clock } : MapEntry)]).map (·.val)))
  | [], l', [], i, _, _, h => by
    simp [setK] at h
    subst h
    exact .inr ⟨by simp [Instr.findNow], LR.cons (.int _ _) LR.nil, LR.cons hv LR.nil⟩
  | [], _, _ :: _, _, h, _, _ => by have := h.1; simp at this
  | _ :: _, _, [], _, h, _, _ => by have := h.1; simp at this
  | (x, u) :: l, l', e :: es, i, h1, h2, h => by
    unfold setK at h
    split at h
    · simp at *
    · rename_i j u' r heq
      simp at heq
      obtain ⟨⟨rfl, rfl⟩, rfl⟩ := heq
      have hkey := h1.head
      have hval := h2.head
      simp only at hkey hval
      generalize hek : e.key = ek at hkey
      cases hkey
      split at h
      · rename_i hkj
        subst hkj
        cases h
        refine .inl ⟨0, e.val, by simp, by simp [Instr.findNow, hek, Instr.sameNow], by simpa using hek, ?_, ?_⟩
        · simpa using LR.cons (.int _ _) h1.tail
        · simpa using LR.cons hv h2.tail
      · rename_i hkj
        have hb : (k == j) = false := by simpa using hkj
        simp only [Option.map_eq_some_iff] at h
        obtain ⟨r', hr', rfl⟩ := h
        rcases setK_ok k v cv hv clock l r' es (i + 1) h1.tail h2.tail hr' with ⟨m, u2, hm, hf, hk2, g1, g2⟩ | ⟨hf, g1, g2⟩
        · refine .inl ⟨m + 1, u2, by simp; omega, by simp [Instr.findNow, hek, Instr.sameNow, hb, hf]; omega, by simpa using hk2, ?_, ?_⟩
          · simpa [hek] using LR.cons (VR.int _ _) g1
          · simpa using LR.cons hval g2
        · refine .inr ⟨by simp [Instr.findNow, hek, Instr.sameNow, hb, hf], ?_, ?_⟩
          · simpa [hek] using LR.cons (VR.int _ _) g1
          · simpa using LR.cons hval g2
    · cases h
theorem ok_mset (hs : Sim ρ H w) {t kt e : TypeId} {n : Nat} {k : Int} {V : AV} {l l' : List (AV × AV)} {cx ck cv : Value} (hu : P.underlying t = some (.map kt e)) (hk : P.underlying kt = some (.int .i64))
    (hx : VR ρ (.mp n) cx) (hkv : VR ρ (.int .i64 k) ck) (hv : VR ρ V cv) (hl : H[n]? = some (.mp l)) (h : setK k V l = some l') :
    ∃ w', (Instr.mapUpdate t cx ck cv).run P w = .ok () w' ∧ Sim ρ (H.set n (.mp l')) w' ∧ Step ρ H w ρ (H.set n (.mp l')) w' := by
  cases hkv
  cases hx with
  | mp _ L hn ho =>
    obtain ⟨es, clock, hb, hown, h1, h2⟩ := hs.mapOf hn hl
    have hget : (getObj L.b).run P w = .ok (.map es clock) w := by simp [getObj, Sem.run, hb]
    have hlt : L.b < w.heap.size := (hs.dom n L hn).2
    have hset : ∀ o, (setObj L.b o).run P w = .ok () { w with heap := w.heap.setIfInBounds L.b o } := by
      intro o; simp [setObj, Sem.run, hb]
    have fin : ∀ es' clock', LR ρ (l'.map (·.1)) (es'.toList.map (·.key)) → LR ρ (l'.map (·.2)) (es'.toList.map (·.val)) →
        Sim ρ (H.set n (.mp l')) { w with heap := w.heap.setIfInBounds L.b (.map es' clock') } ∧ Step ρ H w ρ (H.set n (.mp l')) { w with heap := w.heap.setIfInBounds L.b (.map es' clock') } := by
      intro es' clock' g1 g2
      refine hs.write hn hown hl (by simp) (by simp) (by simp) rfl rfl rfl (fun b hb' => ?_) ?_
      · simp [Ne.symm hb']
      · simp only [Array.getElem?_setIfInBounds, hlt, if_true]
        exact ⟨hown, g1, g2⟩
    rcases setK_ok k V cv hv clock l l' es.toList 0 h1 h2 h with ⟨j, u, hj, hf, hk2, g1, g2⟩ | ⟨hf, g1, g2⟩
    · have hj' : j < es.size := by simpa using hj
      have hkey : ((es[j]?).map (·.key)).getD (.int .i64 k) = .int .i64 k := by
        rw [Array.getElem?_eq_getElem hj']
        simpa using hk2
      obtain ⟨q1, q2⟩ := fin (es.modify j fun (e : MapEntry) => { e with key := .int .i64 k, val := cv }) clock (by simpa using g1) (by simpa using g2)
      refine ⟨_, ?_, q1, q2⟩
      simp only [Nat.zero_add] at hf
      simp [Instr.mapUpdate, run_underlying hu, hget, run_checkKey (P := P) (w := w) _ kt .i64 _ hk 9999, Instr.findKey, run_underlying hk, hf, hkey, Instr.keyThatStays, Instr.sameBits, hset]
    · obtain ⟨q1, q2⟩ := fin (es.push { key := .int .i64 k, val := cv, born := clock }) (clock + 1) (by simpa using g1) (by simpa using g2)
      refine ⟨_, ?_, q1, q2⟩
      simp [Instr.mapUpdate, run_underlying hu, hget, run_checkKey (P := P) (w := w) _ kt .i64 _ hk 9999, Instr.findKey, run_underlying hk, hf, hset]
theorem ok_mkm (hs : Sim ρ H w) (t : TypeId) : ∃ v w' ρ', (Instr.makeMap t none).run P w = .ok v w' ∧ VR ρ' (.mp H.length) v ∧ Sim ρ' (H ++ [.mp []]) w' ∧ Step ρ H w ρ' (H ++ [.mp []]) w' := by
  obtain ⟨h1, h2⟩ := hs.alloc (.mp []) (.map #[] 0) 0 ⟨rfl, by simpa using LR.nil, by simpa using LR.nil⟩
  exact ⟨_, _, _, by simp [Instr.makeMap], .mp _ _ put_self rfl, h1, h2⟩
theorem ok_newv (hs : Sim ρ H w) (T : TypeId) {x : AV} {cx : Value} {c : List AV} (hx : VR ρ x cx) (hc : x.cells? = some c) :
    ∃ ρ', VR ρ' (.ptr H.length 0) (.pointer (some ⟨w.heap.size, 0, none⟩)) ∧ Sim ρ' (H ++ [.cells true c]) (w.alloc (.cells cx.cells T)) ∧ Step ρ H w ρ' (H ++ [.cells true c]) (w.alloc (.cells cx.cells T)) := by
  obtain ⟨hr, ho⟩ := hx.cells hc
  obtain ⟨h1, h2⟩ := new_all hs T hr ho
  exact ⟨_, .ptr _ _ _ put_self, h1, h2⟩
end
end Go.Eng

namespace Go.Eng
open Go
section
variable {P : Program} {ρ0 : Ren} {H0 : AHeap} {w0 : World} {bx : List Nat} {β : Nat → Option Nat} {ρ : Ren} {S : List AV} {H : AHeap} {a : Act} {w : World}
theorem rd_out {S : List AV} {d : Nat} (h : ¬ d < S.length) : rd S (.s d) = .junk := by
  show (S[d]?).getD .junk = .junk
  rw [List.getElem?_eq_none (by omega)]; rfl
/-- A box is made. -/
theorem Fr.bnew (F : Fr ρ0 H0 w0 bx β ρ S H a w) {d : Nat} (hd : bx.contains d = true) {x : AV} {cx : Value} {l : List AV} (hx : VR ρ x cx) (hl : x.cells? = some l) (T : TypeId) :
    Fr ρ0 H0 w0 bx (fun d' => if d' = d then some w.heap.size else β d') ρ (S.set d x) H (a.put (some d) (.pointer (some ⟨w.heap.size, 0, none⟩))) (w.alloc (.cells cx.cells T)) := by
  have hs := F.sim.allocBox (.cells cx.cells T)
  have st := Step.allocBox F.sim (.cells cx.cells T)
  obtain ⟨hr, ho⟩ := hx.cells hl
  refine ⟨hs, F.step.trans st, F.dfr, by simp [Act.put, F.len], ?_, ?_, ?_⟩
  · intro i hi
    have hne : d ≠ i := by rintro rfl; rw [hd] at hi; cases hi
    rw [rd_set, getD_put, if_neg (by simp [hne]), if_neg (by simp [hne])]
    exact F.slots i hi
  · intro d' hd'
    by_cases he : d = d'
    · subst he
      by_cases hlt : d < S.length
      · right
        have e1 : rd (S.set d x) (.s d) = x := by rw [rd_set, if_pos ⟨rfl, hlt⟩]
        have e2 : (a.put (some d) (.pointer (some ⟨w.heap.size, 0, none⟩))).tmps.getD d undef = .pointer (some ⟨w.heap.size, 0, none⟩) := by rw [getD_put, if_pos ⟨rfl, by rw [← F.len]; exact hlt⟩]
        rw [e1]
        exact ⟨w.heap.size, cx.cells, T, l, by simp, e2, heap_alloc_at _ _, hl, hr, ho⟩
      · left; exact rd_out (by rw [List.length_set]; exact hlt)
    · have e1 : rd (S.set d x) (.s d') = rd S (.s d') := by rw [rd_set, if_neg (by simp [he])]
      have e2 : (a.put (some d) (.pointer (some ⟨w.heap.size, 0, none⟩))).tmps.getD d' undef = a.tmps.getD d' undef := by rw [getD_put, if_neg (by simp [he])]
      rw [e1, e2]
      rcases F.boxes d' hd' with h | ⟨b, cs, T', l', h1, h2, h3, h4, h5, h6⟩
      · exact .inl h
      · have hb := (F.priv d' b h1).2.1
        exact .inr ⟨b, cs, T', l', by rw [if_neg (Ne.symm he)]; exact h1, h2, by rw [heap_alloc_lt _ _ hb]; exact h3, h4, h5, h6⟩
  · intro d' b hb
    have hb' : (if d' = d then some w.heap.size else β d') = some b := hb
    split at hb'
    · rename_i he
      subst he
      cases hb'
      refine ⟨F.step.size, by simp, fun n L e h => ?_, fun d'' h => ?_⟩
      · have := (F.sim.dom n L e).2; omega
      · have h' : (if d'' = d' then some w.heap.size else β d'') = some w.heap.size := h
        split at h'
        · assumption
        · have := (F.priv d'' _ h').2.1; omega
    · obtain ⟨h1, h2, h3, h4⟩ := F.priv d' b hb'
      refine ⟨h1, by simp; omega, h3, fun d'' h => ?_⟩
      have h' : (if d'' = d then some w.heap.size else β d'') = some b := h
      split at h'
      · cases h'; omega
      · exact h4 d'' h'
/-- A box's content is written. -/
theorem Fr.bset (F : Fr ρ0 H0 w0 bx β ρ S H a w) {d b : Nat} (hd : bx.contains d = true) (hb : β d = some b) {cs cs' : Array Value} {T : TypeId} (hcell : w.heap[b]? = some (.cells cs T (0, 0)))
    {x : AV} {l : List AV} (hl : x.cells? = some l) (hr : LR ρ l cs'.toList) (ho : ∀ v ∈ cs'.toList, v.oneCell' = true) (hp : d < S.length → a.tmps.getD d undef = .pointer (some ⟨b, 0, none⟩)) :
    Fr ρ0 H0 w0 bx β ρ (S.set d x) H a (w.setRow b cs') := by
  obtain ⟨p1, p2, p3, p4⟩ := F.priv d b hb
  have hsz : (w.setRow b cs').heap.size = w.heap.size := by simp [World.setRow]
  have hnown : ¬ Own ρ0 H0 b ∨ w0.heap.size ≤ b := .inr p1
  have hs : Sim ρ H (w.setRow b cs') := F.sim.world (by omega) (fun n L e => setRow_other w b L.b cs' (p3 n L e))
  have st : Step ρ0 H0 w0 ρ H (w.setRow b cs') := by
    have k := F.step
    refine ⟨k.old, k.len, k.os, k.tape, k.out, by have := k.size; omega, fun b' hb' ho' => ?_, k.own, k.fresh⟩
    rw [setRow_other w b b' cs' (by omega)]
    exact k.keep b' hb' ho'
  refine ⟨hs, st, F.dfr, by simp [F.len], ?_, ?_, ?_⟩
  · intro i hi
    have hne : d ≠ i := by rintro rfl; rw [hd] at hi; cases hi
    rw [rd_set, if_neg (by simp [hne])]
    exact F.slots i hi
  · intro d' hd'
    by_cases he : d = d'
    · subst he
      by_cases hlt : d < S.length
      · right
        rw [rd_set, if_pos ⟨rfl, hlt⟩]
        exact ⟨b, cs', T, l, hb, hp hlt, setRow_heap w b cs cs' T (0, 0) hcell, hl, hr, ho⟩
      · left; exact rd_out (by simpa using hlt)
    · rw [rd_set, if_neg (by simp [he])]
      rcases F.boxes d' hd' with h | ⟨b', cs1, T', l', h1, h2, h3, h4, h5, h6⟩
      · exact .inl h
      · have hbb : b' ≠ b := by
          rintro rfl
          exact he ((p4 d' h1).symm)
        exact .inr ⟨b', cs1, T', l', h1, h2, by rw [setRow_other w b b' cs' hbb]; exact h3, h4, h5, h6⟩
  · intro d' b' hb'
    obtain ⟨h1, h2, h3, h4⟩ := F.priv d' b' hb'
    exact ⟨h1, by omega, h3, h4⟩
theorem box_load {b : Nat} {cs : Array Value} {T : TypeId} {X v : AV} {l : List AV} {t : TypeId} {off sz : Nat} {ag : Bool} (hb : w.heap[b]? = some (.cells cs T (0, 0))) (hl : X.cells? = some l) (hr : LR ρ l cs.toList)
    (ho : ∀ v ∈ cs.toList, v.oneCell' = true) (h1 : tsize P t = some sz) (h2 : tagg P t = some ag) (h : bgot X off sz ag = some v) :
    ∃ cv, (Instr.loadAt t (.pointer (some ⟨b, off, none⟩))).run P w = .ok cv w ∧ VR ρ v cv := by
  have one : l = [X] → off = 0 ∧ sz = 1 ∧ ag = false → v = X → ∃ cv, (Instr.loadAt t (.pointer (some ⟨b, off, none⟩))).run P w = .ok cv w ∧ VR ρ v cv := by
    rintro rfl ⟨rfl, rfl, rfl⟩ rfl
    obtain ⟨cv, hcv, hv⟩ := hr.get (i := 0) rfl
    have hcell : w.cell? ⟨b, 0, none⟩ = some cv := by rw [cell_of_row w b 0 cs T (0, 0) hb]; simpa using hcv
    exact ⟨cv, by simp [Instr.loadAt, Instr.sureAddr, loadVar, run_isAgg h2, hcell], hv⟩
  cases X with
  | agg m =>
    simp [AV.cells?] at hl
    subst hl
    simp only [bgot, partA] at h
    split at h
    case isFalse => cases h
    rename_i hle
    have hlen := hr.1
    simp at hlen
    cases ag with
    | true =>
      simp at h
      subst h
      refine ⟨.agg ((cs.toList.drop off).take sz).toArray, ?_, VR.agg_iff.2 ⟨by simpa using (hr.drop off).take sz, ?_⟩⟩
      · have := run_loadCells_list (P := P) w ⟨b, off, none⟩ ((cs.toList.drop off).take sz) (fun j v hv => by
          rw [add_none, cell_of_row w b _ cs T (0, 0) hb]
          rw [List.getElem?_take] at hv
          split at hv
          · rw [List.getElem?_drop] at hv; simpa using hv
          · cases hv)
        rw [show ((cs.toList.drop off).take sz).length = sz by rw [List.length_take, List.length_drop]; simp; omega] at this
        simp [Instr.loadAt, Instr.sureAddr, loadVar, run_isAgg h2, run_sizeOf h1, this]
      · intro v hv
        exact ho v (List.mem_of_mem_drop (List.mem_of_mem_take (by simpa using hv)))
    | false =>
      simp at h
      obtain ⟨hsz, h⟩ := h
      obtain ⟨cv, hcv, hv⟩ := hr.get h
      have hcell : w.cell? ⟨b, off, none⟩ = some cv := by rw [cell_of_row w b off cs T (0, 0) hb]; simpa using hcv
      exact ⟨cv, by simp [Instr.loadAt, Instr.sureAddr, loadVar, run_isAgg h2, hcell], hv⟩
  | junk => simp [bgot] at h
  | adr => simp [bgot] at h
  | tuple _ => simp [bgot] at h
  | _ =>
    simp only [AV.cells?, Option.some.injEq] at hl
    simp only [bgot] at h
    split at h
    · rename_i hc
      cases h
      exact one hl.symm hc rfl
    · cases h
theorem box_store {b : Nat} {cs : Array Value} {T : TypeId} {X Y V : AV} {l : List AV} {cy : Value} {t : TypeId} {off sz : Nat} (hb : w.heap[b]? = some (.cells cs T (0, 0))) (hl : X.cells? = some l) (hr : LR ρ l cs.toList)
    (ho : ∀ v ∈ cs.toList, v.oneCell' = true) (h1 : tsize P t = some sz) (hy : VR ρ Y cy) (h : bput X off sz Y = some V) :
    ∃ cs' l', (Instr.storeAt t (.pointer (some ⟨b, off, none⟩)) cy).run P w = .ok () (w.setRow b cs') ∧ V.cells? = some l' ∧ LR ρ l' cs'.toList ∧ ∀ v ∈ cs'.toList, v.oneCell' = true := by
  unfold bput at h
  split at h
  · cases h
  rename_i c hc
  split at h
  · cases h
  rename_i hsz
  have hsz : c.length = sz := by simpa using hsz
  obtain ⟨hcr, hco⟩ := hy.cells hc
  have hcy : cy.cells.size = sz := by rw [← hsz]; simpa using hcr.1.symm
  have run : ∀ m, off + sz ≤ m → m = cs.size → (Instr.storeAt t (.pointer (some ⟨b, off, none⟩)) cy).run P w = .ok () (w.setRow b (cs.toList.take off ++ cy.cells.toList ++ cs.toList.drop (off + cy.cells.toList.length)).toArray) := by
    rintro m hm rfl
    have hst := run_storeCells_at P b off T cy.cells.toList 0 cs w hb (by simp; omega) hco
    simp only [Nat.add_zero] at hst
    simp [Instr.storeAt, Instr.sureAddr, storeVar, run_sizeOf h1, hcy, hst]
  have hlen := hr.1
  cases X with
  | agg m =>
    simp [AV.cells?] at hl
    subst hl
    simp at h
    obtain ⟨hle, rfl⟩ := h
    have hlen' : m.length = cs.size := by simpa using hlen
    exact ⟨_, splice m off c, run m.length hle hlen', rfl, by simpa using hr.splice hcr off, by simpa using mem_splice ho hco⟩
  | junk => simp at h
  | adr => simp at h
  | tuple _ => simp at h
  | _ =>
    simp only [AV.cells?, Option.some.injEq] at hl
    subst hl
    simp only at h
    split at h
    case isFalse => cases h
    rename_i h0
    subst h0
    split at h
    case h_2 => cases h
    rename_i y
    split at h
    case isFalse => cases h
    rename_i hcell
    cases h
    simp at hsz
    subst hsz
    have hs1 : cs.size = 1 := by simpa using hlen.symm
    refine ⟨_, [V], run 1 (by omega) hs1.symm, ?_, ?_, ?_⟩
    · cases V <;> simp_all [AV.cells?, isCell]
    · have e : cs.toList.drop (0 + cy.cells.toList.length) = [] := List.drop_eq_nil_of_le (by simp; omega)
      rw [e]
      simpa using hcr
    · have e : cs.toList.drop (0 + cy.cells.toList.length) = [] := List.drop_eq_nil_of_le (by simp; omega)
      rw [e]
      simpa using hco
/-- The addresses of parts of boxes that are in use. -/
def EnvOk (bx : List Nat) (E : BoxEnv) (β : Nat → Option Nat) (S : List AV) (a : Act) (js : List Nat) : Prop :=
  ∀ e ∈ E, e.1 ∈ js → isAdr (rd S (.s e.2.1)) = true → bx.contains e.2.2.1 = true → ∃ blk, β e.2.2.1 = some blk ∧ a.tmps.getD e.2.1 undef = .pointer (some ⟨blk, e.2.2.2, none⟩)
theorem cells?_ne_junk {x : AV} {l : List AV} (h : x.cells? = some l) : x ≠ .junk := by rintro rfl; simp [AV.cells?] at h
theorem Fr.addr (F : Fr ρ0 H0 w0 bx β ρ S H a w) {E : BoxEnv} {x : Operand} {chk : Option Nat} {b off : Nat} {l : List AV} {js : List Nat} (hE : EnvOk bx E β S a js) (h : addrOf bx E x = some (chk, b, off))
    (hj : ∀ t e, x = .tmp t → bx.contains t = false → envFind bx E t = some e → e.1 ∈ js) (hc : chkd chk S = true) (hl : (rd S (.s b)).cells? = some l) :
    ∃ blk cs T, bx.contains b = true ∧ β b = some blk ∧ a.eval x = .pointer (some ⟨blk, off, none⟩) ∧ a.tmps.getD b undef = .pointer (some ⟨blk, 0, none⟩) ∧ w.heap[blk]? = some (.cells cs T (0, 0)) ∧ LR ρ l cs.toList ∧ ∀ v ∈ cs.toList, v.oneCell' = true := by
  cases x with
  | tmp t =>
    simp only [addrOf] at h
    split at h
    · rename_i ht
      cases h
      rcases F.boxes _ ht with hj | ⟨blk, cs, T, l', h1, h2, h3, h4, h5, h6⟩
      · exact absurd hj (cells?_ne_junk hl)
      · rw [hl] at h4; cases h4
        exact ⟨blk, cs, T, ht, h1, h2, h2, h3, h5, h6⟩
    · rename_i ht
      simp only [Option.map_eq_some_iff] at h
      obtain ⟨e, he, heq⟩ := h
      simp only [Prod.mk.injEq] at heq
      obtain ⟨rfl, rfl, rfl⟩ := heq
      have hmem : e ∈ E := List.mem_of_find?_eq_some he
      have hprop := List.find?_some he
      simp only [Bool.and_eq_true, beq_iff_eq] at hprop
      have hadr : isAdr (rd S (.s e.2.1)) = true := by rw [hprop.1]; exact hc
      obtain ⟨blk, g1, g2⟩ := hE e hmem (hj t e rfl (by simpa using ht) he) hadr hprop.2
      rcases F.boxes _ hprop.2 with hj | ⟨blk', cs, T, l', h1, h2, h3, h4, h5, h6⟩
      · exact absurd hj (cells?_ne_junk hl)
      · rw [hl] at h4; cases h4
        rw [g1] at h1; cases h1
        refine ⟨blk, cs, T, hprop.2, g1, ?_, h2, h3, h5, h6⟩
        show a.tmps.getD t undef = _
        rw [← hprop.1]; exact g2
  | const v => simp [addrOf] at h
  | func f => simp [addrOf] at h
  | global g => simp [addrOf] at h
end
end Go.Eng

namespace Go.Eng
open Go
section
variable {P : Program} {ρ0 : Ren} {H0 : AHeap} {w0 : World} {bx : List Nat} {β : Nat → Option Nat} {ρ : Ren} {S : List AV} {H : AHeap} {a : Act} {w : World}
/-- What must be known of what follows an operation. -/
def OpK (P : Program) (ρ0 : Ren) (H0 : AHeap) (w0 : World) (bx : List Nat) (E : BoxEnv) (β : Nat → Option Nat) (S : List AV) (a : Act) (o : Oper) (v : AV) (H' : AHeap) (K : Act → World → Prop) : Prop :=
  ∀ ρ' β' a' w', Fr ρ0 H0 w0 bx β' ρ' (putS S (trW bx E o) v) H' a' w' → (∀ t, o.dst ≠ some t → a'.tmps.getD t undef = a.tmps.getD t undef) → (∀ d, isBnew bx o ≠ some d → β' d = β d) →
    (∀ s x f q fd, o.op = .fieldAddr s x f → addrOf bx E x = some q → fieldOf P s f = some fd → ∃ blk, β' q.2.1 = some blk ∧ ∀ d, o.dst = some d → d < S.length → a'.tmps.getD d undef = .pointer (some ⟨blk, q.2.2 + fd.offset, none⟩)) → K a' w'
theorem put_other {a : Act} {dst : Option Nat} {cv : Value} (t : Nat) (h : dst ≠ some t) : (a.put dst cv).tmps.getD t undef = a.tmps.getD t undef := by
  cases dst with
  | none => rfl
  | some d => rw [getD_put, if_neg (by rintro ⟨rfl, _⟩; exact h rfl)]
theorem op_value (F : Fr ρ0 H0 w0 bx β ρ S H a w) {E : BoxEnv} {o : Oper} {v : AV} {H' : AHeap} {K : Act → World → Prop} {Q : Exit → Act → World → Prop} (hK : OpK P ρ0 H0 w0 bx E β S a o v H' K)
    {cv : Value} {w' : World} {ρ' : Ren} (hrun : (execOp a.eval o).run P w = .ok (.value cv) w') (hd : isDst bx o.dst = false) (hs : Sim ρ' H' w') (st : Step ρ H w ρ' H' w') (hv : VR ρ' v cv)
    (htw : trW bx E o = o.dst) (hnf : ∀ s x f, o.op ≠ .fieldAddr s x f) : o.wp P a w K Q := by
  refine wp_value hrun (hK ρ' β _ w' ?_ (fun t ht => put_other t ht) (fun _ _ => rfl) (fun s x f _ _ h => absurd h (hnf s x f)))
  rw [htw]
  exact (F.go hs st).put hd hv
theorem op_skipped (F : Fr ρ0 H0 w0 bx β ρ S H a w) {E : BoxEnv} {o : Oper} {H' : AHeap} {K : Act → World → Prop} {Q : Exit → Act → World → Prop} (hK : OpK P ρ0 H0 w0 bx E β S a o undefA H' K)
    {w' : World} {ρ' : Ren} (hrun : (execOp a.eval o).run P w = .ok .skip w') (hd : isDst bx o.dst = false) (hs : Sim ρ' H' w') (st : Step ρ H w ρ' H' w')
    (htw : trW bx E o = o.dst) (hnf : ∀ s x f, o.op ≠ .fieldAddr s x f) : o.wp P a w K Q := by
  refine wp_skipped hrun (hK ρ' β _ w' ?_ (fun t ht => put_other t ht) (fun _ _ => rfl) (fun s x f _ _ h => absurd h (hnf s x f)))
  rw [htw]
  exact (F.go hs st).put hd undef_ok
theorem op_enter (F : Fr ρ0 H0 w0 bx β ρ S H a w) {E : BoxEnv} {o : Oper} {v : AV} {H' : AHeap} {K : Act → World → Prop} {Q : Exit → Act → World → Prop} (hK : OpK P ρ0 H0 w0 bx E β S a o v H' K)
    {f : FuncId} {args : List AV} {cargs : Array Value} (hc : ACalls P f args H v H') (hargs : LR ρ args cargs.toList) (hrun : (∃ fn, P.funcs[f]? = some fn ∧ (fn.name == "runtime.NumGoroutine") = false ∧ fn.body.isNone = false) → (execOp a.eval o).run P w = .ok (.enter f cargs) w)
    (hd : isDst bx o.dst = false) (htw : trW bx E o = o.dst) (hnf : ∀ s x f, o.op ≠ .fieldAddr s x f) : o.wp P a w K Q := by
  unfold Oper.wp
  rw [hrun hc.1]
  refine (hc.2 ρ w cargs F.sim hargs).mono ?_
  rintro e w' ⟨ρ', cv, rfl, hv, hs, st⟩
  refine hK ρ' β _ w' ?_ (fun t ht => put_other t ht) (fun _ _ => rfl) (fun s x f _ _ h => absurd h (hnf s x f))
  rw [htw]
  exact (F.go hs st).put hd hv
theorem run_callFunc {f : FuncId} {args : Array Value} (h : ∃ fn, P.funcs[f]? = some fn ∧ (fn.name == "runtime.NumGoroutine") = false ∧ fn.body.isNone = false) : (callFunc f args).run P w = .ok (.enter f args) w := by
  obtain ⟨fn, h1, h2, h3⟩ := h
  simp only [callFunc, Sem.run_bind, run_program, Result.andThen_ok, h1, h2, h3]
  rfl
theorem trTwo_some {x y : Operand} {f : Opd → Opd → Act1} {act : Act1} (h : trTwo bx x y f = some act) : ∃ p q, trOpd bx x = some p ∧ trOpd bx y = some q ∧ act = f p q := by
  unfold trTwo at h
  split at h
  · rename_i p q hp hq; cases h; exact ⟨p, q, hp, hq, rfl⟩
  · cases h
theorem mm_ok (mx : Bool) : ∀ (ys : List AV) (vs : List Value) (X V : AV) (cx : Value), LR ρ ys vs → VR ρ X cx → mmA mx X ys = some V →
    ∃ cv, (vs.foldlM (if mx then Builtin.max2 else Builtin.min2) cx).run P w = .ok cv w ∧ VR ρ V cv
  | [], [], X, V, cx, _, hx, h => by simp [mmA] at h; subst h; exact ⟨cx, by simp, hx⟩
  | [], _ :: _, _, _, _, h, _, _ => by have := h.1; simp at this
  | _ :: _, [], _, _, _, h, _, _ => by have := h.1; simp at this
  | y :: ys, u :: vs, X, V, cx, hl, hx, h => by
    unfold mmA at h
    split at h
    · simp at *
    · rename_i k x k' y' r heq
      simp at heq
      obtain ⟨rfl, rfl⟩ := heq
      split at h
      case isFalse => cases h
      rename_i hk
      subst hk
      have hy := hl.head
      cases hx; cases hy
      obtain ⟨cv, h1, h2⟩ := mm_ok mx ys vs _ V (.int k (if mx then max x y' else min x y')) hl.tail (.int _ _) h
      refine ⟨cv, ?_, h2⟩
      cases mx
      · simp only [Bool.false_eq_true, if_false] at h1 ⊢
        rw [List.foldlM_cons, Sem.run_bind]
        have e : (Builtin.min2 (.int k x) (.int k y')).run P w = .ok (.int k (min x y')) w := by
          simp only [Builtin.min2, Sem.run_pure]; congr 2; omega
        rw [e]; exact h1
      · simp only [if_true] at h1 ⊢
        rw [List.foldlM_cons, Sem.run_bind]
        have e : (Builtin.max2 (.int k x) (.int k y')).run P w = .ok (.int k (max x y')) w := by
          simp only [Builtin.max2, Sem.run_pure]; congr 2; omega
        rw [e]; exact h1
    · cases h
theorem parts_ok (F : Fr ρ0 H0 w0 bx β ρ S H a w) {place : Nat → Option (Nat × Nat)} {parts : List (Nat × Operand)} {ps : List (Nat × Nat × Opd)} (h : trParts bx place parts = some ps) :
    (ps.map fun p => (p.1, p.2.1, rd S p.2.2)).length = (parts.map fun p => (p.1, a.eval p.2)).length ∧
    ∀ (i : Nat) p q, (parts.map fun p => (p.1, a.eval p.2))[i]? = some p → (ps.map fun p => (p.1, p.2.1, rd S p.2.2))[i]? = some q → place p.1 = some (q.1, q.2.1) ∧ VR ρ q.2.2 p.2 := by
  obtain ⟨h1, h2⟩ := mapM_some h
  refine ⟨by simp [h1], fun i p q hp hq => ?_⟩
  simp only [List.getElem?_map, Option.map_eq_some_iff] at hp hq
  obtain ⟨p', hp', rfl⟩ := hp
  obtain ⟨q', hq', rfl⟩ := hq
  obtain ⟨y, hy, hs⟩ := h2 i p' hp'
  rw [hq'] at hy; cases hy
  simp only [Option.bind_eq_bind, Option.bind_eq_some_iff, Option.pure_def, Option.some.injEq] at hs
  obtain ⟨r, hr, x, hx, rfl⟩ := hs
  exact ⟨hr, F.opd hx⟩
theorem opt_ok (F : Fr ρ0 H0 w0 bx β ρ S H a w) {y : Option Operand} {z : Option Opd} (h : (match y with | none => some none | some y => (trOpd bx y).map some) = some z) :
    (z.map (rd S) = none ∧ y.map a.eval = none) ∨ ∃ p c, z.map (rd S) = some p ∧ y.map a.eval = some c ∧ VR ρ p c := by
  cases y with
  | none => cases h; exact .inl ⟨rfl, rfl⟩
  | some y =>
    simp only [Option.map_eq_some_iff] at h
    obtain ⟨p, hp, rfl⟩ := h
    exact .inr ⟨_, _, rfl, rfl, F.opd hp⟩
end
end Go.Eng

namespace Go.Eng
open Go
section
variable {P : Program} {ρ0 : Ren} {H0 : AHeap} {w0 : World} {bx : List Nat} {β : Nat → Option Nat} {ρ : Ren} {S : List AV} {H : AHeap} {a : Act} {w : World}
theorem run_v {s : Sem Value} {cv : Value} {w' : World} (h : s.run P w = .ok cv w') : (do pure (.value (← s)) : Sem Next).run P w = .ok (.value cv) w' := by
  rw [Sem.run_bind, h]; rfl
theorem run_u {s : Sem Unit} {w' : World} (h : s.run P w = .ok () w') : (do s; pure .skip : Sem Next).run P w = .ok .skip w' := by
  rw [Sem.run_bind, h]; rfl
theorem run_isnil (neg : Bool) {t e : TypeId} (x y : Operand) (ad : Option Addr) (l c : Nat) (hu : P.underlying t = some (.slice e)) :
    ((do eqGuard (if neg then .neq else .eql) t x y (.slice ad l c) (.slice none 0 0); binOp (if neg then .neq else .eql) t (.slice ad l c) (.slice none 0 0) : Sem Value)).run P w = .ok (.bool (if neg then !ad.isNone else ad.isNone)) w := by
  cases neg
  · simp only [Bool.false_eq_true, if_false, Sem.run_bind]
    have e1 : (eqGuard .eql t x y (.slice ad l c) (.slice none 0 0)).run P w = .ok () w := by simp [eqGuard]
    rw [e1, Result.andThen_ok, Lib.run_eql_slice_nil w t e ad l c 0 0 hu]
  · simp only [if_true, Sem.run_bind]
    have e1 : (eqGuard .neq t x y (.slice ad l c) (.slice none 0 0)).run P w = .ok () w := by simp [eqGuard]
    rw [e1, Result.andThen_ok, run_neq_slice_nil_any w t e ad l c 0 0 hu]
set_option maxHeartbeats 2000000 in
theorem op_sound (F : Fr ρ0 H0 w0 bx β ρ S H a w) {E : BoxEnv} {o : Oper} {act : Act1} (ht : trAct P bx E o = some act) (hd : dstOk bx o = true) (hE : EnvOk bx E β S a (usesEnv bx E o))
    {v : AV} {H' : AHeap} (hout : act.out P S H v H') {K : Act → World → Prop} {Q : Exit → Act → World → Prop} (hK : OpK P ρ0 H0 w0 bx E β S a o v H' K) : o.wp P a w K Q := by
  obtain ⟨dst, op, ty, pos, after, guard⟩ := o
  have rfs := Step.refl ρ H w F.sim
  cases op
  case move x =>
    simp only [trAct, Option.map_eq_some_iff] at ht
    obtain ⟨p, hp, rfl⟩ := ht
    obtain ⟨hv, rfl⟩ := hout
    simp only [pval, Option.some.injEq] at hv
    subst hv
    exact op_value F hK (cv := a.eval x) rfl (by simpa [dstOk] using hd) F.sim rfs (F.opd hp) rfl (by simp)
  case assign x =>
    simp only [trAct, Option.map_eq_some_iff] at ht
    obtain ⟨p, hp, rfl⟩ := ht
    obtain ⟨hv, rfl⟩ := hout
    simp only [pval, Option.some.injEq] at hv
    subst hv
    exact op_value F hK (cv := a.eval x) rfl (by simpa [dstOk] using hd) F.sim rfs (F.opd hp) rfl (by simp)
  case pick c x y =>
    simp only [trAct, Option.bind_eq_bind, Option.bind_eq_some_iff, Option.pure_def, Option.some.injEq] at ht
    obtain ⟨p, hp, q, hq, r, hr, rfl⟩ := ht
    obtain ⟨hv, rfl⟩ := hout
    simp only [pval] at hv
    split at hv
    case h_2 => cases hv
    rename_i b hb
    cases hv
    have hc := F.opd hp
    rw [hb] at hc
    generalize hec : a.eval c = cc at hc
    cases hc
    refine op_value F hK (cv := if b then a.eval x else a.eval y) ?_ (by simpa [dstOk] using hd) F.sim rfs ?_ rfl (by simp)
    · simp [execOp, hec, asBool]
    · cases b
      · exact F.opd hr
      · exact F.opd hq
  case alloc t =>
    simp only [trAct, Option.map_eq_some_iff] at ht
    obtain ⟨z, hz, rfl⟩ := ht
    obtain ⟨i, zv, hi, hzv, hzr⟩ := tzero_some hz
    have hrun : (execOp a.eval ⟨dst, .alloc t, ty, pos, after, guard⟩).run P w = .ok (.value (.pointer (some ⟨w.heap.size, 0, none⟩))) (w.alloc (.cells zv.cells t)) := by
      simp [execOp, Instr.alloc, zeroValue, typeInfo, hi, hzv, newVar, newRow]
    by_cases hdd : isDst bx dst = true
    · rw [if_pos hdd] at hout
      obtain ⟨hv, rfl⟩ := hout
      simp only [pval, rd] at hv
      split at hv
      case h_2 => cases hv
      rename_i l hl
      cases hv
      cases dst with
      | none => simp [isDst] at hdd
      | some d =>
        simp only [isDst] at hdd
        have F' := F.bnew hdd (hzr ρ) hl t
        refine wp_value hrun (hK ρ _ _ _ F' (fun t ht => put_other t ht) (fun d' hd' => ?_) (by simp))
        simp only [isBnew, hdd, if_true, ne_eq, Option.some.injEq] at hd'
        rw [if_neg (Ne.symm hd')]
    · rw [if_neg hdd] at hout
      simp only [Act1.out, hval, rd] at hout
      split at hout
      case h_2 => cases hout
      rename_i c hc
      cases hout
      obtain ⟨ρ', g1, g2, g3⟩ := ok_newv F.sim t (hzr ρ) hc
      exact op_value F hK hrun (by simpa using hdd) g2 g3 g1 rfl (by simp)
  case box t x =>
    simp only [trAct, Option.map_eq_some_iff] at ht
    obtain ⟨p, hp, rfl⟩ := ht
    have hx := F.opd hp
    have hrun : (execOp a.eval ⟨dst, .box t x, ty, pos, after, guard⟩).run P w = .ok (.value (.pointer (some ⟨w.heap.size, 0, none⟩))) (w.alloc (.cells (a.eval x).cells t)) := by
      simp [execOp, Instr.box, newVar, newRow]
    by_cases hdd : isDst bx dst = true
    · rw [if_pos hdd] at hout
      obtain ⟨hv, rfl⟩ := hout
      simp only [pval] at hv
      split at hv
      case h_2 => cases hv
      rename_i l hl
      cases hv
      cases dst with
      | none => simp [isDst] at hdd
      | some d =>
        simp only [isDst] at hdd
        have F' := F.bnew hdd hx hl t
        refine wp_value hrun (hK ρ _ _ _ F' (fun t ht => put_other t ht) (fun d' hd' => ?_) (by simp))
        simp only [isBnew, hdd, if_true, ne_eq, Option.some.injEq] at hd'
        rw [if_neg (Ne.symm hd')]
    · rw [if_neg hdd] at hout
      simp only [Act1.out, hval] at hout
      split at hout
      case h_2 => cases hout
      rename_i c hc
      cases hout
      obtain ⟨ρ', g1, g2, g3⟩ := ok_newv F.sim t hx hc
      exact op_value F hK hrun (by simpa using hdd) g2 g3 g1 rfl (by simp)
  case build t parts =>
    simp only [trAct, Option.bind_eq_bind, Option.bind_eq_some_iff] at ht
    obtain ⟨z, ⟨zv, ⟨i, hi, hzv⟩, hzt⟩, zc, hzc, ht⟩ := ht
    obtain ⟨hzl, hzo⟩ := (trV_ok (ρ := ρ) hzt).cells hzc
    have hzero : (zeroValue t).run P w = .ok zv w := by simp [zeroValue, typeInfo, hi, hzv]
    have fin : ∀ (place : Nat → Option (Nat × Nat)) (ps : List (Nat × Nat × Opd)), trParts bx place parts.toList = some ps → act = .pu (.build zc ps) →
        (∀ cells, Instr.fill place zv.cells (parts.toList.map fun p => (p.1, a.eval p.2)) = some cells → (Instr.build t (parts.map fun (i, x) => (i, a.eval x))).run P w = .ok (.agg cells) w) →
        (Oper.mk dst (.build t parts) ty pos after guard).wp P a w K Q := by
      intro place ps hps hact hb
      subst hact
      obtain ⟨hv, rfl⟩ := hout
      simp only [pval, Option.map_eq_some_iff] at hv
      obtain ⟨l, hl, rfl⟩ := hv
      obtain ⟨k1, k2⟩ := parts_ok F hps
      obtain ⟨cells, c1, c2, c3⟩ := fill_ok place _ _ zc l zv.cells k1 k2 hzl hzo hl
      exact op_value F hK (cv := .agg cells) (run_v (hb cells c1)) (by simpa [dstOk] using hd) F.sim rfs (VR.agg_iff.2 ⟨c2, c3⟩) rfl (by simp)
    split at ht
    · rename_i fs hu
      simp only [Option.bind_eq_some_iff] at ht
      obtain ⟨ps, hps, ht⟩ := ht
      split at ht
      case isFalse => cases ht
      rename_i hall
      cases ht
      refine fin _ ps hps rfl (fun cells hc => ?_)
      have hplaces : ∀ (l : List Field), (l.all fun f => (tsize P f.type).isSome) = true →
          (l.mapM fun f => (do pure (f.offset, ← sizeOf f.type) : Sem (Nat × Nat))).run P w = .ok (l.map fun f => (f.offset, (tsize P f.type).getD 0)) w := by
        intro l
        induction l with
        | nil => intro _; simp
        | cons f l ih =>
          intro h
          simp only [List.all_cons, Bool.and_eq_true] at h
          obtain ⟨s, hs⟩ := Option.isSome_iff_exists.1 h.1
          rw [List.mapM_cons, Sem.run_bind]
          simp only [Sem.run_bind, run_sizeOf hs, Result.andThen_ok, Sem.run_pure, ih h.2, List.map_cons, hs, Option.getD_some]
      have hp2 : (fs.mapM fun f => (do pure (f.offset, ← sizeOf f.type) : Sem (Nat × Nat))).run P w = .ok (fs.map fun f => (f.offset, (tsize P f.type).getD 0)) w := by
        rw [Array.mapM_eq_mapM_toList, Sem.run_map, hplaces fs.toList hall]
        simp only [Result.andThen_ok]
        congr 1
        exact Array.toList_inj.1 (by simp)
      have hfill : Instr.fill ((fs.map fun f => (f.offset, (tsize P f.type).getD 0))[·]?) zv.cells (parts.toList.map fun p => (p.1, a.eval p.2)) = some cells := by
        rw [← hc]
        congr 1
        funext i
        simp only [Array.getElem?_map]
        cases hfi : fs[i]? with
        | none => rfl
        | some f =>
          have hm : f ∈ fs.toList := by
            have := Array.mem_of_getElem? hfi
            simpa using this
          have := (List.all_eq_true.1 hall) f hm
          obtain ⟨s, hs⟩ := Option.isSome_iff_exists.1 this
          simp [hs]
      simp only [Instr.build, Sem.run_bind, hzero, Result.andThen_ok, run_underlying hu, hp2, Array.toList_map]
      rw [hfill]
      rfl
    · rename_i n e hu
      simp only [Option.bind_eq_some_iff, Option.pure_def, Option.some.injEq] at ht
      obtain ⟨s, hs, ps, hps, rfl⟩ := ht
      refine fin _ ps hps rfl (fun cells hc => ?_)
      simp only [Instr.build, Sem.run_bind, hzero, Result.andThen_ok, run_underlying hu, run_sizeOf hs, Array.toList_map]
      rw [hc]
      rfl
    · cases ht
  case buildSlice t n parts =>
    simp only [trAct, Option.bind_eq_bind, Option.bind_eq_some_iff] at ht
    obtain ⟨e, he, z, hz, ht⟩ := ht
    split at ht
    · cases ht
    rename_i hn
    simp only [Option.bind_eq_some_iff, Option.pure_def, Option.some.injEq] at ht
    obtain ⟨ps, hps, rfl⟩ := ht
    simp only [Act1.out, hval] at hout
    split at hout
    case h_2 => cases hout
    rename_i l hl
    cases hout
    obtain ⟨k1, k2⟩ := parts_ok F hps
    obtain ⟨cv, w', ρ', g1, g2, g3, g4⟩ := ok_blds (P := P) F.sim (t := t) (n := n) (ps := parts.map fun (i, x) => (i, a.eval x)) he hz (by omega) (by simpa using k1) (fun i p q hp hq => k2 i p q (by simpa using hp) hq) hl
    exact op_value F hK (run_v g1) (by simpa [dstOk] using hd) g3 g4 g2 rfl (by simp)
  case load t x =>
    simp only [trAct, Option.bind_eq_bind, Option.bind_eq_some_iff] at ht
    obtain ⟨s, hs, ag, hag, ht⟩ := ht
    split at ht
    · rename_i chk b off ha
      cases ht
      obtain ⟨hv, rfl⟩ := hout
      simp only [pval] at hv
      split at hv
      case isFalse => cases hv
      rename_i hc
      have hl : ∃ l, (rd S (.s b)).cells? = some l := by
        cases hx : rd S (.s b) <;> simp [hx, bgot, AV.cells?] at hv ⊢
      obtain ⟨l, hl⟩ := hl
      obtain ⟨blk, cs, T, h1, h2, h3, h4, h5, h6, h7⟩ := F.addr hE ha (fun t' e ht1 ht2 ht3 => by subst ht1; simp [usesEnv, ht3]; simpa using ht2) hc hl
      obtain ⟨cv, g1, g2⟩ := box_load (P := P) h5 hl h6 h7 hs hag hv
      exact op_value F hK (cv := cv) (by simp only [execOp, h3]; exact run_v g1) (by simpa [dstOk] using hd) F.sim rfs g2 rfl (by simp)
    · simp only [Option.bind_eq_some_iff, Option.pure_def, Option.some.injEq] at ht
      obtain ⟨p, hp, rfl⟩ := ht
      obtain ⟨hv, rfl⟩ := hout
      simp only [lval, ldA] at hv
      split at hv
      case h_2 => cases hv
      rename_i n off hpn
      split at hv
      case h_2 => cases hv
      rename_i rw l hl
      have hx := F.opd hp
      rw [hpn] at hx
      obtain ⟨cv, g1, g2⟩ := ok_ld (P := P) F.sim hs hag hx hl hv
      exact op_value F hK (run_v g1) (by simpa [dstOk] using hd) F.sim rfs g2 rfl (by simp)
  case store t x y =>
    simp only [trAct, Option.bind_eq_bind, Option.bind_eq_some_iff] at ht
    obtain ⟨s, hs, p, hp, ht⟩ := ht
    have hy := F.opd hp
    have hdn : dst = none := by simpa [dstOk] using hd
    subst hdn
    split at ht
    · rename_i chk b off ha
      cases ht
      obtain ⟨hv, rfl⟩ := hout
      simp only [pval] at hv
      split at hv
      case isFalse => cases hv
      rename_i hc
      have hl : ∃ l, (rd S (.s b)).cells? = some l := by
        unfold bput at hv
        split at hv
        · cases hv
        split at hv
        · cases hv
        cases hx : rd S (.s b) <;> simp [hx, AV.cells?] at hv ⊢
      obtain ⟨l, hl⟩ := hl
      obtain ⟨blk, cs, T, h1, h2, h3, h4, h5, h6, h7⟩ := F.addr hE ha (fun t' e ht1 ht2 ht3 => by subst ht1; simp [usesEnv, ht3]; simpa using ht2) hc hl
      obtain ⟨cs', l', g1, g2, g3, g4⟩ := box_store (P := P) h5 hl h6 h7 hs hy hv
      have F' := F.bset h1 h2 h5 g2 g3 g4 (fun _ => h4)
      refine wp_skipped (w' := w.setRow blk cs') ?_ (hK ρ β _ _ ?_ (fun t ht => rfl) (fun _ _ => rfl) (by simp))
      · simp only [execOp, h3]; exact run_u g1
      · simp only [trW, ha, putS]; exact F'
    · rename_i ha
      simp only [Option.bind_eq_some_iff, Option.pure_def, Option.some.injEq] at ht
      obtain ⟨q, hq, rfl⟩ := ht
      simp only [Act1.out, hval] at hout
      split at hout
      case h_2 => cases hout
      rename_i n off c hpn hc
      split at hout
      case h_2 => cases hout
      rename_i l hl
      split at hout
      case isFalse => cases hout
      rename_i hle
      cases hout
      have hx := F.opd hq
      rw [hpn] at hx
      obtain ⟨w', g1, g2, g3⟩ := ok_st (P := P) F.sim hs hx hy hc hl hle
      exact op_skipped F hK (run_u g1) rfl g2 g3 (by simp [trW, ha]) (by simp)
  case fieldAddr s x f =>
    simp only [trAct, Option.bind_eq_bind, Option.bind_eq_some_iff] at ht
    obtain ⟨fd, hfd, sz, hsz, ht⟩ := ht
    split at ht
    · cases ht
    rename_i h0
    split at ht
    · rename_i chk b off ha
      cases ht
      obtain ⟨hv, rfl⟩ := hout
      simp only [pval] at hv
      split at hv
      case isFalse => cases hv
      rename_i hc
      split at hv
      case h_2 => cases hv
      rename_i l hl
      cases hv
      obtain ⟨blk, cs, T, h1, h2, h3, h4, h5, h6, h7⟩ := F.addr hE ha (fun t' e ht1 ht2 ht3 => by subst ht1; simp [usesEnv, ht3]; simpa using ht2) hc hl
      have hrun : (execOp a.eval ⟨dst, .fieldAddr s x f, ty, pos, after, guard⟩).run P w = .ok (.value (.pointer (some ⟨blk, off + fd.offset, none⟩))) w := by
        simp only [execOp, h3]; exact run_v (ok_fad hfd hsz h0 blk off)
      refine wp_value hrun (hK ρ β _ _ (F.put (dst := dst) (by simpa [dstOk] using hd) (.adr _)) (fun t ht => put_other t ht) (fun _ _ => rfl) ?_)
      intro s' x' f' q fd' he hq hf'
      cases he
      rw [ha] at hq; cases hq
      rw [hfd] at hf'; cases hf'
      refine ⟨blk, h2, fun d hdd hlt => ?_⟩
      cases hdd
      rw [getD_put, if_pos ⟨rfl, by rw [← F.len]; exact hlt⟩]
    · rename_i ha
      simp only [Option.bind_eq_some_iff, Option.pure_def, Option.some.injEq] at ht
      obtain ⟨q, hq, rfl⟩ := ht
      obtain ⟨hv, rfl⟩ := hout
      simp only [pval] at hv
      split at hv
      case h_2 => cases hv
      rename_i n o hpn
      cases hv
      have hx := F.opd hq
      rw [hpn] at hx
      generalize hex : a.eval x = cx at hx
      cases hx with
      | ptr _ _ L hn =>
        have hrun : (execOp a.eval ⟨dst, .fieldAddr s x f, ty, pos, after, guard⟩).run P w = .ok (.value (.pointer (some ⟨L.b, L.o + (o + fd.offset), none⟩))) w := by
          simp only [execOp, hex]; rw [← Nat.add_assoc]; exact run_v (ok_fad hfd hsz h0 L.b (L.o + o))
        refine wp_value hrun (hK ρ β _ _ (F.put (dst := dst) (by simpa [dstOk] using hd) (.ptr _ _ L hn)) (fun t ht => put_other t ht) (fun _ _ => rfl) ?_)
        intro s' x' f' q' fd' he hq' hf'
        cases he
        rw [ha] at hq'; cases hq'
  case field t x f =>
    simp only [trAct, Option.bind_eq_bind, Option.bind_eq_some_iff, Option.pure_def, Option.some.injEq] at ht
    obtain ⟨fd, hfd, sz, hsz, ag, hag, p, hp, rfl⟩ := ht
    obtain ⟨hv, rfl⟩ := hout
    simp only [pval] at hv
    split at hv
    case h_2 => cases hv
    rename_i l hl
    have hx := F.opd hp
    rw [hl] at hx
    obtain ⟨cv, g1, g2⟩ := ok_field (P := P) (w := w) hfd hsz hag hx hv
    exact op_value F hK (run_v g1) (by simpa [dstOk] using hd) F.sim rfs g2 rfl (by simp)
  case indexAddr t x i =>
    simp only [trAct, Option.bind_eq_bind, Option.bind_eq_some_iff, Option.pure_def, Option.some.injEq] at ht
    obtain ⟨e, he, s, hs, p, hp, q, hq, rfl⟩ := ht
    obtain ⟨hv, rfl⟩ := hout
    simp only [pval, idxA] at hv
    split at hv
    case h_2 => cases hv
    rename_i es n off len full k j hx0 hi0
    split at hv
    case isFalse => cases hv
    rename_i hj
    cases hv
    have hx := F.opd hp
    have hi := F.opd hq
    rw [hx0] at hx
    rw [hi0] at hi
    obtain ⟨cv, g1, g2⟩ := ok_idx (P := P) (w := w) he hs hx hi hj
    exact op_value F hK (run_v g1) (by simpa [dstOk] using hd) F.sim rfs g2 rfl (by simp)
  case index t x i =>
    simp only [trAct] at ht
    split at ht
    case h_1 n e hu =>
      simp only [Option.bind_eq_bind, Option.bind_eq_some_iff, Option.pure_def, Option.some.injEq] at ht
      obtain ⟨s, hs, ag, hag, p, hp, q, hq, rfl⟩ := ht
      obtain ⟨hv, rfl⟩ := hout
      simp only [pval] at hv
      split at hv
      case h_2 => cases hv
      rename_i l k j hx0 hi0
      split at hv
      case isFalse => cases hv
      rename_i hj
      have hx := F.opd hp
      have hi := F.opd hq
      rw [hx0] at hx
      rw [hi0] at hi
      obtain ⟨cv, g1, g2⟩ := ok_aidx (P := P) (w := w) hu hs hag hx hi hj hv
      exact op_value F hK (run_v g1) (by simpa [dstOk] using hd) F.sim rfs g2 rfl (by simp)
    case h_2 hu =>
      split at ht
      case h_2 => cases ht
      rename_i s
      simp only [Option.map_eq_some_iff] at ht
      obtain ⟨q, hq, rfl⟩ := ht
      obtain ⟨hv, rfl⟩ := hout
      simp only [pval] at hv
      split at hv
      case h_2 => cases hv
      rename_i l k j hx0 hi0
      split at hv
      case isFalse => cases hv
      rename_i hj
      have hi := F.opd hq
      rw [hi0] at hi
      have hl : bytesA s = l := by
        simp only [rd] at hx0
        exact AV.agg.inj hx0
      subst hl
      obtain ⟨cv, g1, g2⟩ := ok_sidx (P := P) (w := w) hu hi hj hv
      exact op_value F hK (run_v g1) (by simpa [dstOk] using hd) F.sim rfs g2 rfl (by simp)
    case h_3 => cases ht
  case extract x i =>
    simp only [trAct, Option.map_eq_some_iff] at ht
    obtain ⟨p, hp, rfl⟩ := ht
    obtain ⟨hv, rfl⟩ := hout
    simp only [pval] at hv
    split at hv
    case h_2 => cases hv
    rename_i l hl
    have hx := F.opd hp
    rw [hl] at hx
    have hx' := hx
    generalize hex : a.eval x = cx at hx hx'
    cases hx with
    | tuple _ vs _ _ =>
      obtain ⟨cv, g1, g2⟩ := (VR.tuple_iff.1 hx').get hv
      have g1' : vs[i]? = some cv := by simpa using g1
      exact op_value F hK (cv := cv) (by simp [execOp, hex, Instr.extract, g1']) (by simpa [dstOk] using hd) F.sim rfs g2 rfl (by simp)
  case binOp op t x y yt =>
    simp only [trAct, trBin] at ht
    have fin : ∀ {cv : Value} {V : AV}, ((do eqGuard op t x y (a.eval x) (a.eval y); binOp op t (a.eval x) (a.eval y) : Sem Value)).run P w = .ok cv w → VR ρ v cv → H' = H →
        (Oper.mk dst (.binOp op t x y yt) ty pos after guard).wp P a w K Q := by
      intro cv V hr hv hH
      subst hH
      exact op_value F hK (run_v hr) (by simpa [dstOk] using hd) F.sim rfs hv rfl (by simp)
    split at ht
    · obtain ⟨p, q, hp, hq, rfl⟩ := trTwo_some ht
      obtain ⟨hv, hH⟩ := hout
      simp only [pval] at hv
      obtain ⟨cv, g1, g2⟩ := ok_bin (P := P) (w := w) (t := t) x y (F.opd hp) (F.opd hq) hv
      exact fin (V := v) g1 g2 hH
    · rename_i hu
      unfold trBool at ht
      split at ht
      · obtain ⟨p, q, hp, hq, rfl⟩ := trTwo_some ht
        obtain ⟨hv, hH⟩ := hout
        simp only [pval] at hv
        split at hv
        case h_2 => cases hv
        rename_i b1 b2 e1 e2
        cases hv
        have h1 := F.opd hp
        have h2 := F.opd hq
        rw [e1] at h1
        rw [e2] at h2
        obtain ⟨cv, g1, g2⟩ := ok_eqb (P := P) (w := w) false x y hu h1 h2
        exact fin (V := .junk) g1 g2 hH
      · obtain ⟨p, q, hp, hq, rfl⟩ := trTwo_some ht
        obtain ⟨hv, hH⟩ := hout
        simp only [pval] at hv
        split at hv
        case h_2 => cases hv
        rename_i b1 b2 e1 e2
        cases hv
        have h1 := F.opd hp
        have h2 := F.opd hq
        rw [e1] at h1
        rw [e2] at h2
        obtain ⟨cv, g1, g2⟩ := ok_eqb (P := P) (w := w) true x y hu h1 h2
        exact fin (V := .junk) g1 g2 hH
      · cases ht
    · rename_i fs hu
      simp only [Option.bind_eq_some_iff] at ht
      obtain ⟨ks, hks, ht⟩ := ht
      unfold trStruct at ht
      split at ht
      · obtain ⟨p, q, hp, hq, rfl⟩ := trTwo_some ht
        obtain ⟨hv, hH⟩ := hout
        simp only [pval] at hv
        split at hv
        case h_2 => cases hv
        rename_i b1 b2 e1 e2
        simp only [Option.map_eq_some_iff] at hv
        obtain ⟨r, hr, rfl⟩ := hv
        have h1 := F.opd hp
        have h2 := F.opd hq
        rw [e1] at h1
        rw [e2] at h2
        obtain ⟨cv, g1, g2⟩ := ok_eqs (P := P) (w := w) false x y hks h1 h2 hr
        exact fin (V := .junk) g1 g2 hH
      · obtain ⟨p, q, hp, hq, rfl⟩ := trTwo_some ht
        obtain ⟨hv, hH⟩ := hout
        simp only [pval] at hv
        split at hv
        case h_2 => cases hv
        rename_i b1 b2 e1 e2
        simp only [Option.map_eq_some_iff] at hv
        obtain ⟨r, hr, rfl⟩ := hv
        have h1 := F.opd hp
        have h2 := F.opd hq
        rw [e1] at h1
        rw [e2] at h2
        obtain ⟨cv, g1, g2⟩ := ok_eqs (P := P) (w := w) true x y hks h1 h2 hr
        exact fin (V := .junk) g1 g2 hH
      · cases ht
    · rename_i e hu
      split at ht
      case isFalse => cases ht
      rename_i hnc
      have hy : y = .const (.slice none 0 0) := by
        unfold isNilConst at hnc
        split at hnc
        · rfl
        · cases hnc
      have nil : ∀ (neg : Bool) (p : Opd), trOpd bx x = some p → act = .pu (.isnil neg p) → op = (if neg then .neq else .eql) → (Oper.mk dst (.binOp op t x y yt) ty pos after guard).wp P a w K Q := by
        intro neg p hp hact hop
        subst hact; subst hop; subst hy
        obtain ⟨hv, hH⟩ := hout
        simp only [pval] at hv
        have h1 := F.opd hp
        have run : ∀ (ad : Option Addr) (l c : Nat), a.eval x = .slice ad l c →
            ((do eqGuard (if neg then .neq else .eql) t x (.const (.slice none 0 0)) (a.eval x) (a.eval (.const (.slice none 0 0))); binOp (if neg then .neq else .eql) t (a.eval x) (a.eval (.const (.slice none 0 0))) : Sem Value)).run P w
              = .ok (.bool (if neg then !ad.isNone else ad.isNone)) w := by
          intro ad l c hec
          rw [hec]
          exact run_isnil neg x _ ad l c hu
        generalize hec : a.eval x = cx at h1
        split at hv
        · rename_i hx0
          cases hv
          rw [hx0] at h1
          cases h1
          refine fin (V := .junk) (run none 0 0 hec) ?_ hH
          cases neg <;> exact .bool _
        · rename_i hx0
          cases hv
          rw [hx0] at h1
          cases h1
          refine fin (V := .junk) (run _ _ _ hec) ?_ hH
          cases neg <;> exact .bool _
        · cases hv
      unfold trNil at ht
      split at ht
      · simp only [Option.map_eq_some_iff] at ht
        obtain ⟨p, hp, rfl⟩ := ht
        exact nil false p hp rfl rfl
      · simp only [Option.map_eq_some_iff] at ht
        obtain ⟨p, hp, rfl⟩ := ht
        exact nil true p hp rfl rfl
      · cases ht
    · cases ht
  case unOp op t x =>
    cases op
    case neg =>
      simp only [trAct, Option.map_eq_some_iff] at ht
      obtain ⟨p, hp, rfl⟩ := ht
      obtain ⟨hv, rfl⟩ := hout
      simp only [pval] at hv
      split at hv
      case h_2 => cases hv
      rename_i k n hn
      cases hv
      have hx := F.opd hp
      rw [hn] at hx
      generalize hec : a.eval x = cx at hx
      cases hx
      exact op_value F hK (cv := .int k (k.wrap (0 - n))) (by simp [execOp, hec, Op.unary, Op.intArith]) (by simpa [dstOk] using hd) F.sim rfs (.int _ _) rfl (by simp)
    case not =>
      simp only [trAct, Option.map_eq_some_iff] at ht
      obtain ⟨p, hp, rfl⟩ := ht
      obtain ⟨hv, rfl⟩ := hout
      simp only [pval] at hv
      split at hv
      case h_2 => cases hv
      rename_i b hn
      cases hv
      have hx := F.opd hp
      rw [hn] at hx
      generalize hec : a.eval x = cx at hx
      cases hx
      exact op_value F hK (cv := .bool (!b)) (by simp [execOp, hec, Op.unary]) (by simpa [dstOk] using hd) F.sim rfs (.bool _) rfl (by simp)
    all_goals simp [trAct] at ht
  case convert src dst' x =>
    simp only [trAct] at ht
    split at ht
    case h_2 => cases ht
    rename_i k0 k h1 h2
    simp only [Option.map_eq_some_iff] at ht
    obtain ⟨p, hp, rfl⟩ := ht
    obtain ⟨hv, rfl⟩ := hout
    simp only [pval] at hv
    split at hv
    case h_2 => cases hv
    rename_i k' n hn
    cases hv
    have hx := F.opd hp
    rw [hn] at hx
    generalize hec : a.eval x = cx at hx
    cases hx
    refine op_value F hK (cv := .int k (k.wrap n)) ?_ (by simpa [dstOk] using hd) F.sim rfs (.int _ _) rfl (by simp)
    simp [execOp, hec, convert, run_underlying h1, run_underlying h2, Conv.intToInt]
  case makeFunc fn first caps =>
    cases fn
    case func f =>
      simp only [trAct] at ht
      split at ht
      case isFalse =>
        split at ht
        case isFalse => cases ht
        rename_i hfe
        simp only [Option.map_eq_some_iff] at ht
        obtain ⟨cs, hcs, rfl⟩ := ht
        obtain ⟨hv, rfl⟩ := hout
        simp only [pval, Option.some.injEq] at hv
        subst hv
        have hf : caps = #[] := by simpa using hfe
        subst hf
        refine op_value F hK (cv := .func (.func f) (first.map a.eval) #[]) (by simp [execOp, Instr.makeFunc]) (by simpa [dstOk] using hd) F.sim rfs (VR.bm_iff.2 ?_) rfl (by simp)
        simpa using F.opds hcs
      rename_i hfe
      simp only [Option.map_eq_some_iff] at ht
      obtain ⟨cs, hcs, rfl⟩ := ht
      obtain ⟨hv, rfl⟩ := hout
      simp only [pval, Option.some.injEq] at hv
      subst hv
      have hf : first = #[] := by simpa using hfe
      subst hf
      refine op_value F hK (cv := .func (.func f) #[] (caps.map a.eval)) (by simp [execOp, Instr.makeFunc]) (by simpa [dstOk] using hd) F.sim rfs (VR.fn_iff.2 ?_) rfl (by simp)
      simpa using F.opds hcs
    all_goals simp [trAct] at ht
  case slice t x lo hi mx =>
    simp only [trAct, Option.bind_eq_bind, Option.bind_eq_some_iff, Option.pure_def, Option.some.injEq] at ht
    obtain ⟨e, he, z, hz, p, hp, lo', hlo, hi', hhi, mx', hmx, rfl⟩ := ht
    obtain ⟨hv, rfl⟩ := hout
    simp only [pval] at hv
    obtain ⟨cv, g1, g2⟩ := ok_slc (P := P) (w := w) he hz (F.opd hp) (opt_ok F hlo) (opt_ok F hhi) (opt_ok F hmx) hv
    exact op_value F hK (run_v g1) (by simpa [dstOk] using hd) F.sim rfs g2 rfl (by simp)
  case makeSlice t l c =>
    simp only [trAct, Option.bind_eq_bind, Option.bind_eq_some_iff, Option.pure_def, Option.some.injEq] at ht
    obtain ⟨e, he, z, hz, p, hp, q, hq, rfl⟩ := ht
    simp only [Act1.out, hval] at hout
    split at hout
    case h_2 => cases hout
    rename_i k1 lv k2 cv hl hc
    split at hout
    case isFalse => cases hout
    rename_i hb
    cases hout
    have h1 := F.opd hp
    have h2 := F.opd hq
    rw [hl] at h1
    rw [hc] at h2
    generalize hel : a.eval l = cl at h1
    generalize hecc : a.eval c = cc at h2
    cases h1; cases h2
    obtain ⟨v, w', ρ', g1, g2, g3, g4⟩ := ok_mks (P := P) F.sim (k1 := k1) (k2 := k2) he hz hb
    exact op_value F hK (by simp only [execOp, hel, hecc]; exact run_v g1) (by simpa [dstOk] using hd) g3 g4 g2 rfl (by simp)
  case makeMap t r =>
    cases r
    case some r => simp [trAct] at ht
    simp only [trAct, Option.some.injEq] at ht
    subst ht
    simp only [Act1.out, hval, Option.some.injEq, Prod.mk.injEq] at hout
    obtain ⟨rfl, rfl⟩ := hout
    obtain ⟨v, w', ρ', g1, g2, g3, g4⟩ := ok_mkm (P := P) F.sim t
    exact op_value F hK (run_v g1) (by simpa [dstOk] using hd) g3 g4 g2 rfl (by simp)
  case lookup t x k ok =>
    simp only [trAct] at ht
    split at ht
    case h_2 => cases ht
    rename_i kt e hu
    split at ht
    case h_2 => cases ht
    rename_i hk
    simp only [Option.bind_eq_bind, Option.bind_eq_some_iff, Option.pure_def, Option.some.injEq] at ht
    obtain ⟨z, hz, p, hp, q, hq, rfl⟩ := ht
    obtain ⟨hv, rfl⟩ := hout
    obtain ⟨cv, g1, g2⟩ := ok_look (P := P) F.sim hu hk hz (F.opd hp) (F.opd hq) S p q rfl rfl hv
    exact op_value F hK (run_v g1) (by simpa [dstOk] using hd) F.sim rfs g2 rfl (by simp)
  case mapUpdate t m k x =>
    simp only [trAct] at ht
    split at ht
    case h_2 => cases ht
    rename_i kt e hu
    split at ht
    case h_2 => cases ht
    rename_i hk
    simp only [Option.bind_eq_bind, Option.bind_eq_some_iff, Option.pure_def, Option.some.injEq] at ht
    obtain ⟨p, hp, q, hq, r, hr, rfl⟩ := ht
    simp only [Act1.out, hval] at hout
    split at hout
    case h_2 => cases hout
    rename_i n kk hm hkk
    split at hout
    case h_2 => cases hout
    rename_i l hl
    split at hout
    case h_2 => cases hout
    rename_i l' hl'
    cases hout
    have h1 := F.opd hp
    have h2 := F.opd hq
    rw [hm] at h1
    rw [hkk] at h2
    obtain ⟨w', g1, g2, g3⟩ := ok_mset (P := P) F.sim hu hk h1 h2 (F.opd hr) hl hl'
    exact op_skipped F hK (run_u g1) (by simpa [dstOk] using hd) g2 g3 rfl (by simp)
  case insert t m k x =>
    simp only [trAct] at ht
    split at ht
    case h_2 => cases ht
    rename_i kt e hu
    split at ht
    case h_2 => cases ht
    rename_i hk
    simp only [Option.bind_eq_bind, Option.bind_eq_some_iff, Option.pure_def, Option.some.injEq] at ht
    obtain ⟨p, hp, q, hq, r, hr, rfl⟩ := ht
    simp only [Act1.out, hval] at hout
    split at hout
    case h_2 => cases hout
    rename_i n kk hm hkk
    split at hout
    case h_2 => cases hout
    rename_i l hl
    split at hout
    case h_2 => cases hout
    rename_i l' hl'
    cases hout
    have h1 := F.opd hp
    have h2 := F.opd hq
    rw [hm] at h1
    rw [hkk] at h2
    obtain ⟨w', g1, g2, g3⟩ := ok_mset (P := P) F.sim hu hk h1 h2 (F.opd hr) hl hl'
    exact op_skipped F hK (run_u g1) (by simpa [dstOk] using hd) g2 g3 rfl (by simp)
  case call c =>
    obtain ⟨callee, args, argTypes⟩ := c
    have viaFn : ∀ (x : Operand) (X : Opd) (xs : List Opd) (f : FuncId) (cap : List AV), trOpd bx x = some X → args.toList.mapM (trOpd bx) = some xs → rd S X = .fn f cap → ACalls P f (xs.map (rd S) ++ cap) H v H' → callee = .value x →
        (Oper.mk dst (.call { callee := callee, args := args, argTypes := argTypes }) ty pos after guard).wp P a w K Q := by
      intro x X xs f cap hX hxs hfn hc hcal
      subst hcal
      have hx := F.opd hX
      rw [hfn] at hx
      have hx' := hx
      generalize hec : a.eval x = cx at hx hx'
      cases hx with
      | fn _ _ vs _ _ =>
        refine op_enter F hK (cargs := args.map a.eval ++ vs) hc ?_ (fun hf => ?_) (by simpa [dstOk] using hd) rfl (by simp)
        · simpa using (F.opds hxs).append (VR.fn_iff.1 hx')
        · have hcf := run_callFunc (P := P) (w := w) (f := f) (args := args.map a.eval ++ vs) hf
          simp [execOp, resolve, hec, Deferred.ofValue, invoke, hcf]
    have viaBm : ∀ (x : Operand) (X : Opd) (xs : List Opd) (f : FuncId) (cap : List AV), trOpd bx x = some X → args.toList.mapM (trOpd bx) = some xs → rd S X = .bm f cap → ACalls P f (cap ++ xs.map (rd S)) H v H' → callee = .value x →
        (Oper.mk dst (.call { callee := callee, args := args, argTypes := argTypes }) ty pos after guard).wp P a w K Q := by
      intro x X xs f cap hX hxs hfn hc hcal
      subst hcal
      have hx := F.opd hX
      rw [hfn] at hx
      have hx' := hx
      generalize hec : a.eval x = cx at hx hx'
      cases hx with
      | bm _ _ vs _ _ =>
        refine op_enter F hK (cargs := vs ++ args.map a.eval) hc ?_ (fun hf => ?_) (by simpa [dstOk] using hd) rfl (by simp)
        · simpa using (VR.bm_iff.1 hx').append (F.opds hxs)
        · have hcf := run_callFunc (P := P) (w := w) (f := f) (args := vs ++ args.map a.eval) hf
          simp [execOp, resolve, hec, Deferred.ofValue, invoke, hcf]
    cases callee
    case value x =>
      cases x
      case func f =>
        simp only [trAct, Option.map_eq_some_iff] at ht
        obtain ⟨xs, hxs, rfl⟩ := ht
        refine viaFn (.func f) (.c (.fn f [])) xs f [] rfl hxs rfl ?_ rfl
        rw [List.append_nil]; exact hout
      all_goals
        simp only [trAct, Option.bind_eq_bind, Option.bind_eq_some_iff, Option.pure_def, Option.some.injEq] at ht
        obtain ⟨X, hX, xs, hxs, rfl⟩ := ht
        rcases hout with ⟨f, cap, hfn, hc⟩ | ⟨f, cap, hfn, hc⟩
        · exact viaFn _ X xs f cap hX hxs hfn hc rfl
        · exact viaBm _ X xs f cap hX hxs hfn hc rfl
    case invoke r m => simp [trAct] at ht
    case builtin b =>
      simp only [trAct] at ht
      have run : ∀ {s : Sem Value} {cv : Value} {w' : World}, s.run P w = .ok cv w' → (∀ cs, builtin b argTypes ty cs (args.map a.eval) = (do pure (.value (← s)) : Sem Next)) → (execOp a.eval ⟨dst, .call { callee := .builtin b, args := args, argTypes := argTypes }, ty, pos, after, guard⟩).run P w = .ok (.value cv) w' := by
        intro s cv w' hs hb
        simp only [execOp, resolve, Sem.run_bind, Sem.run_pure, Result.andThen_ok, invoke, hb]
        simp [hs]
      unfold trBuiltin at ht
      split at ht
      · rename_i x t' hargs hts
        have ha : args = #[x] := by rw [← Array.toList_inj]; simpa using hargs
        have hty : argTypes = #[t'] := by rw [← Array.toList_inj]; simpa using hts
        subst ha; subst hty
        split at ht
        · rename_i e hu
          simp only [Option.map_eq_some_iff] at ht
          obtain ⟨p, hp, rfl⟩ := ht
          obtain ⟨hv, rfl⟩ := hout
          simp only [pval, lenA] at hv
          have hx := F.opd hp
          generalize hec : a.eval x = cx at hx
          split at hv
          · rename_i hx0
            cases hv
            rw [hx0] at hx
            cases hx
            exact op_value F hK (run (s := Builtin.len_ #[t'] ty #[a.eval x]) (cv := .int .i64 0) (by simp [hec, Builtin.len_, run_underlying hu, goInt]) (fun cs => by simp [builtin])) (by simpa [dstOk] using hd) F.sim rfs (.int _ _) rfl (by simp)
          · rename_i hx0
            cases hv
            rw [hx0] at hx
            cases hx
            exact op_value F hK (run (s := Builtin.len_ #[t'] ty #[a.eval x]) (by simp [hec, Builtin.len_, run_underlying hu, goInt]) (fun cs => by simp [builtin])) (by simpa [dstOk] using hd) F.sim rfs (.int _ _) rfl (by simp)
          · cases hv
        · rename_i kt e hu
          simp only [Option.map_eq_some_iff] at ht
          obtain ⟨p, hp, rfl⟩ := ht
          obtain ⟨hv, rfl⟩ := hout
          simp only [lval] at hv
          have hx := F.opd hp
          generalize hec : a.eval x = cx at hx
          split at hv
          · rename_i hx0
            cases hv
            rw [hx0] at hx
            cases hx
            exact op_value F hK (run (s := Builtin.len_ #[t'] ty #[a.eval x]) (cv := .int .i64 0) (by simp [hec, Builtin.len_, run_underlying hu, goInt]) (fun cs => by simp [builtin])) (by simpa [dstOk] using hd) F.sim rfs (.int _ _) rfl (by simp)
          · rename_i n hx0
            split at hv
            case h_2 => cases hv
            rename_i l hl
            cases hv
            rw [hx0] at hx
            cases hx with
            | mp _ L hn ho =>
              obtain ⟨es, clock, hb, _, h1, _⟩ := F.sim.mapOf hn hl
              have hlen : l.length = es.size := by simpa using h1.1
              have hget : (getObj L.b).run P w = .ok (.map es clock) w := by simp [getObj, Sem.run, hb]
              exact op_value F hK (run (s := Builtin.len_ #[t'] ty #[a.eval x]) (by simp [hec, Builtin.len_, run_underlying hu, hget, goInt]; rfl) (fun cs => by simp [builtin])) (by simpa [dstOk] using hd) F.sim rfs (by rw [hlen]; exact .int _ _) rfl (by simp)
          · cases hv
        · cases ht
      · rename_i x y t' u hargs hts
        have ha : args = #[x, y] := by rw [← Array.toList_inj]; simpa using hargs
        have hty : argTypes = #[t', u] := by rw [← Array.toList_inj]; simpa using hts
        subst ha; subst hty
        split at ht
        case isFalse =>
          split at ht
          case h_2 => cases ht
          rename_i hint
          split at ht
          case h_2 => cases ht
          rename_i e he
          split at ht
          case h_2 => cases ht
          rename_i z hz
          simp only [Option.bind_eq_bind, Option.bind_eq_some_iff, Option.pure_def, Option.some.injEq] at ht
          obtain ⟨p, hp, q, hq, rfl⟩ := ht
          simp only [Act1.out, hval] at hout
          obtain ⟨cv, w', ρ', g1, g2, g3, g4⟩ := ok_appz (P := P) F.sim (ty := ty) he hint hz (F.opd hp) (F.opd hq) hout
          exact op_value F hK (run g1 (fun cs => by simp [builtin])) (by simpa [dstOk] using hd) g3 g4 g2 rfl (by simp)
        rename_i htu
        subst htu
        split at ht
        case h_2 => cases ht
        rename_i e he
        split at ht
        case h_2 => cases ht
        rename_i z hz
        simp only [Option.bind_eq_bind, Option.bind_eq_some_iff, Option.pure_def, Option.some.injEq] at ht
        obtain ⟨p, hp, q, hq, rfl⟩ := ht
        simp only [Act1.out, hval] at hout
        obtain ⟨cv, w', ρ', g1, g2, g3, g4⟩ := ok_app (P := P) F.sim (ty := ty) he hz (F.opd hp) (F.opd hq) hout
        exact op_value F hK (run g1 (fun cs => by simp [builtin])) (by simpa [dstOk] using hd) g3 g4 g2 rfl (by simp)
      · rename_i x t' hargs hts
        have ha : args = #[x] := by rw [← Array.toList_inj]; simpa using hargs
        have hty : argTypes = #[t'] := by rw [← Array.toList_inj]; simpa using hts
        subst ha; subst hty
        split at ht
        case h_2 => cases ht
        rename_i e hu
        simp only [Option.map_eq_some_iff] at ht
        obtain ⟨p, hp, rfl⟩ := ht
        obtain ⟨hv, rfl⟩ := hout
        simp only [pval, capA] at hv
        have hx := F.opd hp
        generalize hec : a.eval x = cx at hx
        split at hv
        · rename_i hx0
          cases hv
          rw [hx0] at hx
          cases hx
          exact op_value F hK (run (s := Builtin.cap_ #[t'] ty #[a.eval x]) (cv := .int .i64 0) (by simp [hec, Builtin.cap_, run_underlying hu, goInt]) (fun cs => by simp [builtin])) (by simpa [dstOk] using hd) F.sim rfs (.int _ _) rfl (by simp)
        · rename_i len hx0
          cases hv
          rw [hx0] at hx
          cases hx with
          | sl _ _ _ _ _ L a0 cap0 h1 h2 h3 h4 h5 =>
            have hcl : cap0 = len := h3 rfl
            subst hcl
            exact op_value F hK (run (s := Builtin.cap_ #[t'] ty #[a.eval x]) (cv := .int .i64 cap0) (by simp [hec, Builtin.cap_, run_underlying hu, goInt]) (fun cs => by simp [builtin])) (by simpa [dstOk] using hd) F.sim rfs (.int _ _) rfl (by simp)
        · cases hv
      · rename_i x y t' u hargs hts
        have ha : args = #[x, y] := by rw [← Array.toList_inj]; simpa using hargs
        have hty : argTypes = #[t', u] := by rw [← Array.toList_inj]; simpa using hts
        subst ha; subst hty
        split at ht
        case isFalse => cases ht
        rename_i htu
        subst htu
        split at ht
        case h_2 => cases ht
        rename_i e he
        split at ht
        case h_2 => cases ht
        rename_i z hz
        simp only [Option.bind_eq_bind, Option.bind_eq_some_iff, Option.pure_def, Option.some.injEq] at ht
        obtain ⟨p, hp, q, hq, rfl⟩ := ht
        obtain ⟨cv, w', g1, g2, g3, g4⟩ := ok_cpy (P := P) F.sim (ty := ty) he hz (F.opd hp) (F.opd hq) S p q rfl rfl hout
        exact op_value F hK (run g1 (fun cs => by simp [builtin])) (by simpa [dstOk] using hd) g3 g4 g2 rfl (by simp)
      · rename_i x t' hargs hts
        have ha : args = #[x] := by rw [← Array.toList_inj]; simpa using hargs
        have hty : argTypes = #[t'] := by rw [← Array.toList_inj]; simpa using hts
        subst ha; subst hty
        split at ht
        case h_2 => cases ht
        rename_i e he
        split at ht
        case h_2 => cases ht
        rename_i z hz
        simp only [Option.map_eq_some_iff] at ht
        obtain ⟨p, hp, rfl⟩ := ht
        obtain ⟨cv, w', g1, g2, g3, g4⟩ := ok_clr (P := P) F.sim (ty := ty) he hz (F.opd hp) S p rfl hout
        exact op_value F hK (run g1 (fun cs => by simp [builtin])) (by simpa [dstOk] using hd) g3 g4 g2 rfl (by simp)
      · rename_i x xs _ hargs
        simp only [Option.bind_eq_bind, Option.bind_eq_some_iff, Option.pure_def, Option.some.injEq] at ht
        obtain ⟨p, hp, ps, hps, rfl⟩ := ht
        obtain ⟨hv, rfl⟩ := hout
        simp only [pval] at hv
        obtain ⟨cv, g1, g2⟩ := mm_ok (P := P) (w := w) true _ _ _ _ _ (F.opds hps) (F.opd hp) hv
        refine op_value F hK (run (s := Builtin.max_ argTypes ty (args.map a.eval)) (cv := cv) ?_ (fun cs => by simp [builtin])) (by simpa [dstOk] using hd) F.sim rfs g2 rfl (by simp)
        simpa [Builtin.max_, hargs] using g1
      · rename_i x xs _ hargs
        simp only [Option.bind_eq_bind, Option.bind_eq_some_iff, Option.pure_def, Option.some.injEq] at ht
        obtain ⟨p, hp, ps, hps, rfl⟩ := ht
        obtain ⟨hv, rfl⟩ := hout
        simp only [pval] at hv
        obtain ⟨cv, g1, g2⟩ := mm_ok (P := P) (w := w) false _ _ _ _ _ (F.opds hps) (F.opd hp) hv
        refine op_value F hK (run (s := Builtin.min_ argTypes ty (args.map a.eval)) (cv := cv) ?_ (fun cs => by simp [builtin])) (by simpa [dstOk] using hd) F.sim rfs g2 rfl (by simp)
        simpa [Builtin.min_, hargs] using g1
      · cases ht
  all_goals simp [trAct] at ht
end
end Go.Eng

