/- The abstract machine, part 1: values, heap objects, and how they stand in the model's memory. No conditions. -/
import Derived.WalkKit
import Derived.Laws.CopyRow
import Derived.Laws.AppendOwn
import Derived.Laws.Slices
import Derived.Laws.StructEq
import Derived.Laws.MakeOwn
import Derived.Orders
namespace Go.Eng
open Go

/-- Abstract values. 'sl es n off len full': a slice of 'len' elements of 'es' cells each, from cell 'off' of object 'n' on; 'full': its capacity is its length. -/
inductive AV where
  | bool (b : Bool)
  | int (k : IntKind) (n : Int)
  | agg (cs : List AV)
  | nilS
  | sl (es n off len : Nat) (full : Bool)
  | nilP
  | ptr (n off : Nat)
  | fn (f : FuncId) (cap : List AV)
  | nilF
  | nilM
  | mp (n : Nat)
  | tuple (vs : List AV)
  | adr
  | junk
  deriving Inhabited

abbrev I (n : Int) : AV := .int .i64 n
abbrev B (b : Bool) : AV := .bool b
abbrev undefA : AV := .tuple []

inductive AObj where
  | cells (rw : Bool) (l : List AV)
  | mp (l : List (AV × AV))
  | dead
  deriving Inhabited

abbrev AHeap := List AObj

/-- Where an object stands: block, first cell, whether the block is the call's own, and its size. -/
structure Loc where
  b : Nat
  o : Nat
  own : Bool
  sz : Nat

abbrev Ren := Nat → Option Loc

def Sub (ρ ρ' : Ren) : Prop := ∀ n L, ρ n = some L → ρ' n = some L
theorem Sub.refl (ρ : Ren) : Sub ρ ρ := fun _ _ h => h
theorem Sub.trans {a b c : Ren} (h : Sub a b) (k : Sub b c) : Sub a c := fun n L e => k n L (h n L e)

inductive VR (ρ : Ren) : AV → Value → Prop where
  | junk (v : Value) : VR ρ .junk v
  | adr (v : Value) : VR ρ .adr v
  | bool (b : Bool) : VR ρ (.bool b) (.bool b)
  | int (k : IntKind) (n : Int) : VR ρ (.int k n) (.int k n)
  | agg (cs : List AV) (vs : Array Value) : cs.length = vs.size → (∀ (i : Nat) (x : AV) (v : Value), cs[i]? = some x → vs[i]? = some v → VR ρ x v) → (∀ v ∈ vs.toList, v.oneCell' = true) → VR ρ (.agg cs) (.agg vs)
  | nilS : VR ρ .nilS (.slice none 0 0)
  | sl (es n off len : Nat) (full : Bool) (L : Loc) (a : Addr) (cap : Nat) : ρ n = some L → len ≤ cap → (full = true → cap = len) → (a = ⟨L.b, L.o + off, none⟩ ∨ cap = 0) → (L.own = true → cap = 0 ∨ L.o + off + cap * es ≤ L.sz) →
      VR ρ (.sl es n off len full) (.slice (some a) len cap)
  | nilP : VR ρ .nilP (.pointer none)
  | ptr (n off : Nat) (L : Loc) : ρ n = some L → VR ρ (.ptr n off) (.pointer (some ⟨L.b, L.o + off, none⟩))
  | fn (f : FuncId) (cs : List AV) (vs : Array Value) : cs.length = vs.size → (∀ (i : Nat) (x : AV) (v : Value), cs[i]? = some x → vs[i]? = some v → VR ρ x v) → VR ρ (.fn f cs) (.func (.func f) #[] vs)
  | nilF : VR ρ .nilF .nilFunc
  | nilM : VR ρ .nilM (.map none)
  | mp (n : Nat) (L : Loc) : ρ n = some L → L.o = 0 → VR ρ (.mp n) (.map (some L.b))
  | tuple (cs : List AV) (vs : Array Value) : cs.length = vs.size → (∀ (i : Nat) (x : AV) (v : Value), cs[i]? = some x → vs[i]? = some v → VR ρ x v) → VR ρ (.tuple cs) (.tuple vs)

/-- Two lists related cell by cell. -/
def LR (ρ : Ren) (xs : List AV) (vs : List Value) : Prop := xs.length = vs.length ∧ ∀ (i : Nat) (x : AV) (v : Value), xs[i]? = some x → vs[i]? = some v → VR ρ x v

theorem VR.mono {ρ ρ' : Ren} (h : Sub ρ ρ') {x : AV} {v : Value} (r : VR ρ x v) : VR ρ' x v := by
  induction r with
  | junk v => exact .junk v
  | adr v => exact .adr v
  | bool b => exact .bool b
  | int k n => exact .int k n
  | agg cs vs hl _ ho ih => exact .agg cs vs hl ih ho
  | nilS => exact .nilS
  | sl es n off len full L a cap h1 h2 h3 h4 h5 => exact .sl es n off len full L a cap (h _ _ h1) h2 h3 h4 h5
  | nilP => exact .nilP
  | ptr n off L h1 => exact .ptr n off L (h _ _ h1)
  | fn f cs vs hl _ ih => exact .fn f cs vs hl ih
  | nilF => exact .nilF
  | nilM => exact .nilM
  | mp n L h1 h2 => exact .mp n L (h _ _ h1) h2
  | tuple cs vs hl _ ih => exact .tuple cs vs hl ih

/-- What was readable under a smaller renaming stays so when the value is known under a greater one. -/
theorem VR.back {ρ ρ' : Ren} (h : Sub ρ ρ') {x : AV} {v0 : Value} (r0 : VR ρ x v0) : ∀ {v : Value}, VR ρ' x v → VR ρ x v := by
  induction r0 with
  | junk v => intro v r; exact .junk _
  | adr v => intro v r; exact .adr _
  | bool b => intro v r; cases r; exact .bool b
  | int k n => intro v r; cases r; exact .int k n
  | agg cs vs hl _ ho ih =>
    intro v r
    cases r with
    | agg _ vs' hl' h' ho' =>
      refine .agg _ _ hl' (fun i x v hx hv => ?_) ho'
      have hi : i < cs.length := (List.getElem?_eq_some_iff.1 hx).1
      have : i < vs.size := by omega
      exact ih i x vs[i] hx (by simp [this]) (h' i x v hx hv)
  | nilS => intro v r; cases r; exact .nilS
  | sl es n off len full L a cap h1 h2 h3 h4 h5 =>
    intro v r
    cases r with
    | sl _ _ _ _ _ L' a' cap' h1' h2' h3' h4' h5' =>
      have := h _ _ h1
      rw [this] at h1'; cases h1'
      exact .sl es n off len full L a' cap' h1 h2' h3' h4' h5'
  | nilP => intro v r; cases r; exact .nilP
  | ptr n off L h1 =>
    intro v r
    cases r with
    | ptr _ _ L' h1' =>
      have := h _ _ h1
      rw [this] at h1'; cases h1'
      exact .ptr n off L h1
  | fn f cs vs hl _ ih =>
    intro v r
    cases r with
    | fn _ _ vs' hl' h' =>
      refine .fn _ _ _ hl' (fun i x v hx hv => ?_)
      have hi : i < cs.length := (List.getElem?_eq_some_iff.1 hx).1
      have : i < vs.size := by omega
      exact ih i x vs[i] hx (by simp [this]) (h' i x v hx hv)
  | nilF => intro v r; cases r; exact .nilF
  | nilM => intro v r; cases r; exact .nilM
  | mp n L h1 h2 =>
    intro v r
    cases r with
    | mp _ L' h1' h2' =>
      have := h _ _ h1
      rw [this] at h1'; cases h1'
      exact .mp n L h1 h2
  | tuple cs vs hl _ ih =>
    intro v r
    cases r with
    | tuple _ vs' hl' h' =>
      refine .tuple _ _ hl' (fun i x v hx hv => ?_)
      have hi : i < cs.length := (List.getElem?_eq_some_iff.1 hx).1
      have : i < vs.size := by omega
      exact ih i x vs[i] hx (by simp [this]) (h' i x v hx hv)

theorem LR.mono {ρ ρ' : Ren} (h : Sub ρ ρ') {xs : List AV} {vs : List Value} (r : LR ρ xs vs) : LR ρ' xs vs := ⟨r.1, fun i x v hx hv => (r.2 i x v hx hv).mono h⟩
theorem LR.nil {ρ : Ren} : LR ρ [] [] := ⟨rfl, fun i x v h => by simp at h⟩
theorem LR.cons {ρ : Ren} {x : AV} {v : Value} {xs : List AV} {vs : List Value} (h : VR ρ x v) (r : LR ρ xs vs) : LR ρ (x :: xs) (v :: vs) := by
  refine ⟨by simp [r.1], fun i y u hy hu => ?_⟩
  cases i with
  | zero => simp at hy hu; subst hy; subst hu; exact h
  | succ i => exact r.2 i y u (by simpa using hy) (by simpa using hu)
theorem LR.head {ρ : Ren} {x : AV} {v : Value} {xs : List AV} {vs : List Value} (r : LR ρ (x :: xs) (v :: vs)) : VR ρ x v := r.2 0 x v rfl rfl
theorem LR.tail {ρ : Ren} {x : AV} {v : Value} {xs : List AV} {vs : List Value} (r : LR ρ (x :: xs) (v :: vs)) : LR ρ xs vs :=
  ⟨by simpa using r.1, fun i y u hy hu => r.2 (i + 1) y u (by simpa using hy) (by simpa using hu)⟩
theorem LR.append {ρ : Ren} {xs ys : List AV} {vs us : List Value} (h : LR ρ xs vs) (k : LR ρ ys us) : LR ρ (xs ++ ys) (vs ++ us) := by
  refine ⟨by simp [h.1, k.1], fun i x v hx hv => ?_⟩
  rw [List.getElem?_append] at hx hv
  by_cases hi : i < xs.length
  · rw [if_pos hi] at hx; rw [if_pos (by rw [← h.1]; exact hi)] at hv
    exact h.2 i x v hx hv
  · rw [if_neg hi] at hx; rw [if_neg (by rw [← h.1]; exact hi)] at hv
    rw [h.1] at hx
    exact k.2 _ x v hx hv
theorem LR.take {ρ : Ren} {xs : List AV} {vs : List Value} (h : LR ρ xs vs) (n : Nat) : LR ρ (xs.take n) (vs.take n) := by
  refine ⟨by simp [h.1], fun i x v hx hv => ?_⟩
  rw [List.getElem?_take] at hx hv
  split at hx
  · rename_i hi; rw [if_pos hi] at hv; exact h.2 i x v hx hv
  · cases hx
theorem LR.drop {ρ : Ren} {xs : List AV} {vs : List Value} (h : LR ρ xs vs) (n : Nat) : LR ρ (xs.drop n) (vs.drop n) := by
  refine ⟨by simp [h.1], fun i x v hx hv => ?_⟩
  rw [List.getElem?_drop] at hx hv
  exact h.2 _ x v hx hv
theorem LR.get {ρ : Ren} {xs : List AV} {vs : List Value} (h : LR ρ xs vs) {i : Nat} {x : AV} (hx : xs[i]? = some x) : ∃ v, vs[i]? = some v ∧ VR ρ x v := by
  have hi : i < xs.length := (List.getElem?_eq_some_iff.1 hx).1
  have hj : i < vs.length := by rw [← h.1]; exact hi
  exact ⟨vs[i], by simp [hj], h.2 i x _ hx (by simp [hj])⟩

theorem VR.agg_iff {ρ : Ren} {cs : List AV} {vs : Array Value} : VR ρ (.agg cs) (.agg vs) ↔ LR ρ cs vs.toList ∧ ∀ v ∈ vs.toList, v.oneCell' = true := by
  constructor
  · intro h
    cases h with
    | agg _ _ h1 h2 h3 => exact ⟨⟨by simpa using h1, fun i x v hx hv => h2 i x v hx (by simpa using hv)⟩, h3⟩
  · rintro ⟨⟨h1, h2⟩, h3⟩
    exact .agg _ _ (by simpa using h1) (fun i x v hx hv => h2 i x v hx (by simpa using hv)) h3
theorem VR.tuple_iff {ρ : Ren} {cs : List AV} {vs : Array Value} : VR ρ (.tuple cs) (.tuple vs) ↔ LR ρ cs vs.toList := by
  constructor
  · intro h
    cases h with
    | tuple _ _ h1 h2 => exact ⟨by simpa using h1, fun i x v hx hv => h2 i x v hx (by simpa using hv)⟩
  · rintro ⟨h1, h2⟩
    exact .tuple _ _ (by simpa using h1) (fun i x v hx hv => h2 i x v hx (by simpa using hv))
theorem VR.fn_iff {ρ : Ren} {f : FuncId} {cs : List AV} {vs : Array Value} : VR ρ (.fn f cs) (.func (.func f) #[] vs) ↔ LR ρ cs vs.toList := by
  constructor
  · intro h
    cases h with
    | fn _ _ _ h1 h2 => exact ⟨by simpa using h1, fun i x v hx hv => h2 i x v hx (by simpa using hv)⟩
  · rintro ⟨h1, h2⟩
    exact .fn _ _ _ (by simpa using h1) (fun i x v hx hv => h2 i x v hx (by simpa using hv))

/-- The cells of a value that a variable can hold. -/
def AV.cells? : AV → Option (List AV)
  | .agg l => some l
  | .tuple _ | .junk | .adr => none
  | x => some [x]

theorem VR.cells {ρ : Ren} {x : AV} {v : Value} {l : List AV} (h : VR ρ x v) (hx : x.cells? = some l) : LR ρ l v.cells.toList ∧ ∀ u ∈ v.cells.toList, u.oneCell' = true := by
  have one : ∀ {x : AV} {v : Value}, VR ρ x v → LR ρ [x] [v] := fun h => LR.cons h LR.nil
  cases h <;> simp only [AV.cells?, Option.some.injEq, reduceCtorEq] at hx <;> subst hx <;>
    first
      | (refine VR.agg_iff.1 ?_; constructor <;> assumption)
      | (refine ⟨one ?_, by simp [Value.cells, Value.oneCell']⟩; constructor <;> assumption)
      | (refine ⟨one ?_, by simp [Value.cells, Value.oneCell']⟩; constructor)

/-- An object in its block. -/
def ObjR (ρ : Ren) (L : Loc) : AObj → Option Obj → Prop
  | .dead, _ => True
  | .cells rw l, some (.cells cs _ fz) => (rw = true → L.own = true) ∧ (L.own = true → cs.size = L.sz ∧ fz = (0, 0)) ∧ LR ρ l ((cs.toList.drop L.o).take l.length) ∧ (∀ v ∈ (cs.toList.drop L.o).take l.length, v.oneCell' = true)
  | .mp l, some (.map es _) => L.own = true ∧ LR ρ (l.map (·.1)) (es.toList.map (·.key)) ∧ LR ρ (l.map (·.2)) (es.toList.map (·.val))
  | _, _ => False

def live (H : AHeap) (n : Nat) : Prop := ∃ o, H[n]? = some o ∧ o ≠ .dead

structure Sim (ρ : Ren) (H : AHeap) (w : World) : Prop where
  dom : ∀ n L, ρ n = some L → n < H.length ∧ L.b < w.heap.size
  obj : ∀ n L o, ρ n = some L → H[n]? = some o → ObjR ρ L o w.heap[L.b]?
  sep : ∀ n m L M, ρ n = some L → ρ m = some M → n ≠ m → live H n → live H m → L.b = M.b → L.own = false ∧ M.own = false

/-- The blocks that may be written. -/
def Own (ρ : Ren) (H : AHeap) (b : Nat) : Prop := ∃ n L, ρ n = some L ∧ L.own = true ∧ L.b = b ∧ live H n

/-- From (ρ, H, w) to (ρ', H', w'): old names stay where they are; of old memory only what is the call's own has turned. -/
structure Step (ρ : Ren) (H : AHeap) (w : World) (ρ' : Ren) (H' : AHeap) (w' : World) : Prop where
  old : ∀ n, n < H.length → ρ' n = ρ n
  len : H.length ≤ H'.length
  os : w'.os = w.os
  tape : w'.tape = w.tape
  out : w'.output = w.output
  size : w.heap.size ≤ w'.heap.size
  keep : ∀ b, b < w.heap.size → ¬ Own ρ H b → w'.heap[b]? = w.heap[b]?
  own : ∀ b, Own ρ' H' b → w.heap.size ≤ b ∨ Own ρ H b
  fresh : ∀ n L, ρ' n = some L → n < H.length ∨ w.heap.size ≤ L.b ∨ Own ρ H L.b

theorem Step.refl (ρ : Ren) (H : AHeap) (w : World) (h : Sim ρ H w) : Step ρ H w ρ H w :=
  ⟨fun _ _ => rfl, Nat.le_refl _, rfl, rfl, rfl, Nat.le_refl _, fun _ _ _ => rfl, fun _ h => .inr h, fun n L e => .inl (h.dom n L e).1⟩

theorem Step.trans {ρ ρ₁ ρ₂ : Ren} {H H₁ H₂ : AHeap} {w w₁ w₂ : World} (h : Step ρ H w ρ₁ H₁ w₁) (k : Step ρ₁ H₁ w₁ ρ₂ H₂ w₂) : Step ρ H w ρ₂ H₂ w₂ where
  old n hn := (k.old n (Nat.lt_of_lt_of_le hn h.len)).trans (h.old n hn)
  len := Nat.le_trans h.len k.len
  os := k.os.trans h.os
  tape := k.tape.trans h.tape
  out := k.out.trans h.out
  size := Nat.le_trans h.size k.size
  keep b hb ho := by
    rw [k.keep b (Nat.lt_of_lt_of_le hb h.size) (fun e => by
      rcases h.own b e with h1 | h1
      · omega
      · exact ho h1), h.keep b hb ho]
  own b hb := by
    rcases k.own b hb with h1 | h1
    · exact .inl (Nat.le_trans h.size h1)
    · exact h.own b h1
  fresh n L e := by
    rcases k.fresh n L e with h1 | h1 | h1
    · exact h.fresh n L ((k.old n h1) ▸ e)
    · exact .inr (.inl (Nat.le_trans h.size h1))
    · rcases h.own _ h1 with h2 | h2
      · exact .inr (.inl h2)
      · exact .inr (.inr h2)

theorem Step.sub {ρ ρ' : Ren} {H H' : AHeap} {w w' : World} (hs : Sim ρ H w) (h : Step ρ H w ρ' H' w') : Sub ρ ρ' :=
  fun n L e => by rw [h.old n (hs.dom n L e).1]; exact e

theorem ObjR.mono {ρ ρ' : Ren} (h : Sub ρ ρ') {L : Loc} {o : AObj} {b : Option Obj} (r : ObjR ρ L o b) : ObjR ρ' L o b := by
  cases o with
  | dead => trivial
  | cells rw l =>
    cases b with
    | none => exact r.elim
    | some b =>
      cases b <;> first | exact r.elim | exact ⟨r.1, r.2.1, r.2.2.1.mono h, r.2.2.2⟩
  | mp l =>
    cases b with
    | none => exact r.elim
    | some b =>
      cases b <;> first | exact r.elim | exact ⟨r.1, r.2.1.mono h, r.2.2.mono h⟩

/-- The world has changed, but not in the blocks that are in use. -/
theorem Sim.world {ρ : Ren} {H : AHeap} {w w' : World} (h : Sim ρ H w) (hs : w.heap.size ≤ w'.heap.size) (hb : ∀ n L, ρ n = some L → w'.heap[L.b]? = w.heap[L.b]?) : Sim ρ H w' where
  dom n L e := ⟨(h.dom n L e).1, Nat.lt_of_lt_of_le (h.dom n L e).2 hs⟩
  obj n L o e ho := by rw [hb n L e]; exact h.obj n L o e ho
  sep := h.sep

/-- A draw. -/
theorem Sim.drew {ρ : Ren} {H : AHeap} {w : World} (h : Sim ρ H w) : Sim ρ H w.drew := h.world (Nat.le_refl _) (fun _ _ _ => rfl)

theorem heap_alloc_lt (w : World) (o : Obj) {b : Nat} (h : b < w.heap.size) : (w.alloc o).heap[b]? = w.heap[b]? := by
  show (w.heap.push o)[b]? = _
  rw [Array.getElem?_push, if_neg (Nat.ne_of_lt h)]
theorem heap_alloc_at (w : World) (o : Obj) : (w.alloc o).heap[w.heap.size]? = some o := by
  show (w.heap.push o)[w.heap.size]? = _
  simp

/-- A block of the frame's own (no name). -/
theorem Sim.allocBox {ρ : Ren} {H : AHeap} {w : World} (h : Sim ρ H w) (o : Obj) : Sim ρ H (w.alloc o) :=
  h.world (by simp) (fun n L e => heap_alloc_lt w o (h.dom n L e).2)

theorem Step.allocBox {ρ : Ren} {H : AHeap} {w : World} (h : Sim ρ H w) (o : Obj) : Step ρ H w ρ H (w.alloc o) :=
  ⟨fun _ _ => rfl, Nat.le_refl _, rfl, rfl, rfl, by simp, fun b hb _ => heap_alloc_lt w o hb, fun _ h => .inr h, fun n L e => .inl (h.dom n L e).1⟩

def Ren.put (ρ : Ren) (n : Nat) (L : Loc) : Ren := fun m => if m = n then some L else ρ m

theorem Sub.put {ρ : Ren} {n : Nat} {L : Loc} (h : ρ n = none) : Sub ρ (ρ.put n L) := by
  intro m M e
  unfold Ren.put
  split
  · rename_i hm; subst hm; rw [h] at e; cases e
  · exact e

theorem Sim.none_of_len {ρ : Ren} {H : AHeap} {w : World} (h : Sim ρ H w) : ρ H.length = none := by
  cases e : ρ H.length with
  | none => rfl
  | some L => exact absurd (h.dom _ _ e).1 (Nat.lt_irrefl _)

theorem live_append {H : AHeap} {o : AObj} {n : Nat} (h : n < H.length) : live (H ++ [o]) n ↔ live H n := by
  unfold live
  rw [List.getElem?_append_left h]

/-- A new object in a new block. -/
theorem Sim.alloc {ρ : Ren} {H : AHeap} {w : World} (h : Sim ρ H w) (o : AObj) (ob : Obj) (sz : Nat)
    (hr : ObjR (ρ.put H.length ⟨w.heap.size, 0, true, sz⟩) ⟨w.heap.size, 0, true, sz⟩ o (some ob)) :
    Sim (ρ.put H.length ⟨w.heap.size, 0, true, sz⟩) (H ++ [o]) (w.alloc ob) ∧ Step ρ H w (ρ.put H.length ⟨w.heap.size, 0, true, sz⟩) (H ++ [o]) (w.alloc ob) := by
  have hsub : Sub ρ (ρ.put H.length ⟨w.heap.size, 0, true, sz⟩) := Sub.put h.none_of_len
  have cs : ∀ {n L}, (ρ.put H.length ⟨w.heap.size, 0, true, sz⟩) n = some L → (n = H.length ∧ L = ⟨w.heap.size, 0, true, sz⟩) ∨ (ρ n = some L ∧ n < H.length ∧ L.b < w.heap.size) := by
    intro n L e
    unfold Ren.put at e
    split at e
    · rename_i hn; cases e; exact .inl ⟨hn, rfl⟩
    · exact .inr ⟨e, (h.dom n L e).1, (h.dom n L e).2⟩
  refine ⟨⟨?_, ?_, ?_⟩, ⟨?_, ?_, rfl, rfl, rfl, ?_, ?_, ?_, ?_⟩⟩
  · intro n L e
    rcases cs e with ⟨rfl, rfl⟩ | ⟨_, h1, h2⟩
    · simp
    · simp; omega
  · intro n L o' e ho
    rcases cs e with ⟨rfl, rfl⟩ | ⟨e', h1, h2⟩
    · rw [List.getElem?_append_right (Nat.le_refl _)] at ho
      simp at ho; subst ho
      rw [heap_alloc_at]; exact hr
    · rw [List.getElem?_append_left h1] at ho
      rw [heap_alloc_lt w ob h2]
      exact (h.obj n L o' e' ho).mono hsub
  · intro n m L M en em hne hn hm hb
    rcases cs en with ⟨rfl, rfl⟩ | ⟨en', h1, h2⟩ <;> rcases cs em with ⟨rfl, rfl⟩ | ⟨em', k1, k2⟩
    · exact absurd rfl hne
    · simp at hb; omega
    · simp at hb; omega
    · exact h.sep n m L M en' em' hne ((live_append h1).1 hn) ((live_append k1).1 hm) hb
  · intro n hn; unfold Ren.put; rw [if_neg (Nat.ne_of_lt hn)]
  · simp
  · simp
  · intro b hb _; exact heap_alloc_lt w ob hb
  · rintro b ⟨n, L, e, h1, h2, h3⟩
    rcases cs e with ⟨rfl, rfl⟩ | ⟨e', k1, k2⟩
    · left; simp at h2; omega
    · right; exact ⟨n, L, e', h1, h2, (live_append k1).1 h3⟩
  · intro n L e
    rcases cs e with ⟨rfl, rfl⟩ | ⟨e', k1, k2⟩
    · right; left; simp
    · left; exact k1

theorem getElem?_set_live {H : AHeap} {m n : Nat} {o : AObj} (ho : o ≠ .dead) (hm : live H m) : live (H.set m o) n ↔ live H n := by
  unfold live
  by_cases e : m = n
  · subst e
    obtain ⟨o', h1, h2⟩ := hm
    have hl : m < H.length := (List.getElem?_eq_some_iff.1 h1).1
    exact ⟨fun _ => ⟨o', h1, h2⟩, fun _ => ⟨o, by simp [hl], ho⟩⟩
  · simp [e]

/-- An object of the call's own is written in place. -/
theorem Sim.write {ρ : Ren} {H : AHeap} {w w' : World} (h : Sim ρ H w) {n : Nat} {L : Loc} {o0 o : AObj} (hn : ρ n = some L) (hown : L.own = true) (h0 : H[n]? = some o0) (hd0 : o0 ≠ .dead) (hd : o ≠ .dead)
    (hsz : w'.heap.size = w.heap.size) (hos : w'.os = w.os) (htp : w'.tape = w.tape) (hout : w'.output = w.output) (hother : ∀ b, b ≠ L.b → w'.heap[b]? = w.heap[b]?)
    (hr : ObjR ρ L o w'.heap[L.b]?) : Sim ρ (H.set n o) w' ∧ Step ρ H w ρ (H.set n o) w' := by
  have hl : live H n := ⟨o0, h0, hd0⟩
  have hnl : n < H.length := (h.dom n L hn).1
  have lv : ∀ m, live (H.set n o) m ↔ live H m := fun m => getElem?_set_live hd hl
  refine ⟨⟨?_, ?_, ?_⟩, ⟨fun _ _ => rfl, by simp, hos, htp, hout, by omega, ?_, ?_, ?_⟩⟩
  · intro m M e; have := h.dom m M e; simp; omega
  · intro m M o' e ho
    by_cases hm : m = n
    · subst hm
      rw [hn] at e; cases e
      rw [List.getElem?_set] at ho
      simp [hnl] at ho
      subst ho; exact hr
    · rw [List.getElem?_set] at ho
      rw [if_neg (by omega)] at ho
      by_cases hb : M.b = L.b
      · by_cases hdd : o' = .dead
        · subst hdd; trivial
        · have := h.sep m n M L e hn hm ⟨o', ho, hdd⟩ hl hb
          rw [hown] at this; simp at this
      · rw [hother _ hb]; exact h.obj m M o' e ho
  · intro m k M K em ek hne hm hk hb
    exact h.sep m k M K em ek hne ((lv m).1 hm) ((lv k).1 hk) hb
  · intro b _ hno
    exact hother b (fun e => hno ⟨n, L, hn, hown, e.symm, hl⟩)
  · rintro b ⟨m, M, e, h1, h2, h3⟩
    exact .inr ⟨m, M, e, h1, h2, (lv m).1 h3⟩
  · intro m M e; exact .inl (h.dom m M e).1

end Go.Eng
