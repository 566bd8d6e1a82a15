/- Soil: joined neighbors, and sums, without memory. No conditions. -/
import Derived.Test.YtnnbggcckabhdaaW14
import Derived.Test.YtnnbggcckabhdaaS5
namespace Go.Proofs.Ytnnbggcckabhdaa
open Go Go.Eng

theorem set_last {α : Type} (l : List α) (w y : α) : (l ++ [w]).set ((l ++ [w]).length - 1) y = l ++ [y] := by
  rw [List.set_append_right (h := by simp)]
  simp
theorem last_cases {α : Type} (l : List α) : l = [] ∨ ∃ i w, l = i ++ [w] := by
  rcases List.eq_nil_or_concat l with h | ⟨i, w, h⟩
  · exact .inl h
  · exact .inr ⟨i, w, by simpa using h⟩
theorem get_last {α : Type} (l : List α) (w : α) : (l ++ [w])[(l ++ [w]).length - 1]? = some w := by simp

/-- One zone more, joined if that can be done. -/
def pst (out : List (Int × Int)) (z : Int × Int) : List (Int × Int) :=
  match out[out.length - 1]? with
  | some w => if w.2 = z.2 ∧ w.1 + z.1 ≤ 20 then out.set (out.length - 1) (w.1 + z.1, w.2) else out ++ [z]
  | none => out ++ [z]
def pl (f : List (Int × Int)) : List (Int × Int) := f.foldl pst []

theorem pst_nil (z : Int × Int) : pst [] z = [z] := rfl
theorem pst_snoc (l : List (Int × Int)) (w z : Int × Int) : pst (l ++ [w]) z = if w.2 = z.2 ∧ w.1 + z.1 ≤ 20 then l ++ [(w.1 + z.1, w.2)] else l ++ [w] ++ [z] := by
  unfold pst
  rw [get_last]
  simp only
  rw [set_last]

theorem units_app (f g : List (Int × Int)) : units (f ++ g) = units f ++ units g := by simp [units]
theorem units_one (z : Int × Int) : units [z] = List.replicate z.1.toNat z.2 := by simp [units]

theorem pst_facts {out : List (Int × Int)} {z : Int × Int} (ho : out.all vz = true) (hz : vz z = true) :
    (pst out z).all vz = true ∧ units (pst out z) = units out ++ units [z] ∧ (pst out z).length ≤ out.length + 1 ∧ 1 ≤ (pst out z).length := by
  rcases last_cases out with rfl | ⟨l, w, rfl⟩
  · rw [pst_nil]; simp [hz, units]
  · rw [pst_snoc]
    rw [List.all_append, Bool.and_eq_true] at ho
    have hw : vz w = true := by simpa using ho.2
    have hw' := (vz_iff w).1 hw
    have hz' := (vz_iff z).1 hz
    split
    · rename_i h
      refine ⟨?_, ?_, by simp, by simp⟩
      · rw [List.all_append, ho.1, Bool.true_and]
        simp only [List.all_cons, List.all_nil, Bool.and_true]
        rw [vz_iff]
        exact ⟨by simp only; omega, by simp only; omega⟩
      · rw [units_app, units_app, units_one, units_one, units_one, List.append_assoc]
        congr 1
        simp only
        rw [← h.1, List.replicate_append_replicate]
        congr 1
        omega
    · refine ⟨?_, by rw [units_app], by simp, by simp⟩
      rw [List.all_append, List.all_append, ho.1]
      simp [hw, hz]

theorem fold_facts : ∀ (f out : List (Int × Int)), out.all vz = true → f.all vz = true →
    (f.foldl pst out).all vz = true ∧ units (f.foldl pst out) = units out ++ units f ∧ (f.foldl pst out).length ≤ out.length + f.length ∧ (1 ≤ out.length + f.length → 1 ≤ (f.foldl pst out).length)
  | [], out, ho, _ => by simp [ho, units]
  | z :: f, out, ho, hf => by
    simp only [List.all_cons, Bool.and_eq_true] at hf
    obtain ⟨h1, h2, h3, h4⟩ := pst_facts ho hf.1
    obtain ⟨g1, g2, g3, g4⟩ := fold_facts f (pst out z) h1 hf.2
    rw [List.foldl_cons]
    refine ⟨g1, ?_, ?_, fun _ => g4 (by omega)⟩
    · rw [g2, h2, List.append_assoc, ← units_app]; rfl
    · rw [List.length_cons]; omega

theorem pl_facts {f : List (Int × Int)} (h : f.all vz = true) : (pl f).all vz = true ∧ units (pl f) = units f ∧ (pl f).length ≤ f.length ∧ (1 ≤ f.length → 1 ≤ (pl f).length) := by
  have := fold_facts f [] rfl h
  simpa [pl, units] using this

theorem pl_take {f : List (Int × Int)} {i : Nat} {z : Int × Int} (hz : f[i]? = some z) : pl (f.take (i + 1)) = pst (pl (f.take i)) z := by
  unfold pl
  rw [List.take_add_one, hz, Option.toList_some, List.foldl_append]
  rfl

/-! Sums. -/
/-- The units of a zone, and whether a zone begins there. -/
def bz (z : Int × Int) : List (Int × Bool) := match z.1.toNat with
  | 0 => []
  | n + 1 => (z.2, true) :: List.replicate n (z.2, false)
def bu (f : List (Int × Int)) : List (Int × Bool) := f.flatMap bz
def sm2 (a b : Int × Bool) : Int × Bool := (a.1 + b.1, a.2 || b.2)
def zz (f g : List (Int × Int)) : List (Int × Bool) := List.zipWith sm2 (bu f) (bu g)
/-- One unit more. -/
def gst (out : List (Int × Int)) (s : Int × Bool) : List (Int × Int) :=
  if s.2 then out ++ [(1, s.1)] else match out[out.length - 1]? with
    | some w => out.set (out.length - 1) (w.1 + 1, w.2)
    | none => out
def grp (out : List (Int × Int)) (l : List (Int × Bool)) : List (Int × Int) := l.foldl gst out

theorem grp_rep (s : Int) (o : List (Int × Int)) : ∀ (n : Nat) (m : Int) (l : List (Int × Bool)), grp (o ++ [(m, s)]) (List.replicate n (s, false) ++ l) = grp (o ++ [(m + n, s)]) l
  | 0, m, l => by simp
  | n + 1, m, l => by
    rw [List.replicate_succ, List.cons_append]
    have : gst (o ++ [(m, s)]) (s, false) = o ++ [(m + 1, s)] := by
      unfold gst
      rw [get_last]
      simp only [Bool.false_eq_true, if_false]
      rw [set_last]
    show grp (gst (o ++ [(m, s)]) (s, false)) _ = _
    rw [this, grp_rep s o n (m + 1) l]
    congr 3
    simp only [Prod.mk.injEq, and_true]
    omega

theorem grp_run (s : Int) (o : List (Int × Int)) (n : Nat) (l : List (Int × Bool)) : grp o ((s, true) :: List.replicate n (s, false) ++ l) = grp (o ++ [((n : Int) + 1, s)]) l := by
  have : gst o (s, true) = o ++ [(1, s)] := rfl
  show grp (gst o (s, true)) (List.replicate n (s, false) ++ l) = _
  rw [this, grp_rep, Int.add_comm]

theorem bz_pos {z : Int × Int} (h : 1 ≤ z.1) : bz z = (z.2, true) :: List.replicate (z.1.toNat - 1) (z.2, false) := by
  unfold bz
  obtain ⟨n, hn⟩ : ∃ n, z.1.toNat = n + 1 := ⟨z.1.toNat - 1, by omega⟩
  rw [hn]
  rfl

theorem bu_cons {z : Int × Int} {f : List (Int × Int)} (h : 1 ≤ z.1) : bu (z :: f) = (z.2, true) :: List.replicate (z.1.toNat - 1) (z.2, false) ++ bu f := by
  unfold bu
  rw [List.flatMap_cons, bz_pos h]

/-- Where one of both begins a zone, the other one may as well. -/
theorem zz_head (w : Int) (r : List (Int × Bool)) {x : List (Int × Int)} (hx : ∀ z ∈ x, 1 ≤ z.1) :
    List.zipWith sm2 (bu x) ((w, false) :: r) = List.zipWith sm2 (bu x) ((w, true) :: r) ∧ List.zipWith sm2 ((w, false) :: r) (bu x) = List.zipWith sm2 ((w, true) :: r) (bu x) := by
  cases x with
  | nil => exact ⟨rfl, rfl⟩
  | cons z x =>
    rw [bu_cons (hx z (by simp)), List.cons_append]
    exact ⟨rfl, rfl⟩

theorem zz_rest (n : Nat) (w : Int) {x y : List (Int × Int)} (hn : 1 ≤ n) (hx : ∀ z ∈ x, 1 ≤ z.1) :
    List.zipWith sm2 (bu x) (List.replicate n (w, false) ++ bu y) = zz x (((n : Int), w) :: y) ∧ List.zipWith sm2 (List.replicate n (w, false) ++ bu y) (bu x) = zz (((n : Int), w) :: y) x := by
  obtain ⟨m, rfl⟩ : ∃ m, n = m + 1 := ⟨n - 1, by omega⟩
  unfold zz
  rw [bu_cons (by simp only; omega), List.replicate_succ, List.cons_append, List.cons_append]
  have h := zz_head w (List.replicate m (w, false) ++ bu y) hx
  rw [h.1, h.2]
  simp

theorem rep_zip (k : Nat) (v w : Int) : List.zipWith sm2 ((v, true) :: List.replicate k (v, false)) ((w, true) :: List.replicate k (w, false)) = (v + w, true) :: List.replicate k (v + w, false) := by
  rw [List.zipWith_cons_cons, List.zipWith_replicate']
  rfl

def rest (n : Int) (z : Int × Int) (x : List (Int × Int)) : List (Int × Int) := if z.1 - n = 0 then x else (z.1 - n, z.2) :: x

theorem zz_step {a b : Int × Int} {x y : List (Int × Int)} (ha : 1 ≤ a.1) (hb : 1 ≤ b.1) (hx : ∀ z ∈ x, 1 ≤ z.1) (hy : ∀ z ∈ y, 1 ≤ z.1) :
    zz (a :: x) (b :: y) = (a.2 + b.2, true) :: List.replicate ((min a.1 b.1).toNat - 1) (a.2 + b.2, false) ++ zz (rest (min a.1 b.1) a x) (rest (min a.1 b.1) b y) := by
  unfold rest
  conv => lhs; unfold zz
  rw [bu_cons ha, bu_cons hb]
  rcases Int.lt_trichotomy a.1 b.1 with h | h | h
  · have hm : min a.1 b.1 = a.1 := by omega
    rw [hm, if_pos (by omega), if_neg (by omega)]
    have e : List.replicate (b.1.toNat - 1) (b.2, false) = List.replicate (a.1.toNat - 1) (b.2, false) ++ List.replicate (b.1 - a.1).toNat (b.2, false) := by
      rw [List.replicate_append_replicate]; congr 1; omega
    rw [e, ← List.cons_append, List.append_assoc, List.zipWith_append (by simp), rep_zip]
    have := (zz_rest (b.1 - a.1).toNat b.2 (x := x) (y := y) (by omega) hx).1
    rw [this, show (((b.1 - a.1).toNat : Nat) : Int) = b.1 - a.1 by omega]
  · have hm : min a.1 b.1 = a.1 := by omega
    rw [hm, if_pos (by omega), if_pos (by omega), ← h, List.zipWith_append (by simp), rep_zip]
    rfl
  · have hm : min a.1 b.1 = b.1 := by omega
    rw [hm, if_neg (by omega), if_pos (by omega)]
    have e : List.replicate (a.1.toNat - 1) (a.2, false) = List.replicate (b.1.toNat - 1) (a.2, false) ++ List.replicate (a.1 - b.1).toNat (a.2, false) := by
      rw [List.replicate_append_replicate]; congr 1; omega
    rw [e, ← List.cons_append, List.append_assoc, List.zipWith_append (by simp), rep_zip]
    have := (zz_rest (a.1 - b.1).toNat a.2 (x := y) (y := x) (by omega) hy).2
    rw [this, show (((a.1 - b.1).toNat : Nat) : Int) = a.1 - b.1 by omega]

theorem grp_step {a b : Int × Int} {x y : List (Int × Int)} (out : List (Int × Int)) (ha : 1 ≤ a.1) (hb : 1 ≤ b.1) (hx : ∀ z ∈ x, 1 ≤ z.1) (hy : ∀ z ∈ y, 1 ≤ z.1) :
    grp out (zz (a :: x) (b :: y)) = grp (out ++ [(min a.1 b.1, a.2 + b.2)]) (zz (rest (min a.1 b.1) a x) (rest (min a.1 b.1) b y)) := by
  rw [zz_step ha hb hx hy, grp_run]
  congr 4
  omega

end Go.Proofs.Ytnnbggcckabhdaa
