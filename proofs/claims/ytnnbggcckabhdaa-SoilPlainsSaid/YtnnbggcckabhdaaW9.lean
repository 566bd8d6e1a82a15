/- Soil: what lies between two places is worth. No conditions. -/
import Derived.Test.YtnnbggcckabhdaaW8
namespace Go.Proofs.Ytnnbggcckabhdaa
open Go Go.Eng

def clamp (x lo hi : Rat) : Rat := if x < lo then lo else if hi < x then hi else x

/-- What a field that begins at 'b' is worth up to 'x'. -/
def upTo : Int → List (Int × Int) → Rat → Rat
  | _, [], _ => 0
  | b, z :: f, x => (clamp x (b : Rat) ((b + z.1 : Int) : Rat) - (b : Rat)) * (z.2 : Rat) + upTo (b + z.1) f x

/-- One zone's part of what lies between two places. -/
theorem part_eq (p q lo hi v : Rat) (h : p ≤ q) (hb : lo ≤ hi) :
    (if (if lo < p then p else lo) < (if q < hi then q else hi) then ((if q < hi then q else hi) - (if lo < p then p else lo)) * v else 0) = (clamp q lo hi - lo) * v - (clamp p lo hi - lo) * v := by
  unfold clamp
  grind

def upToU : Int → List Int → Rat → Rat
  | _, [], _ => 0
  | b, u :: us, x => (clamp x (b : Rat) ((b + 1 : Int) : Rat) - (b : Rat)) * (u : Rat) + upToU (b + 1) us x

theorem clamp_join (x a b c : Rat) (h : a ≤ b) (k : b ≤ c) : (clamp x a b - a) + (clamp x b c - b) = clamp x a c - a := by
  unfold clamp
  grind

theorem upToU_rep (v : Int) (us : List Int) (x : Rat) : ∀ (n : Nat) (b : Int), upToU b (List.replicate n v ++ us) x = (clamp x (b : Rat) ((b + n : Int) : Rat) - (b : Rat)) * (v : Rat) + upToU (b + n) us x
  | 0, b => by
    have : clamp x (b : Rat) (b : Rat) = (b : Rat) := by unfold clamp; grind
    simp [this]
    grind
  | n + 1, b => by
    rw [List.replicate_succ, List.cons_append, upToU, upToU_rep v us x n (b + 1)]
    have e : b + 1 + (n : Int) = b + ((n + 1 : Nat) : Int) := by omega
    rw [e]
    have h1 : (b : Rat) ≤ ((b + 1 : Int) : Rat) := Rat.intCast_le_intCast.2 (by omega)
    have h2 : ((b + 1 : Int) : Rat) ≤ ((b + ((n + 1 : Nat) : Int) : Int) : Rat) := Rat.intCast_le_intCast.2 (by omega)
    have := clamp_join x _ _ _ h1 h2
    grind

theorem upTo_units (x : Rat) : ∀ (f : List (Int × Int)) (b : Int), f.all vz = true → upToU b (units f) x = upTo b f x
  | [], _, _ => rfl
  | z :: f, b, h => by
    simp only [List.all_cons, Bool.and_eq_true] at h
    have hz := (vz_iff z).1 h.1
    have e : ((z.1.toNat : Nat) : Int) = z.1 := Int.toNat_of_nonneg (by omega)
    have : units (z :: f) = List.replicate z.1.toNat z.2 ++ units f := rfl
    rw [this, upToU_rep, e, upTo_units x f _ h.2, upTo]

theorem upToU_zero (x : Rat) : ∀ (us : List Int) (b : Int), x ≤ (b : Rat) → upToU b us x = 0
  | [], _, _ => rfl
  | u :: us, b, h => by
    have h1 : (b : Rat) ≤ ((b + 1 : Int) : Rat) := Rat.intCast_le_intCast.2 (by omega)
    rw [upToU, upToU_zero x us (b + 1) (by grind)]
    have : clamp x (b : Rat) ((b + 1 : Int) : Rat) = (b : Rat) := by unfold clamp; grind
    rw [this]
    grind

theorem upToU_at (x : Rat) : ∀ (us : List Int) (b : Int) (k : Nat), ((b + k : Int) : Rat) ≤ x → x < ((b + k + 1 : Int) : Rat) → k ≤ us.length →
    upToU b us x = (((us.take k).sum : Int) : Rat) + (match us[k]? with | some u => (x - ((b + k : Int) : Rat)) * (u : Rat) | none => 0)
  | [], b, k, _, _, hk => by
    have : k = 0 := by simpa using hk
    subst this
    simp [upToU]
    grind
  | u :: us, b, 0, h1, h2, _ => by
    have e0 : (b + ((0 : Nat) : Int)) = b := by omega
    rw [e0] at h1 h2
    rw [upToU, upToU_zero x us (b + 1) (by grind)]
    have : clamp x (b : Rat) ((b + 1 : Int) : Rat) = x := by unfold clamp; grind
    rw [this]
    simp
    grind
  | u :: us, b, k + 1, h1, h2, hk => by
    have e0 : b + ((k + 1 : Nat) : Int) = b + 1 + (k : Int) := by omega
    rw [e0] at h1 h2
    have h3 : ((b + 1 : Int) : Rat) ≤ ((b + 1 + (k : Int) : Int) : Rat) := Rat.intCast_le_intCast.2 (by omega)
    have h4 : ((b + 1 : Int) : Rat) = (b : Rat) + 1 := by rw [Rat.intCast_add]; rfl
    rw [upToU, upToU_at x us (b + 1) k h1 h2 (by simpa using hk)]
    have : clamp x (b : Rat) ((b + 1 : Int) : Rat) = ((b + 1 : Int) : Rat) := by unfold clamp; grind
    rw [this, h4]
    simp only [List.take_succ_cons, List.sum_cons, Rat.intCast_add, List.getElem?_cons_succ]
    grind

end Go.Proofs.Ytnnbggcckabhdaa
