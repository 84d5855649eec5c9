/- What the sum over numbers is, in plain terms: appended lists, and a changed number. -/
import Init
namespace Go.Proofs.YtckdgniecdfedaaGreatDoor
namespace Sl

/-- the powers of 3 modulo 65521 -/
def pw : Nat → Int
  | 0 => 1
  | k + 1 => pw k * 3 % 65521
/-- the sum of the first k numbers -/
def sealAt (xs : List Int) : Nat → Int
  | 0 => 0
  | k + 1 => (sealAt xs k + xs.getD k 0 % 65521 * pw (k + 1)) % 65521
def sl (xs : List Int) : Int := sealAt xs xs.length
/-- the sum without the remainders -/
def tot : List Int → Int
  | [] => 0
  | n :: l => 3 * (n + tot l)

theorem pw_eq : ∀ k : Nat, pw k = 3 ^ k % 65521
  | 0 => rfl
  | k + 1 => by
    rw [pw, pw_eq k, Int.pow_succ]
    generalize (3 : Int) ^ k = q
    omega
theorem pw_bd (k : Nat) : 0 ≤ pw k ∧ pw k < 65521 := by rw [pw_eq]; omega
theorem sealAt_bd (xs : List Int) (k : Nat) : 0 ≤ sealAt xs k ∧ sealAt xs k < 65521 := by
  cases k with
  | zero => simp [sealAt]
  | succ k => rw [sealAt]; omega
theorem tot_append : ∀ a b : List Int, tot (a ++ b) = tot a + 3 ^ a.length * tot b
  | [], b => by simp [tot]
  | n :: a, b => by
    simp only [List.cons_append, tot, tot_append a b, List.length_cons, Int.pow_succ]
    rw [Int.mul_add, Int.mul_add, Int.mul_add, Int.add_assoc]
    congr 2
    rw [← Int.mul_assoc, Int.mul_comm 3]
theorem sealAt_eq (xs : List Int) : ∀ k : Nat, k ≤ xs.length → sealAt xs k = tot (xs.take k) % 65521
  | 0, _ => by simp [sealAt, tot]
  | k + 1, h => by
    have hk : k < xs.length := by omega
    rw [sealAt, sealAt_eq xs k (by omega), List.take_succ_eq_append_getElem hk, tot_append, pw_eq, List.getD_eq_getElem?_getD, List.getElem?_eq_getElem hk]
    simp only [Option.getD_some, tot, List.length_take, Int.add_zero]
    rw [Nat.min_eq_left (by omega), Int.emod_add_emod, Int.add_emod, ← Int.mul_emod, ← Int.add_emod, Int.pow_succ, Int.mul_comm xs[k], Int.mul_assoc]
theorem sl_eq (xs : List Int) : sl xs = tot xs % 65521 := by rw [sl, sealAt_eq xs _ (Nat.le_refl _), List.take_length]

theorem sl_append (x y : List Int) : sl (x ++ y) = (sl x + pw x.length * sl y) % 65521 := by
  rw [sl_eq, sl_eq, sl_eq, pw_eq, tot_append]
  generalize (3 : Int) ^ x.length = p
  generalize tot x = a
  generalize tot y = b
  rw [Int.add_emod (a % 65521) (p % 65521 * (b % 65521)), ← Int.mul_emod p b, Int.emod_emod_of_dvd a (Int.dvd_refl 65521), ← Int.add_emod]
theorem sl_bd (xs : List Int) : 0 ≤ sl xs ∧ sl xs < 65521 := sealAt_bd xs _
theorem sl_nil : sl [] = 0 := rfl

theorem three_cancel : ∀ (k : Nat) (a : Int), (3 ^ k * a) % 65521 = 0 → a % 65521 = 0
  | 0, a, h => by simpa using h
  | k + 1, a, h => by
    rw [Int.pow_succ, Int.mul_assoc] at h
    have := three_cancel k (3 * a) h
    omega
theorem sl_set (x : List Int) (i : Nat) (v : Int) (hi : i < x.length) (h0 : ∀ n ∈ x, 0 ≤ n ∧ n < 65520) (hv : 0 ≤ v ∧ v < 65520) : sl (x.set i v) = sl x ↔ v = x[i] := by
  have hx : x = x.take i ++ x[i] :: x.drop (i + 1) := by rw [List.getElem_cons_drop, List.take_append_drop]
  have hs : x.set i v = x.take i ++ v :: x.drop (i + 1) := by rw [List.set_eq_take_append_cons_drop, if_pos hi]
  have e1 : tot x = tot (x.take i) + 3 ^ (x.take i).length * (3 * (x[i] + tot (x.drop (i + 1)))) := by
    conv => lhs; rw [hx]
    rw [tot_append]; rfl
  have e2 : tot (x.set i v) = tot (x.take i) + 3 ^ (x.take i).length * (3 * (v + tot (x.drop (i + 1)))) := by
    rw [hs, tot_append]; rfl
  have hb := h0 x[i] (List.getElem_mem hi)
  constructor
  · intro h
    rw [sl_eq, sl_eq, Int.emod_eq_emod_iff_emod_sub_eq_zero, e1, e2] at h
    have e3 : tot (x.take i) + 3 ^ (x.take i).length * (3 * (v + tot (x.drop (i + 1)))) - (tot (x.take i) + 3 ^ (x.take i).length * (3 * (x[i] + tot (x.drop (i + 1))))) = 3 ^ (x.take i).length * (3 * (v - x[i])) := by
      rw [Int.add_sub_add_left, ← Int.mul_sub, ← Int.mul_sub]
      congr 2
      omega
    rw [e3] at h
    have := three_cancel _ _ h
    omega
  · intro h
    rw [sl_eq, sl_eq, e1, e2, h]
end Sl
end Go.Proofs.YtckdgniecdfedaaGreatDoor
