/- Plain facts about the order of binary floating-point words: the order of two words that are no NaNs is that of their signed rungs. No program in sight. -/
import Derived.WalkKit
import Derived.WalkLawsBesides
namespace Go.Proofs.Ytnljfhoibkeloaa
namespace Fl
open Ieee
set_option linter.unusedVariables false
set_option linter.unusedSimpArgs false

/-- A word's lower bits. -/
def rung (b : Nat) : Nat := b % 9223372036854775808
/-- Is it a NaN's? -/
def isNan (b : Nat) : Bool := decide (9218868437227405312 < rung b)
/-- The signed rung. -/
def key (b : Nat) : Int := if b < 9223372036854775808 then (b : Int) else -((b : Int) - 9223372036854775808)

def mg (r : Nat) : Nat := if r < 4503599627370496 then r else 4503599627370496 + r % 4503599627370496
def qq (r : Nat) : Nat := r / 4503599627370496 - 1
def V (r : Nat) : Nat := mg r * 2 ^ qq r

theorem pow_split {a b : Nat} (h : a ≤ b) : 2 ^ b = 2 ^ a * 2 ^ (b - a) := by
  rw [← Nat.pow_add]; congr 1; omega

theorem V_lt {r s : Nat} (h : r < s) : V r < V s := by
  unfold V
  by_cases e : qq r = qq s
  · rw [e]
    have hp : 0 < 2 ^ qq s := Nat.two_pow_pos _
    refine Nat.mul_lt_mul_of_pos_right ?_ hp
    unfold mg qq at *
    split <;> split <;> omega
  · have hq : qq r + 1 ≤ qq s := by
      unfold qq at *
      have : r / 4503599627370496 ≤ s / 4503599627370496 := Nat.div_le_div_right (Nat.le_of_lt h)
      omega
    have h1 : mg r < 2 * 4503599627370496 := by unfold mg; split <;> omega
    have h2 : 4503599627370496 ≤ mg s := by
      unfold mg qq at *
      split <;> omega
    rw [pow_split hq, Nat.pow_succ]
    have hp : 0 < 2 ^ qq r := Nat.two_pow_pos _
    have hp2 : 0 < 2 ^ (qq s - (qq r + 1)) := Nat.two_pow_pos _
    calc mg r * 2 ^ qq r < (2 * 4503599627370496) * 2 ^ qq r := Nat.mul_lt_mul_of_pos_right h1 hp
      _ = 4503599627370496 * (2 ^ qq r * 2) := by rw [Nat.mul_assoc, Nat.mul_left_comm, Nat.mul_comm (2 ^ qq r) 2]
      _ ≤ mg s * (2 ^ qq r * 2) := Nat.mul_le_mul_right _ h2
      _ = mg s * (2 ^ qq r * 2 * 1) := by rw [Nat.mul_one]
      _ ≤ mg s * (2 ^ qq r * 2 * 2 ^ (qq s - (qq r + 1))) := Nat.mul_le_mul_left _ (Nat.mul_le_mul_left _ hp2)

theorem V_lt_iff {r s : Nat} : V r < V s ↔ r < s := by
  constructor
  · intro h
    rcases Nat.lt_trichotomy r s with h1 | h1 | h1
    · exact h1
    · subst h1; omega
    · have := V_lt h1; omega
  · exact V_lt
theorem V_eq_iff {r s : Nat} : V r = V s ↔ r = s := by
  constructor
  · intro h
    rcases Nat.lt_trichotomy r s with h1 | h1 | h1
    · have := V_lt h1; omega
    · exact h1
    · have := V_lt h1; omega
  · rintro rfl; rfl
theorem V_zero : V 0 = 0 := by decide

theorem signed_scale (s : Bool) (m e k : Nat) : signed s m (e + k) = signed s m e * (2 ^ k : Nat) := by
  unfold signed
  rw [Nat.shiftLeft_eq, Nat.shiftLeft_eq, Nat.pow_add, ← Nat.mul_assoc]
  cases s
  · simp only [Bool.false_eq_true, if_false]; exact Int.natCast_mul _ _
  · simp only [if_true]; rw [Int.natCast_mul (m * 2 ^ e), Int.neg_mul]

theorem cmp_int (a b : Int) : compare a b = if a < b then .lt else if a = b then .eq else .gt := rfl

theorem cmp_scale (a b : Int) (k : Nat) (hk : 0 < k) : compare (a * k) (b * k) = compare a b := by
  rw [cmp_int, cmp_int]
  have hk' : (0 : Int) < k := by omega
  have h1 : a * k < b * k ↔ a < b := ⟨fun h => Int.lt_of_mul_lt_mul_right h (Int.le_of_lt hk'), fun h => Int.mul_lt_mul_of_pos_right h hk'⟩
  have h2 : a * k = b * k ↔ a = b := ⟨fun h => Int.eq_of_mul_eq_mul_right (by omega) h, fun h => by rw [h]⟩
  simp only [h1, h2]

/-- Two finite data of the format. -/
theorem order_numbers (s t : Bool) (m n i j : Nat) (l : Int) :
    (Datum.number s m (l + i)).order (.number t n (l + j)) = some (compare (signed s m i) (signed t n j)) := by
  simp only [Datum.order]
  congr 1
  rcases Nat.le_total i j with h | h
  · have e1 : (l + (i : Int) - min (l + i) (l + j)).toNat = 0 := by omega
    have e2 : (l + (j : Int) - min (l + i) (l + j)).toNat = j - i := by omega
    rw [e1, e2]
    have a1 := signed_scale s m 0 i
    have a2 := signed_scale t n (j - i) i
    rw [Nat.zero_add] at a1
    rw [Nat.sub_add_cancel h] at a2
    rw [a1, a2, cmp_scale _ _ _ (Nat.two_pow_pos _)]
  · have e1 : (l + (i : Int) - min (l + i) (l + j)).toNat = i - j := by omega
    have e2 : (l + (j : Int) - min (l + i) (l + j)).toNat = 0 := by omega
    rw [e1, e2]
    have a1 := signed_scale s m (i - j) j
    have a2 := signed_scale t n 0 j
    rw [Nat.sub_add_cancel h] at a1
    rw [Nat.zero_add] at a2
    rw [a1, a2, cmp_scale _ _ _ (Nat.two_pow_pos _)]

def neg? (b : Nat) : Bool := b / 9223372036854775808 % 2 == 1

theorem read_eq (b : Nat) : double.read b =
    if rung b < 9218868437227405312 then .number (neg? b) (mg (rung b)) (-1074 + qq (rung b))
    else if rung b = 9218868437227405312 then .infinity (neg? b) else .nan (neg? b) (rung b - 9218868437227405312) := by
  have e1 : double.signWeight = 9223372036854775808 := by decide
  have e2 : double.binade = 4503599627370496 := by decide
  have e3 : double.infRung = 9218868437227405312 := by decide
  have e4 : double.leastPlace = -1074 := by decide
  unfold Format.read
  rw [e1, e2, e3, e4]
  simp only []
  change (if rung b < 4503599627370496 then Datum.number (neg? b) (rung b) (-1074)
    else if rung b < 9218868437227405312 then Datum.number (neg? b) (4503599627370496 + rung b % 4503599627370496) (-1074 + ((rung b / 4503599627370496 - 1 : Nat) : Int))
    else if rung b = 9218868437227405312 then Datum.infinity (neg? b) else Datum.nan (neg? b) (rung b - 9218868437227405312)) = _
  by_cases h1 : rung b < 4503599627370496
  · rw [if_pos h1, if_pos (by omega)]
    have a1 : mg (rung b) = rung b := by unfold mg; rw [if_pos h1]
    have a2 : qq (rung b) = 0 := by unfold qq; omega
    rw [a1, a2]; rfl
  · rw [if_neg h1]
    have a1 : mg (rung b) = 4503599627370496 + rung b % 4503599627370496 := by unfold mg; rw [if_neg h1]
    rw [a1]; rfl

theorem signed_V (s : Bool) (r : Nat) : signed s (mg r) (qq r) = if s then -(V r : Int) else (V r : Int) := by
  unfold signed V
  rw [Nat.shiftLeft_eq]

theorem key_split (b : Nat) (h : b < 18446744073709551616) : key b = if neg? b then -(rung b : Int) else (rung b : Int) := by
  unfold key neg? rung
  by_cases hb : b < 9223372036854775808
  · have e : b / 9223372036854775808 = 0 := by omega
    rw [if_pos hb, e]; simp; omega
  · have e : b / 9223372036854775808 = 1 := by omega
    rw [if_neg hb, e]; simp; omega

theorem cmp_signs (s t : Bool) (r u : Nat) :
    compare (if s then -(V r : Int) else (V r : Int)) (if t then -(V u : Int) else (V u : Int)) = compare (if s then -(r : Int) else (r : Int)) (if t then -(u : Int) else (u : Int)) := by
  have h1 := @V_lt_iff r u
  have h2 := @V_lt_iff u r
  have h3 := @V_eq_iff r u
  have p1 : V r = 0 ↔ r = 0 := by have := @V_eq_iff r 0; rw [V_zero] at this; exact this
  have p2 : V u = 0 ↔ u = 0 := by have := @V_eq_iff u 0; rw [V_zero] at this; exact this
  have key : ∀ a b c d : Int, (a < b ↔ c < d) → (a = b ↔ c = d) → compare a b = compare c d := by
    intro a b c d x y; rw [cmp_int, cmp_int]; simp only [x, y]
  refine key _ _ _ _ ?_ ?_ <;> cases s <;> cases t <;> simp only [Bool.false_eq_true, if_false, if_true] <;> omega

/-- THE ORDER OF TWO WORDS. -/
theorem order_eq (a b : Nat) (ha : a < 18446744073709551616) (hb : b < 18446744073709551616) :
    double.order a b = if isNan a || isNan b then none else some (compare (key a) (key b)) := by
  unfold Format.order
  rw [read_eq, read_eq, key_split a ha, key_split b hb]
  unfold isNan
  have ra : rung a < 9223372036854775808 := Nat.mod_lt _ (by omega)
  have rb : rung b < 9223372036854775808 := Nat.mod_lt _ (by omega)
  generalize hra : rung a = r at *
  generalize hrb : rung b = u at *
  generalize neg? a = s
  generalize neg? b = t
  rcases Nat.lt_trichotomy r 9218868437227405312 with h1 | h1 | h1
  · have d1 : decide (9218868437227405312 < r) = false := by simp; omega
    rw [if_pos h1, d1]
    rcases Nat.lt_trichotomy u 9218868437227405312 with h2 | h2 | h2
    · have d2 : decide (9218868437227405312 < u) = false := by simp; omega
      rw [if_pos h2, d2, order_numbers, signed_V, signed_V, cmp_signs]
      simp
    · have d2 : decide (9218868437227405312 < u) = false := by simp; omega
      rw [if_neg (by omega), if_pos h2, d2, cmp_int]
      cases s <;> cases t <;> simp [Datum.order] <;> first | (rw [if_pos (by omega)]) | (rw [if_neg (by omega), if_neg (by omega)]) | (intro _; omega)
    · have d2 : decide (9218868437227405312 < u) = true := by simp; omega
      rw [if_neg (by omega), if_neg (by omega), d2]
      simp [Datum.order]
  · have d1 : decide (9218868437227405312 < r) = false := by simp; omega
    rw [if_neg (by omega), if_pos h1, d1]
    rcases Nat.lt_trichotomy u 9218868437227405312 with h2 | h2 | h2
    · have d2 : decide (9218868437227405312 < u) = false := by simp; omega
      rw [if_pos h2, d2, cmp_int]
      cases s <;> cases t <;> simp [Datum.order] <;> first | (rw [if_pos (by omega)]) | (rw [if_neg (by omega), if_neg (by omega)]) | (intro _; omega)
    · have d2 : decide (9218868437227405312 < u) = false := by simp; omega
      rw [if_neg (by omega), if_pos h2, d2, h1, h2]
      cases s <;> cases t <;> decide
    · have d2 : decide (9218868437227405312 < u) = true := by simp; omega
      rw [if_neg (by omega), if_neg (by omega), d2]
      simp [Datum.order]
  · have d1 : decide (9218868437227405312 < r) = true := by simp; omega
    rw [if_neg (by omega), if_neg (by omega), d1]
    simp [Datum.order]

theorem cmp_lt (x y : Int) : (some (compare x y) == some Ordering.lt) = decide (x < y) := by
  rw [cmp_int]
  by_cases h : x < y
  · rw [if_pos h, decide_eq_true h]; rfl
  · rw [if_neg h, decide_eq_false h]; split <;> rfl
theorem cmp_gt (x y : Int) : (some (compare x y) == some Ordering.gt) = decide (y < x) := by
  rw [cmp_int]
  by_cases h : y < x
  · rw [if_neg (by omega), if_neg (by omega), decide_eq_true h]; rfl
  · rw [decide_eq_false h]
    split
    · rfl
    · rw [if_pos (by omega)]; rfl
theorem cmp_eq (x y : Int) : (some (compare x y) == some Ordering.eq) = decide (x = y) := by
  rw [cmp_int]
  by_cases h : x = y
  · rw [if_neg (by omega), if_pos h, decide_eq_true h]; rfl
  · rw [decide_eq_false h]
    split
    · rfl
    · rfl
theorem order_lt (a b : Nat) (ha : a < 18446744073709551616) (hb : b < 18446744073709551616) :
    (double.order a b == some .lt) = (!isNan a && !isNan b && decide (key a < key b)) := by
  rw [order_eq a b ha hb, ← cmp_lt]
  cases isNan a <;> cases isNan b <;> rfl
theorem order_gt (a b : Nat) (ha : a < 18446744073709551616) (hb : b < 18446744073709551616) :
    (double.order a b == some .gt) = (!isNan a && !isNan b && decide (key b < key a)) := by
  rw [order_eq a b ha hb, ← cmp_gt]
  cases isNan a <;> cases isNan b <;> rfl
theorem order_eql (a b : Nat) (ha : a < 18446744073709551616) (hb : b < 18446744073709551616) :
    (double.order a b == some .eq) = (!isNan a && !isNan b && decide (key a = key b)) := by
  rw [order_eq a b ha hb, ← cmp_eq]
  cases isNan a <;> cases isNan b <;> rfl

end Fl
end Go.Proofs.Ytnljfhoibkeloaa
