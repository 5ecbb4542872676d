/- Plain facts about the division of small whole numbers as binary floating-point words: the order of two quotients is that of their fractions. No program in sight. -/
import Derived.Test.YtnljfhoibkeloaaDoorFloats
namespace Go.Proofs.YtnljfhoibkeloaaDoor
namespace Fl
open Ieee
set_option linter.unusedVariables false
set_option linter.unusedSimpArgs false

/-- A fraction rounded to the nearest whole number, ties to even. -/
def rne (N D : Nat) : Nat := N / D + (if D < 2 * (N % D) ∨ (2 * (N % D) = D ∧ N / D % 2 = 1) then 1 else 0)

theorem rne_hi (N D : Nat) (hD : 0 < D) : rne N D * (2 * D) ≤ 2 * N + D := by
  unfold rne
  have h := Nat.div_add_mod N D
  have hm := Nat.mod_lt N hD
  generalize N / D = q at *
  generalize N % D = r at *
  have e : (q + 1) * (2 * D) = 2 * (D * q) + 2 * D := by rw [Nat.add_mul, Nat.one_mul]; congr 1; ac_rfl
  have e0 : q * (2 * D) = 2 * (D * q) := by ac_rfl
  split
  · rw [e]; omega
  · rw [Nat.add_zero, e0]; omega
theorem rne_lo (N D : Nat) (hD : 0 < D) : 2 * N ≤ rne N D * (2 * D) + D := by
  unfold rne
  have h := Nat.div_add_mod N D
  have hm := Nat.mod_lt N hD
  generalize N / D = q at *
  generalize N % D = r at *
  have e : (q + 1) * (2 * D) = 2 * (D * q) + 2 * D := by rw [Nat.add_mul, Nat.one_mul]; congr 1; ac_rfl
  have e0 : q * (2 * D) = 2 * (D * q) := by ac_rfl
  split
  · rw [e]; omega
  · rw [Nat.add_zero, e0]; omega
theorem rne_scale (N D c : Nat) (hc : 0 < c) : rne (N * c) (D * c) = rne N D := by
  unfold rne
  rw [Nat.mul_div_mul_right _ _ hc, Nat.mul_mod_mul_right]
  have h1 : D * c < 2 * (N % D * c) ↔ D < 2 * (N % D) := by
    rw [← Nat.mul_assoc]; exact Nat.mul_lt_mul_right hc
  have h2 : 2 * (N % D * c) = D * c ↔ 2 * (N % D) = D := by
    rw [← Nat.mul_assoc]; exact Nat.mul_right_cancel_iff hc
  simp only [h1, h2]

/-- What is kept of a fraction 'a / b': K places, and the rounded number. -/
structure Kept (a b K : Nat) : Prop where
  lo : b * 4503599627370496 ≤ a * 2 ^ K
  hi : a * 2 ^ K < b * 9007199254740992
def rungOf (a b K : Nat) : Nat := (1074 - K) * 4503599627370496 + rne (a * 2 ^ K) b

theorem pow_le_pow {a b : Nat} (h : a ≤ b) : 2 ^ a ≤ 2 ^ b := Nat.pow_le_pow_right (by omega) h
theorem lt_of_pow_lt {a b : Nat} (h : 2 ^ a < 2 ^ b) : a < b := (Nat.pow_lt_pow_iff_right (by omega)).1 h

theorem kept_le {a b c d K K' : Nat} (hb : 0 < b) (hd : 0 < d) (h : Kept a b K) (h' : Kept c d K') (hle : a * d ≤ c * b) : K' ≤ K := by
  -- c 2^K' < d 2^53, b 2^52 ≤ a 2^K
  have h1 : c * b * 2 ^ K' < d * b * 9007199254740992 := by
    have := Nat.mul_lt_mul_of_pos_right h'.hi hb
    calc c * b * 2 ^ K' = c * 2 ^ K' * b := by ac_rfl
      _ < d * 9007199254740992 * b := this
      _ = d * b * 9007199254740992 := by ac_rfl
  have h2 : d * b * 4503599627370496 ≤ a * d * 2 ^ K := by
    have := Nat.mul_le_mul_right d h.lo
    calc d * b * 4503599627370496 = b * 4503599627370496 * d := by ac_rfl
      _ ≤ a * 2 ^ K * d := this
      _ = a * d * 2 ^ K := by ac_rfl
  have h3 : a * d * 2 ^ K ≤ c * b * 2 ^ K := Nat.mul_le_mul_right _ hle
  have h4 : c * b * 2 ^ K' < c * b * 2 ^ (K + 1) := by
    have e : c * b * 2 ^ (K + 1) = 2 * (c * b * 2 ^ K) := by rw [Nat.pow_succ]; ac_rfl
    have e2 : d * b * 9007199254740992 = 2 * (d * b * 4503599627370496) := by omega
    rw [e]; omega
  have := lt_of_pow_lt (Nat.lt_of_mul_lt_mul_left h4)
  omega

theorem rung_eq {a b c d K K' : Nat} (hb : 0 < b) (hd : 0 < d) (h : Kept a b K) (h' : Kept c d K') (he : a * d = c * b) : rungOf a b K = rungOf c d K' := by
  have h1 := kept_le hb hd h h' (Nat.le_of_eq he)
  have h2 := kept_le hd hb h' h (Nat.le_of_eq he.symm)
  obtain rfl : K = K' := by omega
  unfold rungOf
  congr 1
  rw [← rne_scale (a * 2 ^ K) b d hd, ← rne_scale (c * 2 ^ K) d b hb]
  have e1 : a * 2 ^ K * d = c * 2 ^ K * b := by
    calc a * 2 ^ K * d = a * d * 2 ^ K := by ac_rfl
      _ = c * b * 2 ^ K := by rw [he]
      _ = c * 2 ^ K * b := by ac_rfl
  rw [e1, Nat.mul_comm b d]

theorem den_lt {a b K : Nat} (ha : a < 1048576) (hK : 32 ≤ K) (h : Kept a b K) : b < 2 ^ (K - 32) := by
  have h1 : b * 4503599627370496 < 1048576 * 2 ^ K := Nat.lt_of_le_of_lt h.lo (Nat.mul_lt_mul_of_pos_right ha (Nat.two_pow_pos _))
  have h2 : 1048576 * 2 ^ K = 2 ^ (K - 32) * 4503599627370496 := by
    have x1 : (1048576 : Nat) = 2 ^ 20 := by decide
    have x2 : (4503599627370496 : Nat) = 2 ^ 52 := by decide
    rw [x1, x2, ← Nat.pow_add, ← Nat.pow_add]; congr 1; omega
  rw [h2] at h1
  exact Nat.lt_of_mul_lt_mul_right h1

theorem dens {a b c d K K' : Nat} (ha : a < 1048576) (hb : b < 1048576) (hc : c < 1048576) (hd : d < 1048576) (hK' : 32 ≤ K') (hle : K' ≤ K) (h : Kept a b K) (h' : Kept c d K') :
    b * d < 2 ^ K ∧ (K' < K → 2 * (b * d) ≤ 2 ^ K) := by
  have b1 := den_lt ha (by omega) h
  have d1 := den_lt hc hK' h'
  by_cases hk : K ≤ 64
  · have h1 : b * d < 2 ^ (K - 32) * 2 ^ (K' - 32) := Nat.mul_lt_mul'' b1 d1
    rw [← Nat.pow_add] at h1
    refine ⟨Nat.lt_of_lt_of_le h1 (pow_le_pow (by omega)), fun hlt => ?_⟩
    have h2 := Nat.lt_of_lt_of_le h1 (pow_le_pow (by omega : K - 32 + (K' - 32) ≤ K - 1))
    have h3 : 2 ^ K = 2 * 2 ^ (K - 1) := by rw [← Nat.pow_succ']; congr 1; omega
    omega
  · have h1 : b * d < 1048576 * 1048576 := Nat.mul_lt_mul'' hb hd
    have x1 : (1048576 * 1048576 : Nat) = 2 ^ 40 := by decide
    rw [x1] at h1
    have h2 := Nat.lt_of_lt_of_le h1 (pow_le_pow (by omega : 40 ≤ K - 1))
    have h3 : 2 ^ K = 2 * 2 ^ (K - 1) := by rw [← Nat.pow_succ']; congr 1; omega
    omega

theorem rung_lt {a b c d K K' : Nat} (hb0 : 0 < b) (hd0 : 0 < d) (ha : a < 1048576) (hb : b < 1048576) (hc : c < 1048576) (hd : d < 1048576) (hK' : 32 ≤ K') (hK1 : K ≤ 1000) (h : Kept a b K) (h' : Kept c d K')
    (hlt : a * d < c * b) : rungOf a b K < rungOf c d K' := by
  have hle := kept_le hb0 hd0 h h' (Nat.le_of_lt hlt)
  obtain ⟨g1, g2⟩ := dens ha hb hc hd hK' hle h h'
  have hi1 := rne_hi (a * 2 ^ K) b hb0
  have lo2 := rne_lo (c * 2 ^ K') d hd0
  have hr1 : rne (a * 2 ^ K) b ≤ 9007199254740992 := by
    have : rne (a * 2 ^ K) b * (2 * b) < (9007199254740992 + 1) * (2 * b) := by
      have e : (9007199254740992 + 1) * (2 * b) = 2 * (b * 9007199254740992) + 2 * b := by rw [Nat.add_mul, Nat.one_mul]; congr 1; ac_rfl
      rw [e]; have := h.hi; omega
    have := Nat.lt_of_mul_lt_mul_right this
    omega
  have hr2 : 4503599627370496 ≤ rne (c * 2 ^ K') d := by
    have : 4503599627370496 * (2 * d) < (rne (c * 2 ^ K') d + 1) * (2 * d) := by
      have e : (rne (c * 2 ^ K') d + 1) * (2 * d) = rne (c * 2 ^ K') d * (2 * d) + 2 * d := by rw [Nat.add_mul, Nat.one_mul]
      have e2 : 4503599627370496 * (2 * d) = 2 * (d * 4503599627370496) := by ac_rfl
      rw [e, e2]; have := h'.lo; omega
    have := Nat.lt_of_mul_lt_mul_right this
    omega
  have hstep : a * 2 ^ K * d + 2 ^ K ≤ c * 2 ^ K * b := by
    have : (a * d + 1) * 2 ^ K ≤ c * b * 2 ^ K := Nat.mul_le_mul_right _ hlt
    have e1 : (a * d + 1) * 2 ^ K = a * 2 ^ K * d + 2 ^ K := by rw [Nat.add_mul, Nat.one_mul]; congr 1; ac_rfl
    have e2 : c * b * 2 ^ K = c * 2 ^ K * b := by ac_rfl
    rw [e1, e2] at this; exact this
  unfold rungOf
  generalize hR1 : rne (a * 2 ^ K) b = r1 at *
  generalize hR2 : rne (c * 2 ^ K') d = r2 at *
  -- d * (2 N1 + b) ≥ d * r1 * 2 b
  have m1 : r1 * (2 * (b * d)) ≤ 2 * (a * 2 ^ K * d) + b * d := by
    have := Nat.mul_le_mul_right d hi1
    have e1 : r1 * (2 * b) * d = r1 * (2 * (b * d)) := by ac_rfl
    have e2 : (2 * (a * 2 ^ K) + b) * d = 2 * (a * 2 ^ K * d) + b * d := by rw [Nat.add_mul, Nat.mul_assoc]
    rw [e1, e2] at this; exact this
  have m2 : 2 * (c * 2 ^ K' * b) ≤ r2 * (2 * (b * d)) + b * d := by
    have := Nat.mul_le_mul_right b lo2
    have e1 : (r2 * (2 * d) + d) * b = r2 * (2 * (b * d)) + b * d := by
      rw [Nat.add_mul]; congr 1 <;> ac_rfl
    have e2 : 2 * (c * 2 ^ K') * b = 2 * (c * 2 ^ K' * b) := by ac_rfl
    rw [e1, e2] at this; exact this
  have hp : 0 < 2 ^ K := Nat.two_pow_pos _
  rcases Nat.lt_or_ge K' K with hk | hk
  · by_cases hk2 : K' + 2 ≤ K
    · omega
    · obtain rfl : K = K' + 1 := by omega
      rcases Nat.lt_or_ge r1 9007199254740992 with q | q
      · omega
      · rcases Nat.lt_or_ge 4503599627370496 r2 with q2 | q2
        · omega
        · exfalso
          obtain rfl : r1 = 9007199254740992 := by omega
          obtain rfl : r2 = 4503599627370496 := by omega
          have e3 : c * 2 ^ (K' + 1) * b = 2 * (c * 2 ^ K' * b) := by rw [Nat.pow_succ]; ac_rfl
          have g3 := g2 hk
          rw [e3] at hstep
          omega
  · obtain rfl : K' = K := by omega
    have hlt2 : r1 < r2 := by
      rcases Nat.lt_or_ge r1 r2 with q | q
      · exact q
      · exfalso
        have m3 : r2 * (2 * (b * d)) ≤ r1 * (2 * (b * d)) := Nat.mul_le_mul_right _ q
        have bd : 0 < b * d := Nat.mul_pos hb0 hd0
        omega
    omega

end Fl
end Go.Proofs.YtnljfhoibkeloaaDoor
