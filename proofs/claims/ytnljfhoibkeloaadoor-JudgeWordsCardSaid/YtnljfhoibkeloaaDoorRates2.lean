/- Plain facts: the words of small whole numbers, and their quotients. No program in sight. -/
import Derived.Test.YtnljfhoibkeloaaDoorRates
namespace Go.Proofs.YtnljfhoibkeloaaDoor
namespace Fl
open Ieee
set_option linter.unusedVariables false
set_option linter.unusedSimpArgs false

/-! ### The words of small whole numbers, and their quotients -/

theorem log2_eq {n k : Nat} (h1 : 2 ^ k ≤ n) (h2 : n < 2 ^ (k + 1)) : n.log2 = k := by
  have hn : n ≠ 0 := by have := Nat.two_pow_pos k; omega
  have a1 := Nat.log2_self_le hn
  have a2 := @Nat.lt_log2_self n
  have b1 := lt_of_pow_lt (Nat.lt_of_le_of_lt h1 a2)
  have b2 := lt_of_pow_lt (Nat.lt_of_le_of_lt a1 h2)
  omega

/-- The full significand of a small number. -/
def sig (a : Nat) : Nat := a * 2 ^ (52 - a.log2)
theorem log2_lt {a : Nat} (h0 : 0 < a) (h : a < 1048576) : a.log2 < 20 := by
  have x1 : (1048576 : Nat) = 2 ^ 20 := by decide
  rw [x1] at h
  exact lt_of_pow_lt (Nat.lt_of_le_of_lt (Nat.log2_self_le (by omega)) h)
theorem sig_bd {a : Nat} (h0 : 0 < a) (h : a < 1048576) : 4503599627370496 ≤ sig a ∧ sig a < 9007199254740992 := by
  have hl := log2_lt h0 h
  have h1 := Nat.log2_self_le (show a ≠ 0 by omega)
  have h2 := @Nat.lt_log2_self a
  unfold sig
  generalize a.log2 = l at *
  have hp := Nat.two_pow_pos (52 - l)
  constructor
  · have := Nat.mul_le_mul_right (2 ^ (52 - l)) h1
    rw [← Nat.pow_add] at this
    have e : l + (52 - l) = 52 := by omega
    rw [e] at this
    have x2 : (4503599627370496 : Nat) = 2 ^ 52 := by decide
    rw [x2]; exact this
  · have := Nat.mul_lt_mul_of_pos_right h2 hp
    rw [← Nat.pow_add] at this
    have e : l + 1 + (52 - l) = 53 := by omega
    rw [e] at this
    have x2 : (9007199254740992 : Nat) = 2 ^ 53 := by decide
    rw [x2]; exact this

theorem word_key (neg : Bool) (r : Nat) (h : r < 9223372036854775808) : rung (double.word neg r) = r ∧ neg? (double.word neg r) = neg := by
  have e1 : double.signWeight = 9223372036854775808 := by decide
  unfold Format.word rung neg?
  rw [e1]
  cases neg
  · simp only [Bool.false_eq_true, if_false]
    have : r / 9223372036854775808 = 0 := by omega
    rw [this]
    exact ⟨by omega, rfl⟩
  · simp only [if_true]
    have : (9223372036854775808 + r) / 9223372036854775808 = 1 := by omega
    rw [this]
    exact ⟨by omega, rfl⟩

theorem nearest_eq (f : Format) (neg : Bool) (mag : Nat) (place last : Int) (h : mag ≠ 0) (hl : max (place + (mag.log2 : Int) - (f.fractionBits : Int)) f.leastPlace = last) :
    f.nearest neg mag place = f.word neg (min ((last - f.leastPlace).toNat * f.binade + Toward.even.cut neg (mag <<< (place - last).toNat) (last - place).toNat) f.infRung) := by
  subst hl
  unfold Format.nearest
  rw [if_neg h]
theorem cut_zero (neg : Bool) (n : Nat) : Toward.even.cut neg n 0 = n := by
  unfold Toward.cut
  simp [Nat.mod_one]
theorem dbl1 : double.infRung = 9218868437227405312 := by decide
theorem dbl2 : double.leastPlace = -1074 := by decide
theorem dbl3 : double.binade = 4503599627370496 := by decide
theorem dbl4 : double.fractionBits = 52 := by decide
theorem nearest_small (neg : Bool) (a : Nat) (h0 : 0 < a) (h : a < 1048576) :
    double.nearest neg a 0 = double.word neg ((a.log2 + 1022) * 4503599627370496 + sig a) := by
  have hl := log2_lt h0 h
  have hb := sig_bd h0 h
  rw [nearest_eq double neg a 0 ((a.log2 : Int) - 52) (by omega) (by rw [dbl2, dbl4]; omega), dbl1, dbl2, dbl3]
  have l2 : ((0 : Int) - ((a.log2 : Int) - 52)).toNat = 52 - a.log2 := by omega
  have l3 : (((a.log2 : Int) - 52) - 0).toNat = 0 := by omega
  have l4 : (((a.log2 : Int) - 52) - (-1074)).toNat = a.log2 + 1022 := by omega
  rw [l2, l3, l4, Nat.shiftLeft_eq, cut_zero]
  have e8 : a * 2 ^ (52 - a.log2) = sig a := rfl
  rw [e8, Nat.min_eq_left (by omega)]

theorem read_small (neg : Bool) (a : Nat) (h0 : 0 < a) (h : a < 1048576) :
    double.read (double.nearest neg a 0) = .number neg (sig a) ((a.log2 : Int) - 52) := by
  have hl := log2_lt h0 h
  have hb := sig_bd h0 h
  rw [nearest_small neg a h0 h]
  obtain ⟨k1, k2⟩ := word_key neg ((a.log2 + 1022) * 4503599627370496 + sig a) (by omega)
  rw [read_eq, k1, k2, if_pos (by omega)]
  have m1 : mg ((a.log2 + 1022) * 4503599627370496 + sig a) = sig a := by
    unfold mg
    rw [if_neg (by omega)]
    omega
  have m2 : qq ((a.log2 + 1022) * 4503599627370496 + sig a) = a.log2 + 1022 := by
    unfold qq
    omega
  rw [m1, m2]
  rw [show (-1074 + ((a.log2 + 1022 : Nat) : Int)) = (a.log2 : Int) - 52 from by omega]

/-- What is kept of a quotient with one digit more for what is left over. -/
theorem cut_rne (neg : Bool) (U n g : Nat) (hn : 0 < n) (hg : g = 2 ∨ g = 3) (hL : g ≤ (2 * (U / n) + (U % n != 0).toNat).log2 + 2) :
    Toward.even.cut neg (2 * (U / n) + (U % n != 0).toNat) g = rne (2 * U) (n * 2 ^ g) := by
  have hdm := Nat.div_add_mod U n
  have hmod := Nat.mod_lt U hn
  have hst : (U % n != 0).toNat = if U % n = 0 then 0 else 1 := by
    by_cases e : U % n = 0 <;> simp [e]
  unfold Toward.cut
  rw [Nat.min_eq_left hL]
  rw [hst]
  generalize hD : U / n = D at *
  generalize hr : U % n = r at *
  subst hdm
  unfold rne
  have hq : ∀ G : Nat, 0 < G → 2 * (n * D + r) / (n * (2 * G)) = D / G := by
    intro G hG
    have e : n * (2 * G) = 2 * (n * G) := by ac_rfl
    rw [e, Nat.mul_div_mul_left _ _ (by omega), ← Nat.div_div_eq_div_mul]
    rw [hD]
  have hm : ∀ G : Nat, 0 < G → 2 * (n * D + r) % (n * (2 * G)) = 2 * (n * (D % G) + r) := by
    intro G hG
    have e : n * (2 * G) = 2 * (n * G) := by ac_rfl
    rw [e, Nat.mul_mod_mul_left]
    congr 1
    have hdg := Nat.div_add_mod D G
    have hlt := Nat.mod_lt D hG
    have e2 : n * D + r = n * G * (D / G) + (n * (D % G) + r) := by
      have : n * D = n * G * (D / G) + n * (D % G) := by
        conv => lhs; rw [← hdg]
        rw [Nat.mul_add]; congr 1; ac_rfl
      omega
    rw [e2, Nat.mul_add_mod]
    refine Nat.mod_eq_of_lt ?_
    have : n * (D % G) + n ≤ n * G := by
      have := Nat.mul_le_mul_left n hlt
      rw [Nat.mul_succ] at this
      exact this
    omega
  rcases hg with rfl | rfl
  · have h1 := hq 2 (by omega)
    have h2 := hm 2 (by omega)
    have e : n * 2 ^ 2 = n * (2 * 2) := by rfl
    rw [e, h1, h2]
    have hdd : D % 2 = 0 ∨ D % 2 = 1 := by omega
    have x1 : (2 * D + if r = 0 then 0 else 1) / 4 = D / 2 := by split <;> omega
    have x2 : (2 * D + if r = 0 then 0 else 1) % 4 = 2 * (D % 2) + if r = 0 then 0 else 1 := by split <;> omega
    have e1 : (1 <<< 2 : Nat) = 4 := by rfl
    simp only [e1, x1, x2]
    congr 1
    rcases hdd with q | q <;> rw [q] <;> by_cases hz : r = 0
    · subst hz; simp; omega
    · simp only [hz, if_false]
      rw [if_neg (by omega)]
      simp
    · subst hz
      simp only [if_true, Nat.mul_one, Nat.add_zero]
      by_cases odd : D / 2 % 2 = 1
      · rw [if_pos (by right; constructor; omega; exact odd)]
        simp [odd]
      · rw [if_neg (by omega)]
        have : D / 2 % 2 = 0 := by omega
        simp [this]
    · simp only [hz, if_false, Nat.mul_one]
      rw [if_pos (by left; omega)]
      simp
  · have h1 := hq 4 (by omega)
    have h2 := hm 4 (by omega)
    have e : n * 2 ^ 3 = n * (2 * 4) := by rfl
    rw [e, h1, h2]
    have hdd : D % 4 = 0 ∨ D % 4 = 1 ∨ D % 4 = 2 ∨ D % 4 = 3 := by omega
    have x1 : (2 * D + if r = 0 then 0 else 1) / 8 = D / 4 := by split <;> omega
    have x2 : (2 * D + if r = 0 then 0 else 1) % 8 = 2 * (D % 4) + if r = 0 then 0 else 1 := by split <;> omega
    have e1 : (1 <<< 3 : Nat) = 8 := by rfl
    simp only [e1, x1, x2]
    congr 1
    rcases hdd with q | q | q | q <;> rw [q] <;> by_cases hz : r = 0
    · subst hz; simp; omega
    · simp only [hz, if_false]
      rw [if_neg (by omega)]
      simp
    · subst hz; simp only [if_true, Nat.mul_one, Nat.add_zero]
      rw [if_neg (by omega)]; simp
    · simp only [hz, if_false, Nat.mul_one]
      rw [if_neg (by omega)]
      simp
    · subst hz
      simp only [if_true, Nat.add_zero]
      by_cases odd : D / 4 % 2 = 1
      · rw [if_pos (by right; constructor; omega; exact odd)]
        simp [odd]
      · rw [if_neg (by omega)]
        have : D / 4 % 2 = 0 := by omega
        simp [this]
    · simp only [hz, if_false]
      rw [if_pos (by left; omega)]
      simp
    · subst hz
      simp only [if_true, Nat.add_zero]
      rw [if_pos (by left; omega)]; simp
    · simp only [hz, if_false]
      rw [if_pos (by left; omega)]
      simp

theorem twice (b : Nat) : b * 9007199254740992 = b * 4503599627370496 * 2 := by omega
/-- The whole numbers of a division of two full significands. -/
theorem div_parts (a b : Nat) (ha0 : 0 < a) (ha : a < 1048576) (hb0 : 0 < b) (hb : b < 1048576) :
    ∃ L, (L = 54 ∨ L = 55) ∧ (2 * (sig a * 18014398509481984 / sig b) + (sig a * 18014398509481984 % sig b != 0).toNat).log2 = L ∧
      2 * (sig a * 18014398509481984 / sig b) + (sig a * 18014398509481984 % sig b != 0).toNat ≠ 0 ∧ Kept a b (107 - L - a.log2 + b.log2) ∧
      rne (2 * (sig a * 18014398509481984)) (sig b * 2 ^ (L - 52)) = rne (a * 2 ^ (107 - L - a.log2 + b.log2)) b := by
  have hla := log2_lt ha0 ha
  have hlb := log2_lt hb0 hb
  obtain ⟨sa1, sa2⟩ := sig_bd ha0 ha
  obtain ⟨sb1, sb2⟩ := sig_bd hb0 hb
  have hn0 : sig b ≠ 0 := by omega
  -- the quotient and what is left
  have hdm := Nat.div_add_mod (sig a * 18014398509481984) (sig b)
  have hmod := Nat.mod_lt (sig a * 18014398509481984) (show 0 < sig b by omega)
  have hD1 : 9007199254740992 ≤ sig a * 18014398509481984 / sig b := by
    rw [Nat.le_div_iff_mul_le (by omega)]
    omega
  have hD2 : sig a * 18014398509481984 / sig b < 36028797018963968 := by
    rw [Nat.div_lt_iff_lt_mul (by omega)]
    omega
  obtain ⟨L, hL, hLd⟩ : ∃ L, (L = 54 ∨ L = 55) ∧ 2 ^ L ≤ 2 * (sig a * 18014398509481984 / sig b) ∧ 2 * (sig a * 18014398509481984 / sig b) + 2 ≤ 2 ^ (L + 1) := by
    rcases Nat.lt_or_ge (sig a * 18014398509481984 / sig b) (18014398509481984) with h | h
    · exact ⟨54, .inl rfl, by omega, by omega⟩
    · exact ⟨55, .inr rfl, by omega, by omega⟩
  have hst : (sig a * 18014398509481984 % sig b != 0).toNat ≤ 1 := by cases (sig a * 18014398509481984 % sig b != 0) <;> decide
  have hlog : (2 * (sig a * 18014398509481984 / sig b) + (sig a * 18014398509481984 % sig b != 0).toNat).log2 = L := log2_eq (by omega) (by omega)
  -- the scaled numbers
  have p1 : sig b * 2 ^ L = b * 4503599627370496 * 2 ^ (L - b.log2) := by
    unfold sig
    have x2 : (4503599627370496 : Nat) = 2 ^ 52 := by decide
    rw [x2, Nat.mul_assoc, Nat.mul_assoc, ← Nat.pow_add, ← Nat.pow_add]; congr 2; omega
  have p2 : sig a * 36028797018963968 = a * 2 ^ (107 - L - a.log2 + b.log2) * 2 ^ (L - b.log2) := by
    unfold sig
    have x2 : (36028797018963968 : Nat) = 2 ^ 55 := by decide
    rw [x2, Nat.mul_assoc, Nat.mul_assoc, ← Nat.pow_add, ← Nat.pow_add]; congr 2; omega
  have p3 : sig b * 2 ^ (L - 52) = b * 2 ^ (L - b.log2) := by
    unfold sig
    rw [Nat.mul_assoc, ← Nat.pow_add]; congr 2; omega
  have hc : 0 < 2 ^ (L - b.log2) := Nat.two_pow_pos _
  have hU2 : 2 * (sig a * 18014398509481984) = sig a * 36028797018963968 := by omega
  have q1 : sig b * 2 ^ L ≤ sig a * 36028797018963968 := by
    have h := Nat.mul_le_mul_left (sig b) hLd.1
    have e : sig b * (2 * (sig a * 18014398509481984 / sig b)) = 2 * (sig b * (sig a * 18014398509481984 / sig b)) := by ac_rfl
    rw [e] at h
    omega
  have q2 : sig a * 36028797018963968 < sig b * 2 ^ (L + 1) := by
    have h := Nat.mul_le_mul_left (sig b) hLd.2
    have e : sig b * (2 * (sig a * 18014398509481984 / sig b) + 2) = 2 * (sig b * (sig a * 18014398509481984 / sig b)) + 2 * sig b := by rw [Nat.mul_add]; congr 1 <;> ac_rfl
    rw [e] at h
    omega
  have hK : Kept a b (107 - L - a.log2 + b.log2) := by
    constructor
    · refine Nat.le_of_mul_le_mul_right (c := 2 ^ (L - b.log2)) ?_ hc
      exact Nat.le_trans (Nat.le_of_eq p1.symm) (Nat.le_trans q1 (Nat.le_of_eq p2))
    · refine Nat.lt_of_mul_lt_mul_right (a := 2 ^ (L - b.log2)) ?_
      have x1 := twice b
      have x3 : b * 9007199254740992 * 2 ^ (L - b.log2) = b * 4503599627370496 * 2 ^ (L - b.log2) * 2 :=
        (congrArg (· * 2 ^ (L - b.log2)) x1).trans (Nat.mul_right_comm _ _ _)
      have x4 : sig b * 2 ^ (L + 1) = sig b * 2 ^ L * 2 := by rw [Nat.pow_succ, Nat.mul_assoc]
      exact Nat.lt_of_le_of_lt (Nat.le_of_eq p2.symm) (Nat.lt_of_lt_of_le q2 (Nat.le_of_eq (x4.trans ((congrArg (· * 2) p1).trans x3.symm))))
  have hmag : 2 * (sig a * 18014398509481984 / sig b) + (sig a * 18014398509481984 % sig b != 0).toNat ≠ 0 :=
    Nat.ne_of_gt (Nat.lt_of_lt_of_le (Nat.mul_pos (by omega) (Nat.lt_of_lt_of_le (by omega) hD1)) (Nat.le_add_right _ _))
  refine ⟨L, hL, hlog, hmag, hK, ?_⟩
  have r1 := rne_scale (a * 2 ^ (107 - L - a.log2 + b.log2)) b (2 ^ (L - b.log2)) hc
  rw [← r1]
  exact congr (congrArg rne (hU2.trans p2)) p3

theorem rne_bd {a b K : Nat} (hb0 : 0 < b) (h : Kept a b K) : rne (a * 2 ^ K) b ≤ 9007199254740992 := by
  have hi1 := rne_hi (a * 2 ^ K) b hb0
  have h2 := h.hi
  generalize a * 2 ^ K = N at *
  generalize rne N b = r at *
  have : r * (2 * b) < (9007199254740992 + 1) * (2 * b) := by
    have e : (9007199254740992 + 1) * (2 * b) = 2 * (b * 9007199254740992) + 2 * b := by omega
    rw [e]; omega
  have := Nat.lt_of_mul_lt_mul_right this
  omega

theorem quot_parts (s t : Bool) (a b : Nat) (ha0 : 0 < a) (ha : a < 1048576) (hb0 : 0 < b) (hb : b < 1048576) :
    double.div (double.nearest s a 0) (double.nearest t b 0) = some (double.nearest (s ^^ t) (2 * (sig a * 18014398509481984 / sig b) + (sig a * 18014398509481984 % sig b != 0).toNat) ((a.log2 : Int) - 52 - ((b.log2 : Int) - 52) - ((54 : Nat) : Int) - 1)) := by
  obtain ⟨sa1, sa2⟩ := sig_bd ha0 ha
  obtain ⟨sb1, sb2⟩ := sig_bd hb0 hb
  have x2 : (4503599627370496 : Nat) = 2 ^ 52 := by decide
  have x3 : (9007199254740992 : Nat) = 2 ^ (52 + 1) := by decide
  have lga : (sig a).log2 = 52 := log2_eq (by rw [← x2]; exact sa1) (by rw [← x3]; exact sa2)
  have lgb : (sig b).log2 = 52 := log2_eq (by rw [← x2]; exact sb1) (by rw [← x3]; exact sb2)
  have hn0 : sig b ≠ 0 := by omega
  unfold Format.div
  rw [read_small s a ha0 ha, read_small t b hb0 hb]
  have e6 : double.fractionBits + 2 = 54 := by decide
  rw [e6]
  simp only [Datum.quotient]
  rw [if_neg hn0, lga, lgb]
  have x4 : sig a <<< (54 + 52 - 52) = sig a * 18014398509481984 := by
    have y1 : 54 + 52 - 52 = 54 := by omega
    rw [y1, Nat.shiftLeft_eq, (by decide : (2 : Nat) ^ 54 = 18014398509481984)]
  rw [x4, Option.map_some]
  rfl

theorem div_small (s t : Bool) (a b : Nat) (ha0 : 0 < a) (ha : a < 1048576) (hb0 : 0 < b) (hb : b < 1048576) :
    ∃ K, Kept a b K ∧ 32 ≤ K ∧ K ≤ 100 ∧ double.div (double.nearest s a 0) (double.nearest t b 0) = some (double.word (s ^^ t) (rungOf a b K)) := by
  have hla := log2_lt ha0 ha
  have hlb := log2_lt hb0 hb
  obtain ⟨sb1, sb2⟩ := sig_bd hb0 hb
  obtain ⟨L, hL, hlog, hmag, hK, hr⟩ := div_parts a b ha0 ha hb0 hb
  rw [quot_parts s t a b ha0 ha hb0 hb]
  have hcut := cut_rne (s ^^ t) (sig a * 18014398509481984) (sig b) (L - 52) (by omega) (by omega) (by rw [hlog]; omega)
  generalize 2 * (sig a * 18014398509481984 / sig b) + (sig a * 18014398509481984 % sig b != 0).toNat = M at *
  refine ⟨107 - L - a.log2 + b.log2, hK, by omega, by omega, ?_⟩
  have hb2 := rne_bd hb0 hK
  have hlast : max (((a.log2 : Int) - 52 - ((b.log2 : Int) - 52) - ((54 : Nat) : Int) - 1) + (M.log2 : Int) - (double.fractionBits : Int)) double.leastPlace = (a.log2 : Int) - b.log2 - 107 + L := by
    rw [dbl2, dbl4, hlog]
    omega
  rw [nearest_eq double (s ^^ t) _ _ _ hmag hlast, dbl1, dbl2, dbl3]
  have l2 : (((a.log2 : Int) - 52 - ((b.log2 : Int) - 52) - ((54 : Nat) : Int) - 1) - ((a.log2 : Int) - b.log2 - 107 + L)).toNat = 0 := by omega
  have l3 : (((a.log2 : Int) - b.log2 - 107 + L) - ((a.log2 : Int) - 52 - ((b.log2 : Int) - 52) - ((54 : Nat) : Int) - 1)).toNat = L - 52 := by omega
  have l4 : (((a.log2 : Int) - b.log2 - 107 + L) - (-1074)).toNat = 1074 - (107 - L - a.log2 + b.log2) := by omega
  rw [l2, l3, l4, Nat.shiftLeft_zero, hcut, hr]
  unfold rungOf
  rw [Nat.min_eq_left (by omega)]
theorem nearest_none (neg : Bool) (place : Int) : double.nearest neg 0 place = double.word neg 0 := by
  unfold Format.nearest
  rw [if_pos rfl]
/-- A whole number's word. -/
def ofInt (n : Int) : Nat := double.nearest (decide (n < 0)) n.natAbs 0
def nrm (x y : Int) : Int := if y < 0 then -x else x

theorem word_lt' (neg : Bool) {r : Nat} (h : r < 9223372036854775808) : double.word neg r < 18446744073709551616 := by
  have e1 : double.signWeight = 9223372036854775808 := by decide
  unfold Format.word; rw [e1]; split <;> omega
theorem word_nan (neg : Bool) {r : Nat} (h : r ≤ 9218868437227405312) : isNan (double.word neg r) = false := by
  unfold isNan; rw [(word_key neg r (by omega)).1]; exact decide_eq_false (by omega)
theorem word_key' (neg : Bool) {r : Nat} (h : r < 9223372036854775808) : key (double.word neg r) = if neg then -(r : Int) else (r : Int) := by
  rw [key_split _ (word_lt' neg h), (word_key neg r h).1, (word_key neg r h).2]

theorem rungOf_bd {a b K : Nat} (hb0 : 0 < b) (h : Kept a b K) (hK : 32 ≤ K) (hK1 : K ≤ 100) : 0 < rungOf a b K ∧ rungOf a b K < 9218868437227405312 := by
  have hi1 := rne_hi (a * 2 ^ K) b hb0
  have hr : rne (a * 2 ^ K) b ≤ 9007199254740992 := by
    have : rne (a * 2 ^ K) b * (2 * b) < (9007199254740992 + 1) * (2 * b) := by
      have e : (9007199254740992 + 1) * (2 * b) = 2 * (b * 9007199254740992) + 2 * b := by rw [Nat.add_mul, Nat.one_mul]; congr 1; ac_rfl
      rw [e]; have := h.hi; omega
    have := Nat.lt_of_mul_lt_mul_right this
    omega
  unfold rungOf
  omega

theorem rate_one (x y : Int) (hx : x.natAbs < 1048576) (hy : y.natAbs < 1048576) (y0 : y ≠ 0) :
    ∃ r, double.div (ofInt x) (ofInt y) = some r ∧ r < 18446744073709551616 ∧ isNan r = false ∧
      ((x = 0 ∧ key r = 0) ∨ (x ≠ 0 ∧ ∃ K, Kept x.natAbs y.natAbs K ∧ 32 ≤ K ∧ K ≤ 100 ∧ key r = if 0 < nrm x y then (rungOf x.natAbs y.natAbs K : Int) else -(rungOf x.natAbs y.natAbs K : Int))) := by
  by_cases x0 : x = 0
  · subst x0
    refine ⟨double.word (decide (y < 0)) 0, ?_, word_lt' _ (by omega), word_nan _ (by omega), .inl ⟨rfl, ?_⟩⟩
    · have hz : ofInt 0 = 0 := by decide
      have hn : sig y.natAbs ≠ 0 := by have := sig_bd (show 0 < y.natAbs by omega) hy; omega
      unfold Format.div
      rw [hz]
      unfold ofInt
      rw [read_small _ _ (by omega) hy]
      have hr : double.read 0 = .number false 0 (-1074) := by decide
      rw [hr]
      simp only [Datum.quotient]
      rw [if_neg hn, Nat.zero_shiftLeft, Nat.zero_div, Nat.zero_mod, Option.map_some, Bool.false_xor]
      simp only [Nat.mul_zero, bne_self_eq_false, Bool.toNat_false, Nat.add_zero]
      exact congrArg some (nearest_none _ _)
    · rw [word_key' _ (by omega)]; split <;> simp
  · obtain ⟨K, hk, k1, k2, hdiv⟩ := div_small (decide (x < 0)) (decide (y < 0)) x.natAbs y.natAbs (by omega) hx (by omega) hy
    obtain ⟨b1, b2⟩ := rungOf_bd (by omega) hk k1 k2
    refine ⟨_, hdiv, word_lt' _ (by omega), word_nan _ (by omega), .inr ⟨x0, K, hk, k1, k2, ?_⟩⟩
    rw [word_key' _ (by omega)]
    unfold nrm
    by_cases h1 : x < 0 <;> by_cases h2 : y < 0
    · rw [decide_eq_true h1, decide_eq_true h2, if_pos h2, if_pos (show 0 < -x by omega)]; exact if_neg (by decide)
    · rw [decide_eq_true h1, decide_eq_false h2, if_neg h2, if_neg (show ¬ 0 < x by omega)]; exact if_pos (by decide)
    · rw [decide_eq_false h1, decide_eq_true h2, if_pos h2, if_neg (show ¬ 0 < -x by omega)]; exact if_pos (by decide)
    · rw [decide_eq_false h1, decide_eq_false h2, if_neg h2, if_pos (show 0 < x by omega)]; exact if_neg (by decide)

theorem nrm_abs (x y : Int) : nrm x y = (x.natAbs : Int) ∨ nrm x y = -(x.natAbs : Int) := by unfold nrm; split <;> omega
theorem nrm_zero {x y : Int} : nrm x y = 0 ↔ x = 0 := by unfold nrm; split <;> omega

/-- THE ORDER OF TWO QUOTIENTS is that of their fractions. -/
theorem rate_cmp (x y z w : Int) (hx : x.natAbs < 1048576) (hy : y.natAbs < 1048576) (hz : z.natAbs < 1048576) (hw : w.natAbs < 1048576) (y0 : y ≠ 0) (w0 : w ≠ 0) :
    ∃ r s, double.div (ofInt x) (ofInt y) = some r ∧ double.div (ofInt z) (ofInt w) = some s ∧
      (double.order r s == some .lt) = decide (nrm x y * w.natAbs < nrm z w * y.natAbs) ∧ (double.order r s == some .eq) = decide (nrm x y * w.natAbs = nrm z w * y.natAbs) := by
  have hB : 0 < y.natAbs := by omega
  have hD : 0 < w.natAbs := by omega
  obtain ⟨r, hr, r64, rn, hr2⟩ := rate_one x y hx hy y0
  obtain ⟨s, hs, s64, sn, hs2⟩ := rate_one z w hz hw w0
  refine ⟨r, s, hr, hs, ?_⟩
  rw [order_lt r s r64 s64, order_eql r s r64 s64, rn, sn]
  simp only [Bool.not_false, Bool.true_and, decide_eq_decide]
  have hX := nrm_abs x y
  have hZ := nrm_abs z w
  have hX0 := @nrm_zero x y
  have hZ0 := @nrm_zero z w
  generalize hgX : nrm x y = X at *
  generalize hgZ : nrm z w = Z at *
  generalize x.natAbs = a at *
  generalize y.natAbs = b at *
  generalize z.natAbs = c at *
  generalize w.natAbs = d at *
  -- signs of products
  have sgnp : ∀ (n : Int) (m : Nat), 0 < m → (0 < n → 0 < n * m) ∧ (n < 0 → n * m < 0) ∧ (n = 0 → n * m = 0) := by
    intro n m hm
    refine ⟨fun h => Int.mul_pos h (by omega), fun h => Int.mul_neg_of_neg_of_pos h (by omega), fun h => by rw [h, Int.zero_mul]⟩
  obtain ⟨u1, u2, u3⟩ := sgnp X d hD
  obtain ⟨v1, v2, v3⟩ := sgnp Z b hB
  rcases hr2 with ⟨x0, kr⟩ | ⟨x0, K, hk, k1, k2, kr⟩
  · have X0 : X = 0 := hX0.2 x0
    rcases hs2 with ⟨z0, ks⟩ | ⟨z0, K', hk', k1', k2', ks⟩
    · have Z0 : Z = 0 := hZ0.2 z0
      rw [kr, ks, u3 X0, v3 Z0]; omega
    · have Z0 : Z ≠ 0 := fun h => z0 (hZ0.1 h)
      obtain ⟨g1, g2⟩ := rungOf_bd hD hk' k1' k2'
      rw [kr, ks, u3 X0]
      generalize rungOf c d K' = R at *
      by_cases hp : 0 < Z
      · have := v1 hp; rw [if_pos hp]; omega
      · have := v2 (by omega); rw [if_neg hp]; omega
  · have X0 : X ≠ 0 := fun h => x0 (hX0.1 h)
    obtain ⟨f1, f2⟩ := rungOf_bd hB hk k1 k2
    rcases hs2 with ⟨z0, ks⟩ | ⟨z0, K', hk', k1', k2', ks⟩
    · have Z0 : Z = 0 := hZ0.2 z0
      rw [kr, ks, v3 Z0]
      generalize rungOf a b K = R at *
      by_cases hp : 0 < X
      · have := u1 hp; rw [if_pos hp]; omega
      · have := u2 (by omega); rw [if_neg hp]; omega
    · have Z0 : Z ≠ 0 := fun h => z0 (hZ0.1 h)
      obtain ⟨g1, g2⟩ := rungOf_bd hD hk' k1' k2'
      have L1 : a * d < c * b → rungOf a b K < rungOf c d K' := fun h => rung_lt hB hD hx hy hz hw k1' (by omega) hk hk' h
      have L2 : c * b < a * d → rungOf c d K' < rungOf a b K := fun h => rung_lt hD hB hz hw hx hy k1 (by omega) hk' hk h
      have L3 : a * d = c * b → rungOf a b K = rungOf c d K' := fun h => rung_eq hB hD hk hk' h
      have c1 : ((a * d : Nat) : Int) = (a : Int) * d := Int.natCast_mul _ _
      have c2 : ((c * b : Nat) : Int) = (c : Int) * b := Int.natCast_mul _ _
      rw [kr, ks]
      generalize rungOf a b K = R at *
      generalize rungOf c d K' = S at *
      have tri := Nat.lt_trichotomy (a * d) (c * b)
      by_cases hp : 0 < X <;> by_cases hq : 0 < Z
      · obtain rfl : X = (a : Int) := by omega
        obtain rfl : Z = (c : Int) := by omega
        rw [if_pos hp, if_pos hq, ← c1, ← c2]
        generalize a * d = p at *; generalize c * b = q at *
        rcases tri with t | t | t
        · have := L1 t; omega
        · have := L3 t; omega
        · have := L2 t; omega
      · have h1 := u1 hp; have h2 := v2 (by omega)
        rw [if_pos hp, if_neg hq]; omega
      · have h1 := u2 (by omega); have h2 := v1 hq
        rw [if_neg hp, if_pos hq]; omega
      · obtain rfl : X = -(a : Int) := by omega
        obtain rfl : Z = -(c : Int) := by omega
        rw [if_neg hp, if_neg hq, Int.neg_mul, Int.neg_mul, ← c1, ← c2]
        generalize a * d = p at *; generalize c * b = q at *
        rcases tri with t | t | t
        · have := L1 t; omega
        · have := L3 t; omega
        · have := L2 t; omega

/-- A quotient by zero. -/
theorem rate_zero (x : Int) (hx : x.natAbs < 1048576) : double.div (ofInt x) (ofInt 0) = if x = 0 then none else some (double.word (decide (x < 0)) 9218868437227405312) := by
  have hz : ofInt 0 = 0 := by decide
  have hr : double.read 0 = .number false 0 (-1074) := by decide
  by_cases x0 : x = 0
  · subst x0; rw [if_pos rfl, hz]; decide
  · rw [if_neg x0, hz]
    unfold Format.div ofInt
    rw [read_small _ _ (by omega) hx, hr]
    have hn : sig x.natAbs ≠ 0 := by have := sig_bd (show 0 < x.natAbs by omega) hx; omega
    simp only [Datum.quotient]
    rw [if_pos trivial, if_neg hn, Option.map_some, Bool.xor_false]
    exact congrArg some (congrArg (double.word _) dbl1)
end Fl
end Go.Proofs.YtnljfhoibkeloaaDoor
