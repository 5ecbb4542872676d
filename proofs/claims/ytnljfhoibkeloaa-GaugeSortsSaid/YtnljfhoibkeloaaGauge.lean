/- Contracts for the functions of package gauge (class, order, rate, since), and for the reference's class and order. -/
import Derived.Test.YtnljfhoibkeloaaRows
import Derived.Test.YtnljfhoibkeloaaFloats
import Derived.WalkKit
import Derived.WalkSpells
import Derived.WalkLawsBesides
import Derived.Lib.Hide
namespace Go.Proofs.Ytnljfhoibkeloaa
open Go.RowKit
set_option linter.unusedVariables false
set_option linter.unusedSimpArgs false
namespace Ga
open Fl
theorem run_frombits (n : Int) (w : World) : (callFunc 14 #[.int .u64 n]).run Try.prog w = .ok (.value (.float .f64 n.toNat)) w := by
  rw [run_callFunc_extern Try.func14 (by kernel_rfl) (by kernel_rfl) (by kernel_rfl) (e := Extern.MathFloatBits.float64frombits) (by kernel_rfl)]
  rfl
theorem run_tobits (n : Nat) (w : World) : (callFunc 33 #[.float .f64 n]).run Try.prog w = .ok (.value (.int .u64 n)) w := by
  rw [run_callFunc_extern Try.func33 (by kernel_rfl) (by kernel_rfl) (by kernel_rfl) (e := Extern.MathFloatBits.float64bits) (by kernel_rfl)]
  rfl

/-- The class of a word, as the reference says. -/
def cls (b : Nat) : Int :=
  if 9218868437227405312 < rung b then 6
  else if 9223372036854775808 ≤ b then (if rung b = 9218868437227405312 then 0 else if 0 < rung b then 1 else 2)
  else if rung b = 9218868437227405312 then 5 else if 0 < rung b then 4 else 3

def ltz (b : Nat) : Bool := !isNan b && decide (key b < 0)
def gtz (b : Nat) : Bool := !isNan b && decide (0 < key b)
def sgn (b : Nat) : Bool := decide (9223372036854775808 ≤ b)
def ninf (b : Nat) : Bool := decide (b = 18442240474082181120)
def pinf (b : Nat) : Bool := decide (b = 9218868437227405312)

theorem ne_self (a : Nat) (ha : a < 18446744073709551616) : (Ieee.double.order a a != some .eq) = isNan a := by
  have h := order_eql a a ha ha
  show (!(Ieee.double.order a a == some .eq)) = _
  rw [h]
  cases isNan a <;> simp
theorem isNan_lit0 : isNan 0 = false := by unfold isNan rung; exact decide_eq_false (by omega)
theorem key_lit0 : key 0 = 0 := by unfold key; rw [if_pos (by omega)]; rfl
theorem lt_zero (a : Nat) (ha : a < 18446744073709551616) : (Ieee.double.order a 0 == some .lt) = ltz a := by
  rw [order_lt a 0 ha (by omega), isNan_lit0, key_lit0]
  unfold ltz; cases isNan a <;> rfl
theorem gt_zero (a : Nat) (ha : a < 18446744073709551616) : (Ieee.double.order a 0 == some .gt) = gtz a := by
  rw [order_gt a 0 ha (by omega), isNan_lit0, key_lit0]
  unfold gtz; cases isNan a <;> rfl
theorem isNan_max : isNan 9218868437227405311 = false := by unfold isNan rung; exact decide_eq_false (by omega)
theorem key_max : key 9218868437227405311 = ((9218868437227405311 : Nat) : Int) := by unfold key; rw [if_pos (by omega)]
theorem gt_max (a : Nat) (ha : a < 18446744073709551616) : (Ieee.double.order a 9218868437227405311 == some .gt) = pinf a := by
  rw [order_gt a 9218868437227405311 ha (by omega), isNan_max, key_max]
  unfold pinf isNan rung key
  rw [Bool.not_false, Bool.and_true, ← decide_not, ← Bool.decide_and, decide_eq_decide]
  split <;> omega

theorem xor_top (a : Nat) (ha : a < 18446744073709551616) : a ^^^ 9223372036854775808 = if a < 9223372036854775808 then a + 9223372036854775808 else a - 9223372036854775808 := by
  have h1 : (a ^^^ 9223372036854775808) % 2 ^ 63 = a % 2 ^ 63 := by
    rw [Nat.xor_mod_two_pow]
    have : 9223372036854775808 % 2 ^ 63 = 0 := by decide
    rw [this, Nat.xor_zero]
  have h2 : (a ^^^ 9223372036854775808) / 2 ^ 63 = (a / 2 ^ 63) ^^^ 1 := by
    rw [Nat.xor_div_two_pow]
  have h3 : a / 2 ^ 63 = 0 ∨ a / 2 ^ 63 = 1 := by omega
  generalize a ^^^ 9223372036854775808 = x at *
  rcases h3 with h3 | h3
  · rw [h3] at h2
    have h2' : x / 2 ^ 63 = 1 := h2
    rw [if_pos (by omega)]; omega
  · rw [h3] at h2
    have h2' : x / 2 ^ 63 = 0 := h2
    rw [if_neg (by omega)]; omega

theorem neg_gt_max (a : Nat) (ha : a < 18446744073709551616) : (Ieee.double.order (a ^^^ 9223372036854775808) 9218868437227405311 == some .gt) = ninf a := by
  have hx := xor_top a ha
  rw [gt_max _ (by rw [hx]; split <;> omega), hx]
  unfold pinf ninf
  split <;> (rw [decide_eq_decide]; omega)

set_option maxHeartbeats 400000 in
theorem isnan_any (a : Nat) (ha : a < 18446744073709551616) (w : World) :
    Calls Try.prog 26 #[.float .f64 a] w fun e w' => e = .returned (.bool (isNan a)) ∧ w = w' := by
  go_enter Try.func26, Try.ntmps26
  go_wp2
  go_ret
  exact ⟨by rw [← ne_self a ha]; rfl, rfl⟩
set_option maxHeartbeats 400000 in
theorem isinf_neg (a : Nat) (ha : a < 18446744073709551616) (w : World) :
    Calls Try.prog 27 #[.float .f64 a, .int .i64 (-1)] w fun e w' => e = .returned (.bool (ninf a)) ∧ w = w' := by
  have hneg : Op.unary .neg (.float .f64 a) = pure (.float .f64 (a ^^^ 9223372036854775808)) := rfl
  go_enter Try.func27, Try.ntmps27
  go_wp2
  go_ret
  exact ⟨by rw [← neg_gt_max a ha]; rfl, rfl⟩
set_option maxHeartbeats 400000 in
theorem isinf_pos (a : Nat) (ha : a < 18446744073709551616) (w : World) :
    Calls Try.prog 27 #[.float .f64 a, .int .i64 1] w fun e w' => e = .returned (.bool (pinf a)) ∧ w = w' := by
  go_enter Try.func27, Try.ntmps27
  go_wp2
  go_ret
  exact ⟨by rw [← gt_max a ha]; rfl, rfl⟩
set_option maxHeartbeats 400000 in
theorem signbit_any (a : Nat) (ha : a < 18446744073709551616) (w : World) :
    Calls Try.prog 28 #[.float .f64 a] w fun e w' => e = .returned (.bool (sgn a)) ∧ w = w' := by
  have htb := run_tobits
  go_enter Try.func28, Try.ntmps28
  go_wp2
  go_ret
  refine ⟨?_, rfl⟩
  have : sgn a = decide (wrap64 (a : Int) < 0) := by
    unfold sgn wrap64; rw [decide_eq_decide]; omega
  rw [this]; rfl
def infB (s : Int) (a : Nat) : Bool := if s < 0 then ninf a else pinf a
theorem isinf_any (s : Int) (hs : s = -1 ∨ s = 1) (a : Nat) (ha : a < 18446744073709551616) (w : World) :
    Calls Try.prog 27 #[.float .f64 a, .int .i64 s] w fun e w' => e = .returned (.bool (infB s a)) ∧ w = w' := by
  rcases hs with rfl | rfl
  · exact isinf_neg a ha w
  · exact isinf_pos a ha w

theorem cls_nan {a : Nat} (h : isNan a = true) : cls a = 6 := by
  unfold isNan at h; unfold cls; rw [if_pos (by simpa using h)]
theorem cls_ninf {a : Nat} (h : ninf a = true) : cls a = 0 := by
  unfold ninf at h; simp only [decide_eq_true_eq] at h; unfold cls rung
  rw [if_neg (by omega), if_pos (by omega), if_pos (by omega)]
theorem cls_pinf {a : Nat} (h : pinf a = true) : cls a = 5 := by
  unfold pinf at h; simp only [decide_eq_true_eq] at h; unfold cls rung
  rw [if_neg (by omega), if_neg (by omega), if_pos (by omega)]
theorem cls_ltz {a : Nat} (ha : a < 18446744073709551616) (h0 : ninf a = false) (h : ltz a = true) : cls a = 1 := by
  unfold ninf at h0; unfold ltz isNan key at h; simp at h h0; unfold cls
  unfold rung at *
  split at h
  · omega
  · rw [if_neg (by omega), if_pos (by omega), if_neg (by omega), if_pos (by omega)]
theorem cls_gtz {a : Nat} (ha : a < 18446744073709551616) (h0 : pinf a = false) (h : gtz a = true) : cls a = 4 := by
  unfold pinf at h0; unfold gtz isNan key at h; simp at h h0; unfold cls
  unfold rung at *
  split at h
  · rw [if_neg (by omega), if_neg (by omega), if_neg (by omega), if_pos (by omega)]
  · omega
theorem cls_nz {a : Nat} (ha : a < 18446744073709551616) (hn : isNan a = false) (h0 : ninf a = false) (h1 : pinf a = false) (h2 : ltz a = false) (h3 : gtz a = false) (h : sgn a = true) : cls a = 2 := by
  unfold sgn at h; simp at h
  unfold ltz gtz key at *; rw [hn] at h2 h3; simp at h2 h3; unfold cls
  unfold isNan at hn; unfold rung at *; simp at hn
  rw [if_neg (by omega)] at h2 h3
  rw [if_neg (by omega), if_pos (by omega), if_neg (by omega), if_neg (by omega)]
theorem cls_pz {a : Nat} (ha : a < 18446744073709551616) (hn : isNan a = false) (h0 : ninf a = false) (h1 : pinf a = false) (h2 : ltz a = false) (h3 : gtz a = false) (h : sgn a = false) : cls a = 3 := by
  unfold sgn at h; simp at h
  unfold ltz gtz key at *; rw [hn] at h2 h3; simp at h2 h3; unfold cls
  unfold isNan at hn; unfold rung at *; simp at hn
  rw [if_pos (by omega)] at h2 h3
  rw [if_neg (by omega), if_neg (by omega), if_neg (by omega), if_neg (by omega)]

set_option maxHeartbeats 400000 in
theorem class_any (a : Nat) (ha : a < 18446744073709551616) (w : World) :
    Calls Try.prog 13 #[.float .f64 a] w fun e w' => e = .returned (.int .i64 (cls a)) ∧ w = w' := by
  have H1 := Lib.hid (lt_zero a ha)
  have H2 := Lib.hid (gt_zero a ha)
  go_enter Try.func13, Try.ntmps13
  go_wp2_with (first | (go_at_call 26; refine (isnan_any _ ha _).mono ?_; rintro e w' ⟨rfl, rfl⟩) | (go_at_call 27; refine (isinf_any _ (by decide) _ ha _).mono ?_; rintro e w' ⟨rfl, rfl⟩) | (go_at_call 28; refine (signbit_any _ ha _).mono ?_; rintro e w' ⟨rfl, rfl⟩))
  all_goals go_ret
  all_goals refine ⟨?_, rfl⟩
  · rw [cls_nan (by assumption)]; rfl
  · rw [cls_ninf (by assumption)]; rfl
  · rw [cls_pinf (by assumption)]; rfl
  · rw [cls_ltz ha (by assumption) (by rw [← H1.out]; assumption)]; rfl
  · rw [cls_gtz ha (by assumption) (by rw [← H2.out]; assumption)]; rfl
  · rw [cls_nz ha (by assumption) (by assumption) (by assumption) (by rw [← H1.out]; assumption) (by rw [← H2.out]; assumption) (by assumption)]; rfl
  · rw [cls_pz ha (by assumption) (by assumption) (by assumption) (by rw [← H1.out]; assumption) (by rw [← H2.out]; assumption) (by assumption)]; rfl

theorem ret_int {k : IntKind} {a b : Int} (h : a = b) : Ending.returned (.int k a) = .returned (.int k b) := by rw [h]
theorem ret_bool {a b : Bool} (h : a = b) : Ending.returned (.bool a) = .returned (.bool b) := by rw [h]

theorem beqI (a b : Int) : (a == b) = decide (a = b) := rfl
def clsB (b1 b2 b3 b4 : Bool) : Int := if b1 then 6 else if b2 then (if b3 then 0 else if b4 then 1 else 2) else (if b3 then 5 else if b4 then 4 else 3)
set_option maxHeartbeats 1000000 in
theorem refclass_core (a : Nat) (w : World) (b1 b2 b3 b4 : Bool)
    (h1 : decide ((9218868437227405312 : Int) < (a : Int) % 9223372036854775808) = b1)
    (h2 : decide ((9223372036854775808 : Int) ≤ (a : Int)) = b2)
    (h3 : ((a : Int) % 9223372036854775808 == 9218868437227405312) = b3)
    (h4 : decide ((0 : Int) < (a : Int) % 9223372036854775808) = b4) :
    Calls Try.prog 15 #[.int .u64 (a : Int)] w fun e w' => e = .returned (.int .i64 (clsB b1 b2 b3 b4)) ∧ w = w' := by
  cases b1 <;> cases b2 <;> cases b3 <;> cases b4
  all_goals
    go_enter Try.func15, Try.ntmps15
    go_wp
    go_ret
    exact ⟨rfl, rfl⟩
theorem refclass_any (a : Nat) (w : World) :
    Calls Try.prog 15 #[.int .u64 (a : Int)] w fun e w' => e = .returned (.int .i64 (cls a)) ∧ w = w' := by
  have h := refclass_core a w _ _ _ _ rfl rfl rfl rfl
  have e : cls a = clsB (decide ((9218868437227405312 : Int) < (a : Int) % 9223372036854775808)) (decide ((9223372036854775808 : Int) ≤ (a : Int)))
      ((a : Int) % 9223372036854775808 == 9218868437227405312) (decide ((0 : Int) < (a : Int) % 9223372036854775808)) := by
    unfold cls clsB rung
    have e1 : decide ((9218868437227405312 : Int) < (a : Int) % 9223372036854775808) = decide (9218868437227405312 < a % 9223372036854775808) := by rw [decide_eq_decide]; omega
    have e2 : decide ((9223372036854775808 : Int) ≤ (a : Int)) = decide (9223372036854775808 ≤ a) := by rw [decide_eq_decide]; omega
    have e3 : ((a : Int) % 9223372036854775808 == 9218868437227405312) = decide (a % 9223372036854775808 = 9218868437227405312) := by rw [beqI, decide_eq_decide]; omega
    have e4 : decide ((0 : Int) < (a : Int) % 9223372036854775808) = decide (0 < a % 9223372036854775808) := by rw [decide_eq_decide]; omega
    rw [e1, e2, e3, e4]
    simp only [decide_eq_true_eq]
  rw [e]; exact h

/-- The reference's order of two words. -/
def lessR (a b : Nat) : Bool := if cls a ≠ cls b then decide (cls a < cls b) else if cls a = 1 then decide (b < a) else decide (cls a = 4) && decide (a < b)
set_option maxHeartbeats 400000 in
theorem refless_core (a b : Nat) (w : World) (c d : Int) (ca : cls a = c) (cb : cls b = d) (b1 b2 b3 b4 b5 b6 : Bool)
    (h1 : (c != d) = b1) (h2 : decide (c < d) = b2) (h3 : (c == 1) = b3) (h4 : decide (b < a) = b4) (h5 : (c == 4) = b5) (h6 : decide (a < b) = b6) :
    Calls Try.prog 17 #[.int .u64 (a : Int), .int .u64 (b : Int)] w fun e w' => e = .returned (.bool (if b1 then b2 else if b3 then b4 else b5 && b6)) ∧ w = w' := by
  have ca' := Lib.hid ca
  have cb' := Lib.hid cb
  clear ca cb
  cases b1 <;> cases b3 <;> cases b5
  all_goals
    go_enter Try.func17, Try.ntmps17
    go_wp2_with fail
    refine (refclass_any _ _).mono ?_
    rintro e w' ⟨rfl, rfl⟩
    rw [ca'.out]
    go_wp2_with fail
    refine (refclass_any _ _).mono ?_
    rintro e w' ⟨rfl, rfl⟩
    rw [cb'.out]
    go_wp2_with fail
    go_ret
    exact ⟨rfl, rfl⟩
theorem refless_any (a b : Nat) (w : World) :
    Calls Try.prog 17 #[.int .u64 (a : Int), .int .u64 (b : Int)] w fun e w' => e = .returned (.bool (lessR a b)) ∧ w = w' := by
  have h := refless_core a b w _ _ rfl rfl _ _ _ _ _ _ rfl rfl rfl rfl rfl rfl
  have e : lessR a b = (if (cls a != cls b) = true then decide (cls a < cls b) else if (cls a == 1) = true then decide (b < a) else (cls a == 4) && decide (a < b)) := by
    unfold lessR
    simp only [bne_iff_ne, beqI, decide_eq_true_eq]
  rw [e]; exact h

theorem inf_pos (w : World) :
    Calls Try.prog 25 #[.int .i64 1] w fun e w' => e = .returned (.float .f64 9218868437227405312) ∧ w = w' := by
  have hfb := run_frombits
  go_enter Try.func25, Try.ntmps25
  go_wp2
  go_ret
  exact ⟨rfl, rfl⟩

/-- How long ago. -/
def since (t n : Int) : Nat := if t < 0 then 9218868437227405312 else floatOfInt .f64 (wrap64 (n - t))
theorem since_any (t n : Int) (w : World) :
    Calls Try.prog 12 #[.int .i64 t, .int .i64 n] w fun e w' => e = .returned (.float .f64 (since t n)) ∧ w = w' := by
  by_cases h : t < 0
  · have e1 : since t n = 9218868437227405312 := by unfold since; rw [if_pos h]
    rw [e1]
    clear e1
    go_enter Try.func12, Try.ntmps12
    go_wp2_with (go_at_call 25; refine (inf_pos _).mono ?_; rintro e w' ⟨rfl, rfl⟩)
    go_ret
    exact ⟨rfl, rfl⟩
  · have e1 : since t n = floatOfInt .f64 (wrap64 (n - t)) := by unfold since; rw [if_neg h]
    rw [e1]
    clear e1
    go_enter Try.func12, Try.ntmps12
    go_wp2_with fail
    go_ret
    exact ⟨rfl, rfl⟩

theorem isnan_int (n : Int) (w : World) :
    Calls Try.prog 39 #[.int .i64 n] w fun e w' => e = .returned (.bool false) ∧ w = w' := by
  go_enter Try.func39, Try.ntmps39
  go_wp2
  go_ret
  exact ⟨by simp, rfl⟩
/-- cmp.Compare at integers. -/
def cmpI (a b : Int) : Int := if a < b then -1 else if b < a then 1 else 0
set_option maxHeartbeats 400000 in
theorem compare_int (a b : Int) (w : World) :
    Calls Try.prog 36 #[.int .i64 a, .int .i64 b] w fun e w' => e = .returned (.int .i64 (cmpI a b)) ∧ w = w' := by
  go_enter Try.func36, Try.ntmps36
  go_wp2_with (go_at_call 39; refine (isnan_int _ _).mono ?_; rintro e w' ⟨rfl, rfl⟩)
  all_goals go_ret
  · exact ⟨ret_int (by unfold cmpI; rw [if_pos (by assumption)]), rfl⟩
  · exact ⟨ret_int (by unfold cmpI; rw [if_neg (by omega), if_pos (by assumption)]), rfl⟩
  · exact ⟨ret_int (by unfold cmpI; rw [if_neg (by omega), if_neg (by omega)]), rfl⟩
theorem isnan_float (a : Nat) (ha : a < 18446744073709551616) (w : World) :
    Calls Try.prog 40 #[.float .f64 a] w fun e w' => e = .returned (.bool (isNan a)) ∧ w = w' := by
  go_enter Try.func40, Try.ntmps40
  go_wp2
  go_ret
  exact ⟨by rw [← ne_self a ha]; rfl, rfl⟩
set_option maxHeartbeats 400000 in
/-- cmp.Compare at words that are no NaNs. -/
theorem compare_float (a b : Nat) (ha : a < 18446744073709551616) (hb : b < 18446744073709551616) (na : isNan a = false) (nb : isNan b = false) (w : World) :
    Calls Try.prog 37 #[.float .f64 a, .float .f64 b] w fun e w' => e = .returned (.int .i64 (cmpI (key a) (key b))) ∧ w = w' := by
  have h1 := order_lt a b ha hb
  have h2 := order_gt a b ha hb
  rw [na, nb] at h1 h2
  have H1 := Lib.hid h1
  have H2 := Lib.hid h2
  have NA := Lib.hid na
  have NB := Lib.hid nb
  clear h1 h2 na nb
  go_enter Try.func37, Try.ntmps37
  go_wp2_with fail
  refine (isnan_float _ ha _).mono ?_
  rintro e w' ⟨rfl, rfl⟩
  rw [NA.out]
  go_wp2_with fail
  refine (isnan_float _ hb _).mono ?_
  rintro e w' ⟨rfl, rfl⟩
  rw [NB.out]
  go_wp2_with fail
  all_goals go_ret
  · exact ⟨ret_int (by unfold cmpI; rw [if_pos]; have h := H1.out; simp only [Bool.not_false, Bool.true_and] at h; exact of_decide_eq_true (by rw [← h]; assumption)), rfl⟩
  · refine ⟨ret_int ?_, rfl⟩
    have h := H1.out; have h' := H2.out
    simp only [Bool.not_false, Bool.true_and] at h h'
    unfold cmpI
    rw [if_neg (of_decide_eq_false (by rw [← h]; assumption)), if_pos (of_decide_eq_true (by rw [← h']; assumption))]
  · refine ⟨ret_int ?_, rfl⟩
    have h := H1.out; have h' := H2.out
    simp only [Bool.not_false, Bool.true_and] at h h'
    unfold cmpI
    rw [if_neg (of_decide_eq_false (by rw [← h]; assumption)), if_neg (of_decide_eq_false (by rw [← h']; assumption))]

/-- gauge's order, as a number. -/
def ord (a b : Nat) : Int := if cmpI (cls a) (cls b) ≠ 0 ∨ cls a = 6 then cmpI (cls a) (cls b) else cmpI (key a) (key b)
theorem cls_six {a : Nat} : cls a = 6 ↔ isNan a = true := by
  unfold isNan cls; simp only [decide_eq_true_eq]
  constructor
  · intro h; split at h
    · assumption
    · (repeat (first | omega | split at h))
  · intro h; rw [if_pos h]
theorem cmpI_zero {a b : Int} : cmpI a b = 0 ↔ a = b := by unfold cmpI; constructor <;> intro h <;> (repeat (first | omega | split at h | split))

set_option maxHeartbeats 400000 in
theorem order_any (a b : Nat) (ha : a < 18446744073709551616) (hb : b < 18446744073709551616) (w : World) :
    Calls Try.prog 29 #[.float .f64 a, .float .f64 b] w fun e w' => e = .returned (.int .i64 (ord a b)) ∧ w = w' := by
  obtain ⟨c, hc⟩ : ∃ c, c = cls a := ⟨_, rfl⟩
  obtain ⟨d, hd⟩ : ∃ d, d = cls b := ⟨_, rfl⟩
  have HC := Lib.hid hc.symm
  by_cases h1 : cmpI c d ≠ 0
  · have hf : ord a b = cmpI c d := by unfold ord; rw [← hc, ← hd, if_pos (.inl h1)]
    have HF := Lib.hid hf
    have HD := Lib.hid hd.symm
    have hb1 : (cmpI c d != 0) = true := by simpa using h1
    clear hf h1 hc hd
    go_enter Try.func29, Try.ntmps29
    go_wp2_with fail
    refine (class_any _ ha _).mono ?_
    rintro e w' ⟨rfl, rfl⟩
    rw [HC.out]
    go_wp2_with fail
    refine (class_any _ hb _).mono ?_
    rintro e w' ⟨rfl, rfl⟩
    rw [HD.out]
    go_wp2_with fail
    refine (compare_int _ _ _).mono ?_
    rintro e w' ⟨rfl, rfl⟩
    go_wp2_with fail
    go_ret
    exact ⟨by rw [HF.out]; rfl, rfl⟩
  · have hcd : c = d := cmpI_zero.1 (by omega)
    have HD := Lib.hid (hd.symm.trans hcd.symm)
    have h0 : cmpI c c = 0 := cmpI_zero.2 rfl
    have H0 := Lib.hid h0
    clear h1 hd hcd
    by_cases h2 : c = 6
    · have hf : ord a b = 0 := by unfold ord; rw [← hc, HD.out, if_pos (.inr h2), h0]
      have HF := Lib.hid hf
      have hb2 : (c == 6) = true := by simpa using h2
      clear hf h2 hc h0
      go_enter Try.func29, Try.ntmps29
      go_wp2_with fail
      refine (class_any _ ha _).mono ?_
      rintro e w' ⟨rfl, rfl⟩
      rw [HC.out]
      go_wp2_with fail
      refine (class_any _ hb _).mono ?_
      rintro e w' ⟨rfl, rfl⟩
      rw [HD.out]
      go_wp2_with fail
      refine (compare_int _ _ _).mono ?_
      rintro e w' ⟨rfl, rfl⟩
      rw [H0.out]
      go_wp2_with fail
      refine (class_any _ ha _).mono ?_
      rintro e w' ⟨rfl, rfl⟩
      rw [HC.out]
      go_wp2_with fail
      go_ret
      exact ⟨by rw [HF.out]; rfl, rfl⟩
    · have hf : ord a b = cmpI (key a) (key b) := by
        unfold ord; rw [← hc, HD.out, if_neg]; rintro (h | h)
        · exact h h0
        · exact h2 h
      have na : isNan a = false := by
        cases h : isNan a with
        | false => rfl
        | true => exact absurd (hc.trans (cls_six.2 h)) h2
      have nb : isNan b = false := by
        cases h : isNan b with
        | false => rfl
        | true => exact absurd (HD.out.symm.trans (cls_six.2 h)) h2
      have HF := Lib.hid hf
      have NA := Lib.hid na
      have NB := Lib.hid nb
      have hb2 : (c == 6) = false := by simpa using h2
      clear hf h2 hc h0 na nb
      go_enter Try.func29, Try.ntmps29
      go_wp2_with fail
      refine (class_any _ ha _).mono ?_
      rintro e w' ⟨rfl, rfl⟩
      rw [HC.out]
      go_wp2_with fail
      refine (class_any _ hb _).mono ?_
      rintro e w' ⟨rfl, rfl⟩
      rw [HD.out]
      go_wp2_with fail
      refine (compare_int _ _ _).mono ?_
      rintro e w' ⟨rfl, rfl⟩
      rw [H0.out]
      go_wp2_with fail
      refine (class_any _ ha _).mono ?_
      rintro e w' ⟨rfl, rfl⟩
      rw [HC.out]
      go_wp2_with fail
      refine (compare_float _ _ ha hb NA.out NB.out _).mono ?_
      rintro e w' ⟨rfl, rfl⟩
      go_wp2_with fail
      go_ret
      exact ⟨by rw [HF.out]; rfl, rfl⟩

theorem less_any (a b : Nat) (ha : a < 18446744073709551616) (hb : b < 18446744073709551616) (w : World) :
    Calls Try.prog 16 #[.float .f64 a, .float .f64 b] w fun e w' => e = .returned (.bool (decide (ord a b < 0))) ∧ w = w' := by
  go_enter Try.func16, Try.ntmps16
  go_wp2_with fail
  refine (order_any _ _ ha hb _).mono ?_
  rintro e w' ⟨rfl, rfl⟩
  go_wp2_with fail
  go_ret
  exact ⟨rfl, rfl⟩

set_option maxHeartbeats 400000 in
theorem awake_any (w : World) :
    Calls Try.prog 10 #[] w fun e w' => e = .returned (.bool true) ∧ w = w' := by
  have e1 : since (-1) 7 = 9218868437227405312 := by unfold since; rw [if_pos (by omega)]
  have e2 : cls 9218868437227405312 = 5 := by unfold cls rung; rw [if_neg (by omega), if_neg (by omega), if_pos (by omega)]
  have e3 : since 3 7 = 4616189618054758400 := by kernel_rfl
  have e4 : (Ieee.double.order 4616189618054758400 4616189618054758400 == some .eq) = true := by kernel_rfl
  have E1 := Lib.hid e1
  have E2 := Lib.hid e2
  have E3 := Lib.hid e3
  have E4 := Lib.hid e4
  clear e1 e2 e3 e4
  go_enter Try.func10, Try.ntmps10
  go_wp2_with fail
  refine (since_any _ _ _).mono ?_
  rintro e w' ⟨rfl, rfl⟩
  rw [E1.out]
  go_wp2_with fail
  refine (class_any _ (by omega) _).mono ?_
  rintro e w' ⟨rfl, rfl⟩
  rw [E2.out]
  go_wp2_with fail
  refine (since_any _ _ _).mono ?_
  rintro e w' ⟨rfl, rfl⟩
  rw [E3.out]
  go_wp2_with fail
  go_ret
  exact ⟨ret_bool E4.out, rfl⟩
end Ga
end Go.Proofs.Ytnljfhoibkeloaa
