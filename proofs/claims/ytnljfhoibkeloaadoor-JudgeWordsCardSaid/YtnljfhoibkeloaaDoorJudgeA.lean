/- Contracts of gauge.Class and gauge.Rate. -/
import Derived.Test.YtnljfhoibkeloaaDoorRows
import Derived.Test.YtnljfhoibkeloaaDoorFloats
import Derived.Test.YtnljfhoibkeloaaDoorRates2
import Derived.WalkKit
import Derived.WalkSpells
import Derived.WalkLawsBesides
import Derived.Lib.Hide
import Derived.Deep.QuietTactic
import Derived.BigQuiet
namespace Go.Proofs.YtnljfhoibkeloaaDoor
open Go.RowKit
set_option linter.unusedVariables false
set_option linter.unusedSimpArgs false
namespace Ga
open Fl
theorem run_frombits (n : Int) (w : World) : (callFunc 15 #[.int .u64 n]).run Tryd.prog w = .ok (.value (.float .f64 n.toNat)) w := by
  rw [run_callFunc_extern Tryd.func15 (by kernel_rfl) (by kernel_rfl) (by kernel_rfl) (e := Extern.MathFloatBits.float64frombits) (by kernel_rfl)]
  rfl
theorem run_tobits (n : Nat) (w : World) : (callFunc 14 #[.float .f64 n]).run Tryd.prog w = .ok (.value (.int .u64 n)) w := by
  rw [run_callFunc_extern Tryd.func14 (by kernel_rfl) (by kernel_rfl) (by kernel_rfl) (e := Extern.MathFloatBits.float64bits) (by kernel_rfl)]
  rfl

/-- The class of a word, as the reference says. -/
def cls (b : Nat) : Int :=
  if 9218868437227405312 < rung b then 6
  else if 9223372036854775808 ≤ b then (if rung b = 9218868437227405312 then 0 else if 0 < rung b then 1 else 2)
  else if rung b = 9218868437227405312 then 5 else if 0 < rung b then 4 else 3

def ltz (b : Nat) : Bool := !isNan b && decide (key b < 0)
def gtz (b : Nat) : Bool := !isNan b && decide (0 < key b)
def sgn (b : Nat) : Bool := decide (9223372036854775808 ≤ b)
def ninf (b : Nat) : Bool := decide (b = 18442240474082181120)
def pinf (b : Nat) : Bool := decide (b = 9218868437227405312)

theorem ne_self (a : Nat) (ha : a < 18446744073709551616) : (Ieee.double.order a a != some .eq) = isNan a := by
  have h := order_eql a a ha ha
  show (!(Ieee.double.order a a == some .eq)) = _
  rw [h]
  cases isNan a <;> simp
theorem isNan_lit0 : isNan 0 = false := by unfold isNan rung; exact decide_eq_false (by omega)
theorem key_lit0 : key 0 = 0 := by unfold key; rw [if_pos (by omega)]; rfl
theorem lt_zero (a : Nat) (ha : a < 18446744073709551616) : (Ieee.double.order a 0 == some .lt) = ltz a := by
  rw [order_lt a 0 ha (by omega), isNan_lit0, key_lit0]
  unfold ltz; cases isNan a <;> rfl
theorem gt_zero (a : Nat) (ha : a < 18446744073709551616) : (Ieee.double.order a 0 == some .gt) = gtz a := by
  rw [order_gt a 0 ha (by omega), isNan_lit0, key_lit0]
  unfold gtz; cases isNan a <;> rfl
theorem isNan_max : isNan 9218868437227405311 = false := by unfold isNan rung; exact decide_eq_false (by omega)
theorem key_max : key 9218868437227405311 = ((9218868437227405311 : Nat) : Int) := by unfold key; rw [if_pos (by omega)]
theorem gt_max (a : Nat) (ha : a < 18446744073709551616) : (Ieee.double.order a 9218868437227405311 == some .gt) = pinf a := by
  rw [order_gt a 9218868437227405311 ha (by omega), isNan_max, key_max]
  unfold pinf isNan rung key
  rw [Bool.not_false, Bool.and_true, ← decide_not, ← Bool.decide_and, decide_eq_decide]
  split <;> omega

theorem xor_top (a : Nat) (ha : a < 18446744073709551616) : a ^^^ 9223372036854775808 = if a < 9223372036854775808 then a + 9223372036854775808 else a - 9223372036854775808 := by
  have h1 : (a ^^^ 9223372036854775808) % 2 ^ 63 = a % 2 ^ 63 := by
    rw [Nat.xor_mod_two_pow]
    have : 9223372036854775808 % 2 ^ 63 = 0 := by decide
    rw [this, Nat.xor_zero]
  have h2 : (a ^^^ 9223372036854775808) / 2 ^ 63 = (a / 2 ^ 63) ^^^ 1 := by
    rw [Nat.xor_div_two_pow]
  have h3 : a / 2 ^ 63 = 0 ∨ a / 2 ^ 63 = 1 := by omega
  generalize a ^^^ 9223372036854775808 = x at *
  rcases h3 with h3 | h3
  · rw [h3] at h2
    have h2' : x / 2 ^ 63 = 1 := h2
    rw [if_pos (by omega)]; omega
  · rw [h3] at h2
    have h2' : x / 2 ^ 63 = 0 := h2
    rw [if_neg (by omega)]; omega

theorem neg_gt_max (a : Nat) (ha : a < 18446744073709551616) : (Ieee.double.order (a ^^^ 9223372036854775808) 9218868437227405311 == some .gt) = ninf a := by
  have hx := xor_top a ha
  rw [gt_max _ (by rw [hx]; split <;> omega), hx]
  unfold pinf ninf
  split <;> (rw [decide_eq_decide]; omega)

set_option maxHeartbeats 400000 in
theorem isnan_any (a : Nat) (ha : a < 18446744073709551616) (w : World) :
    Calls Tryd.prog 6 #[.float .f64 a] w fun e w' => e = .returned (.bool (isNan a)) ∧ w = w' := by
  go_enter Tryd.func6, Tryd.ntmps6
  go_wp2
  go_ret
  exact ⟨by rw [← ne_self a ha]; rfl, rfl⟩
set_option maxHeartbeats 400000 in
theorem isinf_neg (a : Nat) (ha : a < 18446744073709551616) (w : World) :
    Calls Tryd.prog 11 #[.float .f64 a, .int .i64 (-1)] w fun e w' => e = .returned (.bool (ninf a)) ∧ w = w' := by
  have hneg : Op.unary .neg (.float .f64 a) = pure (.float .f64 (a ^^^ 9223372036854775808)) := rfl
  go_enter Tryd.func11, Tryd.ntmps11
  go_wp2
  go_ret
  exact ⟨by rw [← neg_gt_max a ha]; rfl, rfl⟩
set_option maxHeartbeats 400000 in
theorem isinf_pos (a : Nat) (ha : a < 18446744073709551616) (w : World) :
    Calls Tryd.prog 11 #[.float .f64 a, .int .i64 1] w fun e w' => e = .returned (.bool (pinf a)) ∧ w = w' := by
  go_enter Tryd.func11, Tryd.ntmps11
  go_wp2
  go_ret
  exact ⟨by rw [← gt_max a ha]; rfl, rfl⟩
set_option maxHeartbeats 400000 in
theorem signbit_any (a : Nat) (ha : a < 18446744073709551616) (w : World) :
    Calls Tryd.prog 12 #[.float .f64 a] w fun e w' => e = .returned (.bool (sgn a)) ∧ w = w' := by
  have htb := run_tobits
  go_enter Tryd.func12, Tryd.ntmps12
  go_wp2
  go_ret
  refine ⟨?_, rfl⟩
  have : sgn a = decide (wrap64 (a : Int) < 0) := by
    unfold sgn wrap64; rw [decide_eq_decide]; omega
  rw [this]; rfl
def infB (s : Int) (a : Nat) : Bool := if s < 0 then ninf a else pinf a
theorem isinf_any (s : Int) (hs : s = -1 ∨ s = 1) (a : Nat) (ha : a < 18446744073709551616) (w : World) :
    Calls Tryd.prog 11 #[.float .f64 a, .int .i64 s] w fun e w' => e = .returned (.bool (infB s a)) ∧ w = w' := by
  rcases hs with rfl | rfl
  · exact isinf_neg a ha w
  · exact isinf_pos a ha w

theorem cls_nan {a : Nat} (h : isNan a = true) : cls a = 6 := by
  unfold isNan at h; unfold cls; rw [if_pos (by simpa using h)]
theorem cls_ninf {a : Nat} (h : ninf a = true) : cls a = 0 := by
  unfold ninf at h; simp only [decide_eq_true_eq] at h; unfold cls rung
  rw [if_neg (by omega), if_pos (by omega), if_pos (by omega)]
theorem cls_pinf {a : Nat} (h : pinf a = true) : cls a = 5 := by
  unfold pinf at h; simp only [decide_eq_true_eq] at h; unfold cls rung
  rw [if_neg (by omega), if_neg (by omega), if_pos (by omega)]
theorem cls_ltz {a : Nat} (ha : a < 18446744073709551616) (h0 : ninf a = false) (h : ltz a = true) : cls a = 1 := by
  unfold ninf at h0; unfold ltz isNan key at h; simp at h h0; unfold cls
  unfold rung at *
  split at h
  · omega
  · rw [if_neg (by omega), if_pos (by omega), if_neg (by omega), if_pos (by omega)]
theorem cls_gtz {a : Nat} (ha : a < 18446744073709551616) (h0 : pinf a = false) (h : gtz a = true) : cls a = 4 := by
  unfold pinf at h0; unfold gtz isNan key at h; simp at h h0; unfold cls
  unfold rung at *
  split at h
  · rw [if_neg (by omega), if_neg (by omega), if_neg (by omega), if_pos (by omega)]
  · omega
theorem cls_nz {a : Nat} (ha : a < 18446744073709551616) (hn : isNan a = false) (h0 : ninf a = false) (h1 : pinf a = false) (h2 : ltz a = false) (h3 : gtz a = false) (h : sgn a = true) : cls a = 2 := by
  unfold sgn at h; simp at h
  unfold ltz gtz key at *; rw [hn] at h2 h3; simp at h2 h3; unfold cls
  unfold isNan at hn; unfold rung at *; simp at hn
  rw [if_neg (by omega)] at h2 h3
  rw [if_neg (by omega), if_pos (by omega), if_neg (by omega), if_neg (by omega)]
theorem cls_pz {a : Nat} (ha : a < 18446744073709551616) (hn : isNan a = false) (h0 : ninf a = false) (h1 : pinf a = false) (h2 : ltz a = false) (h3 : gtz a = false) (h : sgn a = false) : cls a = 3 := by
  unfold sgn at h; simp at h
  unfold ltz gtz key at *; rw [hn] at h2 h3; simp at h2 h3; unfold cls
  unfold isNan at hn; unfold rung at *; simp at hn
  rw [if_pos (by omega)] at h2 h3
  rw [if_neg (by omega), if_neg (by omega), if_neg (by omega), if_neg (by omega)]

set_option maxHeartbeats 400000 in
theorem class_any (a : Nat) (ha : a < 18446744073709551616) (w : World) :
    Calls Tryd.prog 9 #[.float .f64 a] w fun e w' => e = .returned (.int .i64 (cls a)) ∧ w = w' := by
  have H1 := Lib.hid (lt_zero a ha)
  have H2 := Lib.hid (gt_zero a ha)
  go_enter Tryd.func9, Tryd.ntmps9
  go_wp2_with (first | (go_at_call 6; refine (isnan_any _ ha _).mono ?_; rintro e w' ⟨rfl, rfl⟩) | (go_at_call 11; refine (isinf_any _ (by decide) _ ha _).mono ?_; rintro e w' ⟨rfl, rfl⟩) | (go_at_call 12; refine (signbit_any _ ha _).mono ?_; rintro e w' ⟨rfl, rfl⟩))
  all_goals go_ret
  all_goals refine ⟨?_, rfl⟩
  · rw [cls_nan (by assumption)]; rfl
  · rw [cls_ninf (by assumption)]; rfl
  · rw [cls_pinf (by assumption)]; rfl
  · rw [cls_ltz ha (by assumption) (by rw [← H1.out]; assumption)]; rfl
  · rw [cls_gtz ha (by assumption) (by rw [← H2.out]; assumption)]; rfl
  · rw [cls_nz ha (by assumption) (by assumption) (by assumption) (by rw [← H1.out]; assumption) (by rw [← H2.out]; assumption) (by assumption)]; rfl
  · rw [cls_pz ha (by assumption) (by assumption) (by assumption) (by rw [← H1.out]; assumption) (by rw [← H2.out]; assumption) (by assumption)]; rfl

theorem ret_int {k : IntKind} {a b : Int} (h : a = b) : Ending.returned (.int k a) = .returned (.int k b) := by rw [h]
theorem ret_bool {a b : Bool} (h : a = b) : Ending.returned (.bool a) = .returned (.bool b) := by rw [h]

theorem cls_six {a : Nat} : cls a = 6 ↔ isNan a = true := by
  unfold isNan cls; simp only [decide_eq_true_eq]
  constructor
  · intro h; split at h
    · assumption
    · (repeat (first | omega | split at h))
  · intro h; rw [if_pos h]
theorem nearest_nan (neg : Bool) (mag : Nat) (place : Int) : isNan (Ieee.double.nearest neg mag place) = false := by
  by_cases h : mag = 0
  · subst h; rw [nearest_none]; exact word_nan _ (by omega)
  · rw [nearest_eq _ neg mag place _ h rfl, dbl1]
    exact word_nan _ (Nat.min_le_right _ _)
theorem nearest_lt' (neg : Bool) (mag : Nat) (place : Int) : Ieee.double.nearest neg mag place < 18446744073709551616 := by
  by_cases h : mag = 0
  · subst h; rw [nearest_none]; exact word_lt' _ (by omega)
  · rw [nearest_eq _ neg mag place _ h rfl, dbl1]
    exact word_lt' _ (by have := Nat.min_le_right; omega)
theorem ofInt_eq (n : Int) : floatOfInt .f64 n = ofInt n := rfl

/-- What a rate is: the quotient's word; where there is none, some NaN. -/
def RateIs (x y : Int) (b : Nat) : Prop := b < 18446744073709551616 ∧ (∀ r, Ieee.double.div (ofInt x) (ofInt y) = some r → b = r) ∧ (Ieee.double.div (ofInt x) (ofInt y) = none → isNan b = true)

def nanOf (t : Nat) : Nat := (t % 2) * 9223372036854775808 + 9218868437227405312 + 1 + (t / 2) % 4503599627370495
theorem nanOf_nan (t : Nat) : nanOf t < 18446744073709551616 ∧ isNan (nanOf t) = true := by
  unfold nanOf isNan rung
  have hu : t % 2 = 0 ∨ t % 2 = 1 := by omega
  have hv : t / 2 % 4503599627370495 < 4503599627370495 := Nat.mod_lt _ (by omega)
  generalize t / 2 % 4503599627370495 = v at *
  rw [decide_eq_true_eq]
  rcases hu with hu | hu <;> rw [hu] <;> omega
theorem run_quo_none (P : Program) (t : TypeId) (x y : Nat) (w : World) (h : Ieee.double.div x y = none) :
    (binOp .quo t (.float .f64 x) (.float .f64 y)).run P w = .ok (.float .f64 (nanOf (w.tape w.drawn (.nanBits .f64 x y)))) w.drew := by
  have h' : FloatKind.f64.format.div x y = none := h
  simp only [binOp, Op.floatArith, h', ne_eq, not_true_eq_false, if_false]
  rfl
theorem rate_any (x y : Int) (w : World) :
    Calls Tryd.prog 10 #[.int .i64 x, .int .i64 y] w fun e w' => ∃ b, e = .returned (.float .f64 b) ∧ RateIs x y b ∧ (w' = w ∨ w' = w.drew) := by
  cases hd : Ieee.double.div (ofInt x) (ofInt y) with
  | none =>
    have hq := fun (w : World) => run_quo_none Tryd.prog 27 (floatOfInt .f64 x) (floatOfInt .f64 y) w hd
    have HD := Lib.hid hd
    clear hd
    go_enter Tryd.func10, Tryd.ntmps10
    go_wp2
    go_ret
    refine ⟨_, rfl, ⟨(nanOf_nan _).1, fun r hr => ?_, fun _ => (nanOf_nan _).2⟩, .inr rfl⟩
    rw [HD.out] at hr; cases hr
  | some r =>
    have hq := fun (w : World) => run_float_arith (P := Tryd.prog) w .quo 27 .f64 (floatOfInt .f64 x) (floatOfInt .f64 y) r hd
    have hlt : r < 18446744073709551616 := Ieee.Format.div_lt _ hd
    have HD := Lib.hid hd
    clear hd
    go_enter Tryd.func10, Tryd.ntmps10
    go_wp2
    go_ret
    refine ⟨_, rfl, ⟨hlt, fun r' hr => ?_, fun h => ?_⟩, .inl rfl⟩
    · rw [HD.out] at hr; exact Option.some.inj hr
    · rw [HD.out] at h; cases h


theorem eq_self (n : Int) : (FloatKind.f64.format.order (floatOfInt .f64 n) (floatOfInt .f64 n) != some .eq) = false := by
  have h := ne_self (floatOfInt .f64 n) (nearest_lt' _ _ _)
  exact h.trans (nearest_nan _ _ _)

theorem cls_word_inf (n : Bool) : cls (Ieee.double.word n 9218868437227405312) = if n then 0 else 5 := by
  cases n <;> decide
theorem rate_cls {x : Int} {b : Nat} (hx : x.natAbs < 1048576) (h : RateIs x 0 b) : cls b = if x = 0 then 6 else if x < 0 then 0 else 5 := by
  obtain ⟨_, h1, h2⟩ := h
  have hz := rate_zero x hx
  by_cases x0 : x = 0
  · rw [if_pos x0] at hz ⊢
    exact cls_six.2 (h2 hz)
  · rw [if_neg x0] at hz ⊢
    rw [h1 _ hz, cls_word_inf]
    by_cases hn : x < 0
    · rw [decide_eq_true hn, if_pos hn]; rfl
    · rw [decide_eq_false hn, if_neg hn]; rfl







end Ga
end Go.Proofs.YtnljfhoibkeloaaDoor
