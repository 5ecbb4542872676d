/-
  THE STATEMENT GaugeRates: of small numbers the order of two rates is that of their fractions; a rate of none of none is a NaN; how long ago is told, never is infinite. No condition.
-/
import Derived.Test.YtnljfhoibkeloaaRows
import Derived.Test.YtnljfhoibkeloaaGauge
import Derived.Test.YtnljfhoibkeloaaRates2
import Derived.WalkKit
import Derived.ProofKit
import Derived.OpenShut
import Derived.Deep.QuietTactic
import Derived.BigQuiet
namespace Go.Proofs.Ytnljfhoibkeloaa.gaugeRates
open Go.ChangeShapes Go.WideShapes Go.ChangeAt Go.RowKit
set_option linter.unusedVariables false
set_option linter.unusedSimpArgs false
open Fl Ga

theorem nearest_nan (neg : Bool) (mag : Nat) (place : Int) : isNan (Ieee.double.nearest neg mag place) = false := by
  by_cases h : mag = 0
  · subst h; rw [nearest_none]; exact word_nan _ (by omega)
  · rw [nearest_eq _ neg mag place _ h rfl, dbl1]
    exact word_nan _ (Nat.min_le_right _ _)
theorem nearest_lt' (neg : Bool) (mag : Nat) (place : Int) : Ieee.double.nearest neg mag place < 18446744073709551616 := by
  by_cases h : mag = 0
  · subst h; rw [nearest_none]; exact word_lt' _ (by omega)
  · rw [nearest_eq _ neg mag place _ h rfl, dbl1]
    exact word_lt' _ (by have := Nat.min_le_right; omega)
theorem ofInt_eq (n : Int) : floatOfInt .f64 n = ofInt n := rfl

/-- What a rate is: the quotient's word; where there is none, some NaN. -/
def RateIs (x y : Int) (b : Nat) : Prop := b < 18446744073709551616 ∧ (∀ r, Ieee.double.div (ofInt x) (ofInt y) = some r → b = r) ∧ (Ieee.double.div (ofInt x) (ofInt y) = none → isNan b = true)

def nanOf (t : Nat) : Nat := (t % 2) * 9223372036854775808 + 9218868437227405312 + 1 + (t / 2) % 4503599627370495
theorem nanOf_nan (t : Nat) : nanOf t < 18446744073709551616 ∧ isNan (nanOf t) = true := by
  unfold nanOf isNan rung
  have hu : t % 2 = 0 ∨ t % 2 = 1 := by omega
  have hv : t / 2 % 4503599627370495 < 4503599627370495 := Nat.mod_lt _ (by omega)
  generalize t / 2 % 4503599627370495 = v at *
  rw [decide_eq_true_eq]
  rcases hu with hu | hu <;> rw [hu] <;> omega
theorem run_quo_none (P : Program) (t : TypeId) (x y : Nat) (w : World) (h : Ieee.double.div x y = none) :
    (binOp .quo t (.float .f64 x) (.float .f64 y)).run P w = .ok (.float .f64 (nanOf (w.tape w.drawn (.nanBits .f64 x y)))) w.drew := by
  have h' : FloatKind.f64.format.div x y = none := h
  simp only [binOp, Op.floatArith, h', ne_eq, not_true_eq_false, if_false]
  rfl
theorem rate_any (x y : Int) (w : World) :
    Calls Try.prog 11 #[.int .i64 x, .int .i64 y] w fun e w' => ∃ b, e = .returned (.float .f64 b) ∧ RateIs x y b ∧ (w' = w ∨ w' = w.drew) := by
  cases hd : Ieee.double.div (ofInt x) (ofInt y) with
  | none =>
    have hq := fun (w : World) => run_quo_none Try.prog 28 (floatOfInt .f64 x) (floatOfInt .f64 y) w hd
    have HD := Lib.hid hd
    clear hd
    go_enter Try.func11, Try.ntmps11
    go_wp2
    go_ret
    refine ⟨_, rfl, ⟨(nanOf_nan _).1, fun r hr => ?_, fun _ => (nanOf_nan _).2⟩, .inr rfl⟩
    rw [HD.out] at hr; cases hr
  | some r =>
    have hq := fun (w : World) => run_float_arith (P := Try.prog) w .quo 28 .f64 (floatOfInt .f64 x) (floatOfInt .f64 y) r hd
    have hlt : r < 18446744073709551616 := Ieee.Format.div_lt _ hd
    have HD := Lib.hid hd
    clear hd
    go_enter Try.func11, Try.ntmps11
    go_wp2
    go_ret
    refine ⟨_, rfl, ⟨hlt, fun r' hr => ?_, fun h => ?_⟩, .inl rfl⟩
    · rw [HD.out] at hr; exact Option.some.inj hr
    · rw [HD.out] at h; cases h


theorem tmod_lt (n : Int) : (n.tmod 1048576).natAbs < 1048576 := by
  rw [Int.natAbs_tmod]; exact Nat.mod_lt _ (by decide)
theorem cls_word_inf (n : Bool) : cls (Ieee.double.word n 9218868437227405312) = if n then 0 else 5 := by
  cases n <;> decide
theorem eq_self (n : Int) : (FloatKind.f64.format.order (floatOfInt .f64 n) (floatOfInt .f64 n) != some .eq) = false := by
  have h := ne_self (floatOfInt .f64 n) (nearest_lt' _ _ _)
  exact h.trans (nearest_nan _ _ _)

/-- The call of Since, in the two cases. -/
theorem since_neg (t n : Int) (h : t < 0) (w : World) :
    Calls Try.prog 12 #[.int .i64 t, .int .i64 n] w fun e w' => e = .returned (.float .f64 9218868437227405312) ∧ w = w' := by
  have e1 : since t n = 9218868437227405312 := by unfold since; rw [if_pos h]
  have := since_any t n w
  rw [e1] at this; exact this
theorem since_pos (t n : Int) (h : ¬ t < 0) (hw : wrap64 (n - t) = n - t) (w : World) :
    Calls Try.prog 12 #[.int .i64 t, .int .i64 n] w fun e w' => e = .returned (.float .f64 (floatOfInt .f64 (n - t))) ∧ w = w' := by
  have e1 : since t n = floatOfInt .f64 (n - t) := by unfold since; rw [if_neg h, hw]
  have := since_any t n w
  rw [e1] at this; exact this

theorem rate_cls {x : Int} {b : Nat} (hx : x.natAbs < 1048576) (h : RateIs x 0 b) : cls b = if x = 0 then 6 else if x < 0 then 0 else 5 := by
  obtain ⟨_, h1, h2⟩ := h
  have hz := rate_zero x hx
  by_cases x0 : x = 0
  · rw [if_pos x0] at hz ⊢
    exact cls_six.2 (h2 hz)
  · rw [if_neg x0] at hz ⊢
    rw [h1 _ hz, cls_word_inf]
    by_cases hn : x < 0
    · rw [decide_eq_true hn, if_pos hn]; rfl
    · rw [decide_eq_false hn, if_neg hn]; rfl






theorem grown_end (w : World) (c : Array Value) (t : TypeId) (n : Nat) : Grown w ((w.alloc (.cells c t)).drewN n) := (Grown.refl w).alloc c t
theorem mul_bd (a b : Int) (ha : a.natAbs < 1048576) (hb : b.natAbs < 1048576) : -1099511627776 ≤ a * b ∧ a * b ≤ 1099511627776 := by
  have h : (a * b).natAbs ≤ 1048576 * 1048576 := by
    rw [Int.natAbs_mul]; exact Nat.mul_le_mul (by omega) (by omega)
  omega
theorem frac (x y z v : Int) : nrm x y * v.natAbs = (if (y < 0) = (v < 0) then x * v else -(x * v)) ∨ v = 0 := by
  by_cases v0 : v = 0
  · exact .inr v0
  · refine .inl ?_
    unfold nrm
    by_cases hy : y < 0 <;> by_cases hv : v < 0
    · have e : (v.natAbs : Int) = -v := by omega
      rw [if_pos hy, e, if_pos (by simp [hy, hv]), Int.neg_mul_neg]
    · have e : (v.natAbs : Int) = v := by omega
      rw [if_pos hy, e, if_neg (by simp [hy, hv]), Int.neg_mul]
    · have e : (v.natAbs : Int) = -v := by omega
      rw [if_neg hy, e, if_neg (by simp [hy, hv]), Int.mul_neg]
    · have e : (v.natAbs : Int) = v := by omega
      rw [if_neg hy, e, if_pos (by simp [hy, hv])]
theorem frac1 {x y v : Int} (h : (y < 0) = (v < 0)) (hv : v ≠ 0) : nrm x y * v.natAbs = x * v := by
  have := (frac x y 0 v).resolve_right hv; rwa [if_pos h] at this
theorem frac2 {x y v : Int} (h : (y < 0) ≠ (v < 0)) (hv : v ≠ 0) : nrm x y * v.natAbs = -(x * v) := by
  have := (frac x y 0 v).resolve_right hv; rwa [if_neg h] at this

set_option maxHeartbeats 1000000 in
theorem a1 (n0 n1 n2 n3 x y z v : Int) (ex : n0.tmod 1048576 = x) (ey : n1.tmod 1048576 = y) (ez : n2.tmod 1048576 = z) (ev : n3.tmod 1048576 = v)
    (c0 : -2147483648 ≤ n0 ∧ n0 ≤ 2147483647) (c1 : -2147483648 ≤ n1 ∧ n1 ≤ 2147483647) (c2 : -2147483648 ≤ n2 ∧ n2 ≤ 2147483647) (c3 : -2147483648 ≤ n3 ∧ n3 ≤ 2147483647)
    (bx1 : -1048576 < x) (bx2 : x < 1048576) (by1 : -1048576 < y) (by2 : y < 1048576) (bz1 : -1048576 < z) (bz2 : z < 1048576) (bv1 : -1048576 < v) (bv2 : v < 1048576)
    (hx : 0 ≤ x ∧ x ≤ 0) (hy : y = 0) (w : World) :
    Calls Try.prog 4 #[.agg #[.int .i32 n0, .int .i32 n1, .int .i32 n2, .int .i32 n3]] w fun e w' => e = .returned (.bool true) ∧ Grown w w' := by
  have g1 : (y == 0) = true := by rw [hy]; rfl
  have g2 : (y != 0) = false := by rw [hy]; rfl
  have g3 : (x == 0) = true := beq_iff_eq.2 (by omega)
  obtain ⟨y', hy'⟩ : ∃ y', y' = y := ⟨_, rfl⟩
  have HY := Lib.hid hy
  clear hy hy'
  have f1 : decide (x < 0) = false := decide_eq_false (by omega)
  have f2 : decide (0 ≤ x) = true := decide_eq_true (by omega)
  have hs := Lib.hid (eq_self (z - x))
  have HW := Lib.hid (show wrap64 (z - x) = z - x by unfold wrap64; omega)
  go_enter Try.func4, Try.ntmps4
  go_wp2_with fail
  refine (awake_any _).mono ?_
  rintro e w' ⟨rfl, rfl⟩
  go_wp2_with fail
  go_quiet (fail)
  go_wp2_with fail
  refine (rate_any _ _ _).mono ?_
  rintro e w1 ⟨s, rfl, hs1, hg1⟩
  have HS1 := Lib.hid hs1
  have HG1 := Lib.hid hg1
  clear hs1 hg1
  go_wp2_with fail
  refine (rate_any _ _ _).mono ?_
  rintro e w2 ⟨t, rfl, ht1, hg2⟩
  have HT1 := Lib.hid ht1
  have HG2 := Lib.hid hg2
  clear ht1 hg2
  have HCS : Hid (cls s = 6) := by
    have h := HS1.out
    rw [HY.out] at h
    have := rate_cls (by omega) h
    rw [this]
    (repeat (first | rfl | omega | (rw [if_pos (by omega)]) | (rw [if_neg (by omega)])))
  go_wp2_with fail
  refine (since_pos _ _ (by omega) HW.out _).mono ?_
  rintro e w' ⟨rfl, rfl⟩
  have hs' := hs.out
  go_wp2_with fail
  refine (class_any _ HS1.out.1 _).mono ?_
  rintro e w' ⟨rfl, rfl⟩
  rw [HCS.out]
  go_wp2_with fail
  go_ret
  refine ⟨rfl, ?_⟩
  have h1 := HG1.out
  have h2 := HG2.out
  rcases h2 with rfl | rfl <;> rcases h1 with rfl | rfl <;> first | exact grown_end _ _ _ _ | exact (grown_end _ _ _ _).drew | exact (grown_end _ _ _ _).drew.drew

set_option maxHeartbeats 1000000 in
theorem a2 (n0 n1 n2 n3 x y z v : Int) (ex : n0.tmod 1048576 = x) (ey : n1.tmod 1048576 = y) (ez : n2.tmod 1048576 = z) (ev : n3.tmod 1048576 = v)
    (c0 : -2147483648 ≤ n0 ∧ n0 ≤ 2147483647) (c1 : -2147483648 ≤ n1 ∧ n1 ≤ 2147483647) (c2 : -2147483648 ≤ n2 ∧ n2 ≤ 2147483647) (c3 : -2147483648 ≤ n3 ∧ n3 ≤ 2147483647)
    (bx1 : -1048576 < x) (bx2 : x < 1048576) (by1 : -1048576 < y) (by2 : y < 1048576) (bz1 : -1048576 < z) (bz2 : z < 1048576) (bv1 : -1048576 < v) (bv2 : v < 1048576)
    (hx : 0 < x) (hy : y = 0) (w : World) :
    Calls Try.prog 4 #[.agg #[.int .i32 n0, .int .i32 n1, .int .i32 n2, .int .i32 n3]] w fun e w' => e = .returned (.bool true) ∧ Grown w w' := by
  have g1 : (y == 0) = true := by rw [hy]; rfl
  have g2 : (y != 0) = false := by rw [hy]; rfl
  have g3 : (x == 0) = false := beq_eq_false_iff_ne.2 (by omega)
  have g4 : decide (0 < x) = true := decide_eq_true (by omega)
  obtain ⟨y', hy'⟩ : ∃ y', y' = y := ⟨_, rfl⟩
  have HY := Lib.hid hy
  clear hy hy'
  have f1 : decide (x < 0) = false := decide_eq_false (by omega)
  have f2 : decide (0 ≤ x) = true := decide_eq_true (by omega)
  have hs := Lib.hid (eq_self (z - x))
  have HW := Lib.hid (show wrap64 (z - x) = z - x by unfold wrap64; omega)
  go_enter Try.func4, Try.ntmps4
  go_wp2_with fail
  refine (awake_any _).mono ?_
  rintro e w' ⟨rfl, rfl⟩
  go_wp2_with fail
  go_quiet (fail)
  go_wp2_with fail
  refine (rate_any _ _ _).mono ?_
  rintro e w1 ⟨s, rfl, hs1, hg1⟩
  have HS1 := Lib.hid hs1
  have HG1 := Lib.hid hg1
  clear hs1 hg1
  go_wp2_with fail
  refine (rate_any _ _ _).mono ?_
  rintro e w2 ⟨t, rfl, ht1, hg2⟩
  have HT1 := Lib.hid ht1
  have HG2 := Lib.hid hg2
  clear ht1 hg2
  have HCS : Hid (cls s = 5) := by
    have h := HS1.out
    rw [HY.out] at h
    have := rate_cls (by omega) h
    rw [this]
    (repeat (first | rfl | omega | (rw [if_pos (by omega)]) | (rw [if_neg (by omega)])))
  go_wp2_with fail
  refine (since_pos _ _ (by omega) HW.out _).mono ?_
  rintro e w' ⟨rfl, rfl⟩
  have hs' := hs.out
  go_wp2_with fail
  refine (class_any _ HS1.out.1 _).mono ?_
  rintro e w' ⟨rfl, rfl⟩
  rw [HCS.out]
  go_wp2_with fail
  go_ret
  refine ⟨rfl, ?_⟩
  have h1 := HG1.out
  have h2 := HG2.out
  rcases h2 with rfl | rfl <;> rcases h1 with rfl | rfl <;> first | exact grown_end _ _ _ _ | exact (grown_end _ _ _ _).drew | exact (grown_end _ _ _ _).drew.drew

set_option maxHeartbeats 1000000 in
theorem a3 (n0 n1 n2 n3 x y z v : Int) (ex : n0.tmod 1048576 = x) (ey : n1.tmod 1048576 = y) (ez : n2.tmod 1048576 = z) (ev : n3.tmod 1048576 = v)
    (c0 : -2147483648 ≤ n0 ∧ n0 ≤ 2147483647) (c1 : -2147483648 ≤ n1 ∧ n1 ≤ 2147483647) (c2 : -2147483648 ≤ n2 ∧ n2 ≤ 2147483647) (c3 : -2147483648 ≤ n3 ∧ n3 ≤ 2147483647)
    (bx1 : -1048576 < x) (bx2 : x < 1048576) (by1 : -1048576 < y) (by2 : y < 1048576) (bz1 : -1048576 < z) (bz2 : z < 1048576) (bv1 : -1048576 < v) (bv2 : v < 1048576)
    (hx : x < 0) (hy : y = 0) (w : World) :
    Calls Try.prog 4 #[.agg #[.int .i32 n0, .int .i32 n1, .int .i32 n2, .int .i32 n3]] w fun e w' => e = .returned (.bool true) ∧ Grown w w' := by
  have g1 : (y == 0) = true := by rw [hy]; rfl
  have g2 : (y != 0) = false := by rw [hy]; rfl
  have g3 : (x == 0) = false := beq_eq_false_iff_ne.2 (by omega)
  have g4 : decide (0 < x) = false := decide_eq_false (by omega)
  obtain ⟨y', hy'⟩ : ∃ y', y' = y := ⟨_, rfl⟩
  have HY := Lib.hid hy
  clear hy hy'
  have f1 : decide (x < 0) = true := decide_eq_true (by omega)
  have f2 : decide (0 ≤ x) = false := decide_eq_false (by omega)
  have HC : Hid (cls 9218868437227405312 = 5) := (by decide : cls 9218868437227405312 = 5)
  go_enter Try.func4, Try.ntmps4
  go_wp2_with fail
  refine (awake_any _).mono ?_
  rintro e w' ⟨rfl, rfl⟩
  go_wp2_with fail
  go_quiet (fail)
  go_wp2_with fail
  refine (rate_any _ _ _).mono ?_
  rintro e w1 ⟨s, rfl, hs1, hg1⟩
  have HS1 := Lib.hid hs1
  have HG1 := Lib.hid hg1
  clear hs1 hg1
  go_wp2_with fail
  refine (rate_any _ _ _).mono ?_
  rintro e w2 ⟨t, rfl, ht1, hg2⟩
  have HT1 := Lib.hid ht1
  have HG2 := Lib.hid hg2
  clear ht1 hg2
  have HCS : Hid (cls s = 0) := by
    have h := HS1.out
    rw [HY.out] at h
    have := rate_cls (by omega) h
    rw [this]
    (repeat (first | rfl | omega | (rw [if_pos (by omega)]) | (rw [if_neg (by omega)])))
  go_wp2_with fail
  refine (since_neg _ _ (by omega) _).mono ?_
  rintro e w' ⟨rfl, rfl⟩
  go_wp2_with fail
  refine (class_any _ (by omega) _).mono ?_
  rintro e w' ⟨rfl, rfl⟩
  rw [HC.out]
  go_wp2_with fail
  refine (class_any _ HS1.out.1 _).mono ?_
  rintro e w' ⟨rfl, rfl⟩
  rw [HCS.out]
  go_wp2_with fail
  go_ret
  refine ⟨rfl, ?_⟩
  have h1 := HG1.out
  have h2 := HG2.out
  rcases h2 with rfl | rfl <;> rcases h1 with rfl | rfl <;> first | exact grown_end _ _ _ _ | exact (grown_end _ _ _ _).drew | exact (grown_end _ _ _ _).drew.drew

set_option maxHeartbeats 1000000 in
theorem b1' (n0 n1 n2 n3 x y z v : Int) (ex : n0.tmod 1048576 = x) (ey : n1.tmod 1048576 = y) (ez : n2.tmod 1048576 = z) (ev : n3.tmod 1048576 = v)
    (c0 : -2147483648 ≤ n0 ∧ n0 ≤ 2147483647) (c1 : -2147483648 ≤ n1 ∧ n1 ≤ 2147483647) (c2 : -2147483648 ≤ n2 ∧ n2 ≤ 2147483647) (c3 : -2147483648 ≤ n3 ∧ n3 ≤ 2147483647)
    (bx1 : -1048576 < x) (bx2 : x < 1048576) (by1 : -1048576 < y) (by2 : y < 1048576) (bz1 : -1048576 < z) (bz2 : z < 1048576) (bv1 : -1048576 < v) (bv2 : v < 1048576)
    (hx : 0 ≤ x) (hy : y ≠ 0) (hv : v = 0) (w : World) :
    Calls Try.prog 4 #[.agg #[.int .i32 n0, .int .i32 n1, .int .i32 n2, .int .i32 n3]] w fun e w' => e = .returned (.bool true) ∧ Grown w w' := by
  have g1 : (y == 0) = false := beq_eq_false_iff_ne.2 hy
  have g2 : (y != 0) = true := bne_iff_ne.2 hy
  have g3 : (v == 0) = true := by rw [hv]; rfl
  clear hy hv
  have f1 : decide (x < 0) = false := decide_eq_false (by omega)
  have f2 : decide (0 ≤ x) = true := decide_eq_true (by omega)
  have hs := Lib.hid (eq_self (z - x))
  have HW := Lib.hid (show wrap64 (z - x) = z - x by unfold wrap64; omega)
  go_enter Try.func4, Try.ntmps4
  go_wp2_with fail
  refine (awake_any _).mono ?_
  rintro e w' ⟨rfl, rfl⟩
  go_wp2_with fail
  go_quiet (fail)
  go_wp2_with fail
  refine (rate_any _ _ _).mono ?_
  rintro e w1 ⟨s, rfl, hs1, hg1⟩
  have HS1 := Lib.hid hs1
  have HG1 := Lib.hid hg1
  clear hs1 hg1
  go_wp2_with fail
  refine (rate_any _ _ _).mono ?_
  rintro e w2 ⟨t, rfl, ht1, hg2⟩
  have HT1 := Lib.hid ht1
  have HG2 := Lib.hid hg2
  clear ht1 hg2
  go_wp2_with fail
  refine (since_pos _ _ (by omega) HW.out _).mono ?_
  rintro e w' ⟨rfl, rfl⟩
  have hs' := hs.out
  go_wp2_with fail
  go_ret
  refine ⟨rfl, ?_⟩
  have h1 := HG1.out
  have h2 := HG2.out
  rcases h2 with rfl | rfl <;> rcases h1 with rfl | rfl <;> first | exact grown_end _ _ _ _ | exact (grown_end _ _ _ _).drew | exact (grown_end _ _ _ _).drew.drew

set_option maxHeartbeats 1000000 in
theorem b2' (n0 n1 n2 n3 x y z v : Int) (ex : n0.tmod 1048576 = x) (ey : n1.tmod 1048576 = y) (ez : n2.tmod 1048576 = z) (ev : n3.tmod 1048576 = v)
    (c0 : -2147483648 ≤ n0 ∧ n0 ≤ 2147483647) (c1 : -2147483648 ≤ n1 ∧ n1 ≤ 2147483647) (c2 : -2147483648 ≤ n2 ∧ n2 ≤ 2147483647) (c3 : -2147483648 ≤ n3 ∧ n3 ≤ 2147483647)
    (bx1 : -1048576 < x) (bx2 : x < 1048576) (by1 : -1048576 < y) (by2 : y < 1048576) (bz1 : -1048576 < z) (bz2 : z < 1048576) (bv1 : -1048576 < v) (bv2 : v < 1048576)
    (hx : x < 0) (hy : y ≠ 0) (hv : v = 0) (w : World) :
    Calls Try.prog 4 #[.agg #[.int .i32 n0, .int .i32 n1, .int .i32 n2, .int .i32 n3]] w fun e w' => e = .returned (.bool true) ∧ Grown w w' := by
  have g1 : (y == 0) = false := beq_eq_false_iff_ne.2 hy
  have g2 : (y != 0) = true := bne_iff_ne.2 hy
  have g3 : (v == 0) = true := by rw [hv]; rfl
  clear hy hv
  have f1 : decide (x < 0) = true := decide_eq_true (by omega)
  have f2 : decide (0 ≤ x) = false := decide_eq_false (by omega)
  have HC : Hid (cls 9218868437227405312 = 5) := (by decide : cls 9218868437227405312 = 5)
  go_enter Try.func4, Try.ntmps4
  go_wp2_with fail
  refine (awake_any _).mono ?_
  rintro e w' ⟨rfl, rfl⟩
  go_wp2_with fail
  go_quiet (fail)
  go_wp2_with fail
  refine (rate_any _ _ _).mono ?_
  rintro e w1 ⟨s, rfl, hs1, hg1⟩
  have HS1 := Lib.hid hs1
  have HG1 := Lib.hid hg1
  clear hs1 hg1
  go_wp2_with fail
  refine (rate_any _ _ _).mono ?_
  rintro e w2 ⟨t, rfl, ht1, hg2⟩
  have HT1 := Lib.hid ht1
  have HG2 := Lib.hid hg2
  clear ht1 hg2
  go_wp2_with fail
  refine (since_neg _ _ (by omega) _).mono ?_
  rintro e w' ⟨rfl, rfl⟩
  go_wp2_with fail
  refine (class_any _ (by omega) _).mono ?_
  rintro e w' ⟨rfl, rfl⟩
  rw [HC.out]
  go_wp2_with fail
  go_ret
  refine ⟨rfl, ?_⟩
  have h1 := HG1.out
  have h2 := HG2.out
  rcases h2 with rfl | rfl <;> rcases h1 with rfl | rfl <;> first | exact grown_end _ _ _ _ | exact (grown_end _ _ _ _).drew | exact (grown_end _ _ _ _).drew.drew

set_option maxHeartbeats 1000000 in
theorem c1 (n0 n1 n2 n3 x y z v : Int) (ex : n0.tmod 1048576 = x) (ey : n1.tmod 1048576 = y) (ez : n2.tmod 1048576 = z) (ev : n3.tmod 1048576 = v)
    (c0 : -2147483648 ≤ n0 ∧ n0 ≤ 2147483647) (c1 : -2147483648 ≤ n1 ∧ n1 ≤ 2147483647) (c2 : -2147483648 ≤ n2 ∧ n2 ≤ 2147483647) (c3 : -2147483648 ≤ n3 ∧ n3 ≤ 2147483647)
    (bx1 : -1048576 < x) (bx2 : x < 1048576) (by1 : -1048576 < y) (by2 : y < 1048576) (bz1 : -1048576 < z) (bz2 : z < 1048576) (bv1 : -1048576 < v) (bv2 : v < 1048576)
    (hx : 0 ≤ x) (hy : 0 < y) (hv : 0 < v) (w : World) :
    Calls Try.prog 4 #[.agg #[.int .i32 n0, .int .i32 n1, .int .i32 n2, .int .i32 n3]] w fun e w' => e = .returned (.bool true) ∧ Grown w w' := by
  obtain ⟨m1, m2⟩ := mul_bd x v (by omega) (by omega)
  obtain ⟨m3, m4⟩ := mul_bd z y (by omega) (by omega)
  obtain ⟨q, q', hq, hq', hlt, heq⟩ := rate_cmp x y z v (by omega) (by omega) (by omega) (by omega) (by omega) (by omega)
  have e1 : nrm x y * v.natAbs = (x * v) := frac1 (by simp; omega) (by omega)
  have e2 : nrm z v * y.natAbs = (z * y) := frac1 (by simp; omega) (by omega)
  rw [e1, e2] at hlt heq
  clear e1 e2
  have HQ := Lib.hid hq
  have HQ' := Lib.hid hq'
  clear hq hq'
  have g1 : (y == 0) = false := beq_eq_false_iff_ne.2 (by omega)
  have g3 : (v == 0) = false := beq_eq_false_iff_ne.2 (by omega)
  have g4 : decide (y < 0) = false := decide_eq_false (by omega)
  have g5 : decide (v < 0) = false := decide_eq_false (by omega)
  generalize hxv : x * v = xv at *
  generalize hzy : z * y = zy at *
  have HLT := Lib.hid hlt
  have HEQ := Lib.hid heq
  clear hlt heq
  have f1 : decide (x < 0) = false := decide_eq_false (by omega)
  have f2 : decide (0 ≤ x) = true := decide_eq_true (by omega)
  have hs := Lib.hid (eq_self (z - x))
  have HW := Lib.hid (show wrap64 (z - x) = z - x by unfold wrap64; omega)
  go_enter Try.func4, Try.ntmps4
  go_wp2_with fail
  refine (awake_any _).mono ?_
  rintro e w' ⟨rfl, rfl⟩
  go_wp2_with fail
  go_quiet (fail)
  go_wp2_with fail
  refine (rate_any _ _ _).mono ?_
  rintro e w1 ⟨s, rfl, hs1, hg1⟩
  have HS1 := Lib.hid hs1
  have HG1 := Lib.hid hg1
  clear hs1 hg1
  obtain rfl := HS1.out.2.1 _ HQ.out
  go_wp2_with fail
  refine (rate_any _ _ _).mono ?_
  rintro e w2 ⟨t, rfl, ht1, hg2⟩
  have HT1 := Lib.hid ht1
  have HG2 := Lib.hid hg2
  clear ht1 hg2
  obtain rfl := HT1.out.2.1 _ HQ'.out
  have hlt2 : (FloatKind.f64.format.order s t == some .lt) = decide (xv < zy) := HLT.out
  have heq2 : (FloatKind.f64.format.order s t == some .eq) = decide (xv = zy) := HEQ.out
  have heq3 : (xv == zy) = decide (xv = zy) := rfl
  go_wp2_with fail
  refine (since_pos _ _ (by omega) HW.out _).mono ?_
  rintro e w' ⟨rfl, rfl⟩
  have hs' := hs.out
  go_wp2_with fail
  go_ret
  refine ⟨rfl, ?_⟩
  have h1 := HG1.out
  have h2 := HG2.out
  rcases h2 with rfl | rfl <;> rcases h1 with rfl | rfl <;> first | exact grown_end _ _ _ _ | exact (grown_end _ _ _ _).drew | exact (grown_end _ _ _ _).drew.drew

set_option maxHeartbeats 1000000 in
theorem c2 (n0 n1 n2 n3 x y z v : Int) (ex : n0.tmod 1048576 = x) (ey : n1.tmod 1048576 = y) (ez : n2.tmod 1048576 = z) (ev : n3.tmod 1048576 = v)
    (c0 : -2147483648 ≤ n0 ∧ n0 ≤ 2147483647) (c1 : -2147483648 ≤ n1 ∧ n1 ≤ 2147483647) (c2 : -2147483648 ≤ n2 ∧ n2 ≤ 2147483647) (c3 : -2147483648 ≤ n3 ∧ n3 ≤ 2147483647)
    (bx1 : -1048576 < x) (bx2 : x < 1048576) (by1 : -1048576 < y) (by2 : y < 1048576) (bz1 : -1048576 < z) (bz2 : z < 1048576) (bv1 : -1048576 < v) (bv2 : v < 1048576)
    (hx : 0 ≤ x) (hy : 0 < y) (hv : v < 0) (w : World) :
    Calls Try.prog 4 #[.agg #[.int .i32 n0, .int .i32 n1, .int .i32 n2, .int .i32 n3]] w fun e w' => e = .returned (.bool true) ∧ Grown w w' := by
  obtain ⟨m1, m2⟩ := mul_bd x v (by omega) (by omega)
  obtain ⟨m3, m4⟩ := mul_bd z y (by omega) (by omega)
  obtain ⟨q, q', hq, hq', hlt, heq⟩ := rate_cmp x y z v (by omega) (by omega) (by omega) (by omega) (by omega) (by omega)
  have e1 : nrm x y * v.natAbs = (-(x * v)) := frac2 (by simp; omega) (by omega)
  have e2 : nrm z v * y.natAbs = (-(z * y)) := frac2 (by simp; omega) (by omega)
  rw [e1, e2] at hlt heq
  clear e1 e2
  have HQ := Lib.hid hq
  have HQ' := Lib.hid hq'
  clear hq hq'
  have g1 : (y == 0) = false := beq_eq_false_iff_ne.2 (by omega)
  have g3 : (v == 0) = false := beq_eq_false_iff_ne.2 (by omega)
  have g4 : decide (y < 0) = false := decide_eq_false (by omega)
  have g5 : decide (v < 0) = true := decide_eq_true (by omega)
  generalize hxv : x * v = xv at *
  generalize hzy : z * y = zy at *
  have HLT := Lib.hid hlt
  have HEQ := Lib.hid heq
  clear hlt heq
  have f1 : decide (x < 0) = false := decide_eq_false (by omega)
  have f2 : decide (0 ≤ x) = true := decide_eq_true (by omega)
  have hs := Lib.hid (eq_self (z - x))
  have HW := Lib.hid (show wrap64 (z - x) = z - x by unfold wrap64; omega)
  go_enter Try.func4, Try.ntmps4
  go_wp2_with fail
  refine (awake_any _).mono ?_
  rintro e w' ⟨rfl, rfl⟩
  go_wp2_with fail
  go_quiet (fail)
  go_wp2_with fail
  refine (rate_any _ _ _).mono ?_
  rintro e w1 ⟨s, rfl, hs1, hg1⟩
  have HS1 := Lib.hid hs1
  have HG1 := Lib.hid hg1
  clear hs1 hg1
  obtain rfl := HS1.out.2.1 _ HQ.out
  go_wp2_with fail
  refine (rate_any _ _ _).mono ?_
  rintro e w2 ⟨t, rfl, ht1, hg2⟩
  have HT1 := Lib.hid ht1
  have HG2 := Lib.hid hg2
  clear ht1 hg2
  obtain rfl := HT1.out.2.1 _ HQ'.out
  have hlt2 : (FloatKind.f64.format.order s t == some .lt) = decide ((-xv) < (-zy)) := HLT.out
  have heq2 : (FloatKind.f64.format.order s t == some .eq) = decide ((-xv) = (-zy)) := HEQ.out
  have heq3 : ((-xv) == (-zy)) = decide ((-xv) = (-zy)) := rfl
  go_wp2_with fail
  refine (since_pos _ _ (by omega) HW.out _).mono ?_
  rintro e w' ⟨rfl, rfl⟩
  have hs' := hs.out
  go_wp2_with fail
  go_ret
  refine ⟨rfl, ?_⟩
  have h1 := HG1.out
  have h2 := HG2.out
  rcases h2 with rfl | rfl <;> rcases h1 with rfl | rfl <;> first | exact grown_end _ _ _ _ | exact (grown_end _ _ _ _).drew | exact (grown_end _ _ _ _).drew.drew

set_option maxHeartbeats 1000000 in
theorem c3 (n0 n1 n2 n3 x y z v : Int) (ex : n0.tmod 1048576 = x) (ey : n1.tmod 1048576 = y) (ez : n2.tmod 1048576 = z) (ev : n3.tmod 1048576 = v)
    (c0 : -2147483648 ≤ n0 ∧ n0 ≤ 2147483647) (c1 : -2147483648 ≤ n1 ∧ n1 ≤ 2147483647) (c2 : -2147483648 ≤ n2 ∧ n2 ≤ 2147483647) (c3 : -2147483648 ≤ n3 ∧ n3 ≤ 2147483647)
    (bx1 : -1048576 < x) (bx2 : x < 1048576) (by1 : -1048576 < y) (by2 : y < 1048576) (bz1 : -1048576 < z) (bz2 : z < 1048576) (bv1 : -1048576 < v) (bv2 : v < 1048576)
    (hx : 0 ≤ x) (hy : y < 0) (hv : 0 < v) (w : World) :
    Calls Try.prog 4 #[.agg #[.int .i32 n0, .int .i32 n1, .int .i32 n2, .int .i32 n3]] w fun e w' => e = .returned (.bool true) ∧ Grown w w' := by
  obtain ⟨m1, m2⟩ := mul_bd x v (by omega) (by omega)
  obtain ⟨m3, m4⟩ := mul_bd z y (by omega) (by omega)
  obtain ⟨q, q', hq, hq', hlt, heq⟩ := rate_cmp x y z v (by omega) (by omega) (by omega) (by omega) (by omega) (by omega)
  have e1 : nrm x y * v.natAbs = (-(x * v)) := frac2 (by simp; omega) (by omega)
  have e2 : nrm z v * y.natAbs = (-(z * y)) := frac2 (by simp; omega) (by omega)
  rw [e1, e2] at hlt heq
  clear e1 e2
  have HQ := Lib.hid hq
  have HQ' := Lib.hid hq'
  clear hq hq'
  have g1 : (y == 0) = false := beq_eq_false_iff_ne.2 (by omega)
  have g3 : (v == 0) = false := beq_eq_false_iff_ne.2 (by omega)
  have g4 : decide (y < 0) = true := decide_eq_true (by omega)
  have g5 : decide (v < 0) = false := decide_eq_false (by omega)
  generalize hxv : x * v = xv at *
  generalize hzy : z * y = zy at *
  have HLT := Lib.hid hlt
  have HEQ := Lib.hid heq
  clear hlt heq
  have f1 : decide (x < 0) = false := decide_eq_false (by omega)
  have f2 : decide (0 ≤ x) = true := decide_eq_true (by omega)
  have hs := Lib.hid (eq_self (z - x))
  have HW := Lib.hid (show wrap64 (z - x) = z - x by unfold wrap64; omega)
  go_enter Try.func4, Try.ntmps4
  go_wp2_with fail
  refine (awake_any _).mono ?_
  rintro e w' ⟨rfl, rfl⟩
  go_wp2_with fail
  go_quiet (fail)
  go_wp2_with fail
  refine (rate_any _ _ _).mono ?_
  rintro e w1 ⟨s, rfl, hs1, hg1⟩
  have HS1 := Lib.hid hs1
  have HG1 := Lib.hid hg1
  clear hs1 hg1
  obtain rfl := HS1.out.2.1 _ HQ.out
  go_wp2_with fail
  refine (rate_any _ _ _).mono ?_
  rintro e w2 ⟨t, rfl, ht1, hg2⟩
  have HT1 := Lib.hid ht1
  have HG2 := Lib.hid hg2
  clear ht1 hg2
  obtain rfl := HT1.out.2.1 _ HQ'.out
  have hlt2 : (FloatKind.f64.format.order s t == some .lt) = decide ((-xv) < (-zy)) := HLT.out
  have heq2 : (FloatKind.f64.format.order s t == some .eq) = decide ((-xv) = (-zy)) := HEQ.out
  have heq3 : ((-xv) == (-zy)) = decide ((-xv) = (-zy)) := rfl
  go_wp2_with fail
  refine (since_pos _ _ (by omega) HW.out _).mono ?_
  rintro e w' ⟨rfl, rfl⟩
  have hs' := hs.out
  go_wp2_with fail
  go_ret
  refine ⟨rfl, ?_⟩
  have h1 := HG1.out
  have h2 := HG2.out
  rcases h2 with rfl | rfl <;> rcases h1 with rfl | rfl <;> first | exact grown_end _ _ _ _ | exact (grown_end _ _ _ _).drew | exact (grown_end _ _ _ _).drew.drew

set_option maxHeartbeats 1000000 in
theorem c4 (n0 n1 n2 n3 x y z v : Int) (ex : n0.tmod 1048576 = x) (ey : n1.tmod 1048576 = y) (ez : n2.tmod 1048576 = z) (ev : n3.tmod 1048576 = v)
    (c0 : -2147483648 ≤ n0 ∧ n0 ≤ 2147483647) (c1 : -2147483648 ≤ n1 ∧ n1 ≤ 2147483647) (c2 : -2147483648 ≤ n2 ∧ n2 ≤ 2147483647) (c3 : -2147483648 ≤ n3 ∧ n3 ≤ 2147483647)
    (bx1 : -1048576 < x) (bx2 : x < 1048576) (by1 : -1048576 < y) (by2 : y < 1048576) (bz1 : -1048576 < z) (bz2 : z < 1048576) (bv1 : -1048576 < v) (bv2 : v < 1048576)
    (hx : 0 ≤ x) (hy : y < 0) (hv : v < 0) (w : World) :
    Calls Try.prog 4 #[.agg #[.int .i32 n0, .int .i32 n1, .int .i32 n2, .int .i32 n3]] w fun e w' => e = .returned (.bool true) ∧ Grown w w' := by
  obtain ⟨m1, m2⟩ := mul_bd x v (by omega) (by omega)
  obtain ⟨m3, m4⟩ := mul_bd z y (by omega) (by omega)
  obtain ⟨q, q', hq, hq', hlt, heq⟩ := rate_cmp x y z v (by omega) (by omega) (by omega) (by omega) (by omega) (by omega)
  have e1 : nrm x y * v.natAbs = (x * v) := frac1 (by simp; omega) (by omega)
  have e2 : nrm z v * y.natAbs = (z * y) := frac1 (by simp; omega) (by omega)
  rw [e1, e2] at hlt heq
  clear e1 e2
  have HQ := Lib.hid hq
  have HQ' := Lib.hid hq'
  clear hq hq'
  have g1 : (y == 0) = false := beq_eq_false_iff_ne.2 (by omega)
  have g3 : (v == 0) = false := beq_eq_false_iff_ne.2 (by omega)
  have g4 : decide (y < 0) = true := decide_eq_true (by omega)
  have g5 : decide (v < 0) = true := decide_eq_true (by omega)
  generalize hxv : x * v = xv at *
  generalize hzy : z * y = zy at *
  have HLT := Lib.hid hlt
  have HEQ := Lib.hid heq
  clear hlt heq
  have f1 : decide (x < 0) = false := decide_eq_false (by omega)
  have f2 : decide (0 ≤ x) = true := decide_eq_true (by omega)
  have hs := Lib.hid (eq_self (z - x))
  have HW := Lib.hid (show wrap64 (z - x) = z - x by unfold wrap64; omega)
  go_enter Try.func4, Try.ntmps4
  go_wp2_with fail
  refine (awake_any _).mono ?_
  rintro e w' ⟨rfl, rfl⟩
  go_wp2_with fail
  go_quiet (fail)
  go_wp2_with fail
  refine (rate_any _ _ _).mono ?_
  rintro e w1 ⟨s, rfl, hs1, hg1⟩
  have HS1 := Lib.hid hs1
  have HG1 := Lib.hid hg1
  clear hs1 hg1
  obtain rfl := HS1.out.2.1 _ HQ.out
  go_wp2_with fail
  refine (rate_any _ _ _).mono ?_
  rintro e w2 ⟨t, rfl, ht1, hg2⟩
  have HT1 := Lib.hid ht1
  have HG2 := Lib.hid hg2
  clear ht1 hg2
  obtain rfl := HT1.out.2.1 _ HQ'.out
  have hlt2 : (FloatKind.f64.format.order s t == some .lt) = decide (xv < zy) := HLT.out
  have heq2 : (FloatKind.f64.format.order s t == some .eq) = decide (xv = zy) := HEQ.out
  have heq3 : (xv == zy) = decide (xv = zy) := rfl
  go_wp2_with fail
  refine (since_pos _ _ (by omega) HW.out _).mono ?_
  rintro e w' ⟨rfl, rfl⟩
  have hs' := hs.out
  go_wp2_with fail
  go_ret
  refine ⟨rfl, ?_⟩
  have h1 := HG1.out
  have h2 := HG2.out
  rcases h2 with rfl | rfl <;> rcases h1 with rfl | rfl <;> first | exact grown_end _ _ _ _ | exact (grown_end _ _ _ _).drew | exact (grown_end _ _ _ _).drew.drew

set_option maxHeartbeats 1000000 in
theorem c5 (n0 n1 n2 n3 x y z v : Int) (ex : n0.tmod 1048576 = x) (ey : n1.tmod 1048576 = y) (ez : n2.tmod 1048576 = z) (ev : n3.tmod 1048576 = v)
    (c0 : -2147483648 ≤ n0 ∧ n0 ≤ 2147483647) (c1 : -2147483648 ≤ n1 ∧ n1 ≤ 2147483647) (c2 : -2147483648 ≤ n2 ∧ n2 ≤ 2147483647) (c3 : -2147483648 ≤ n3 ∧ n3 ≤ 2147483647)
    (bx1 : -1048576 < x) (bx2 : x < 1048576) (by1 : -1048576 < y) (by2 : y < 1048576) (bz1 : -1048576 < z) (bz2 : z < 1048576) (bv1 : -1048576 < v) (bv2 : v < 1048576)
    (hx : x < 0) (hy : 0 < y) (hv : 0 < v) (w : World) :
    Calls Try.prog 4 #[.agg #[.int .i32 n0, .int .i32 n1, .int .i32 n2, .int .i32 n3]] w fun e w' => e = .returned (.bool true) ∧ Grown w w' := by
  obtain ⟨m1, m2⟩ := mul_bd x v (by omega) (by omega)
  obtain ⟨m3, m4⟩ := mul_bd z y (by omega) (by omega)
  obtain ⟨q, q', hq, hq', hlt, heq⟩ := rate_cmp x y z v (by omega) (by omega) (by omega) (by omega) (by omega) (by omega)
  have e1 : nrm x y * v.natAbs = (x * v) := frac1 (by simp; omega) (by omega)
  have e2 : nrm z v * y.natAbs = (z * y) := frac1 (by simp; omega) (by omega)
  rw [e1, e2] at hlt heq
  clear e1 e2
  have HQ := Lib.hid hq
  have HQ' := Lib.hid hq'
  clear hq hq'
  have g1 : (y == 0) = false := beq_eq_false_iff_ne.2 (by omega)
  have g3 : (v == 0) = false := beq_eq_false_iff_ne.2 (by omega)
  have g4 : decide (y < 0) = false := decide_eq_false (by omega)
  have g5 : decide (v < 0) = false := decide_eq_false (by omega)
  generalize hxv : x * v = xv at *
  generalize hzy : z * y = zy at *
  have HLT := Lib.hid hlt
  have HEQ := Lib.hid heq
  clear hlt heq
  have f1 : decide (x < 0) = true := decide_eq_true (by omega)
  have f2 : decide (0 ≤ x) = false := decide_eq_false (by omega)
  have HC : Hid (cls 9218868437227405312 = 5) := (by decide : cls 9218868437227405312 = 5)
  go_enter Try.func4, Try.ntmps4
  go_wp2_with fail
  refine (awake_any _).mono ?_
  rintro e w' ⟨rfl, rfl⟩
  go_wp2_with fail
  go_quiet (fail)
  go_wp2_with fail
  refine (rate_any _ _ _).mono ?_
  rintro e w1 ⟨s, rfl, hs1, hg1⟩
  have HS1 := Lib.hid hs1
  have HG1 := Lib.hid hg1
  clear hs1 hg1
  obtain rfl := HS1.out.2.1 _ HQ.out
  go_wp2_with fail
  refine (rate_any _ _ _).mono ?_
  rintro e w2 ⟨t, rfl, ht1, hg2⟩
  have HT1 := Lib.hid ht1
  have HG2 := Lib.hid hg2
  clear ht1 hg2
  obtain rfl := HT1.out.2.1 _ HQ'.out
  have hlt2 : (FloatKind.f64.format.order s t == some .lt) = decide (xv < zy) := HLT.out
  have heq2 : (FloatKind.f64.format.order s t == some .eq) = decide (xv = zy) := HEQ.out
  have heq3 : (xv == zy) = decide (xv = zy) := rfl
  go_wp2_with fail
  refine (since_neg _ _ (by omega) _).mono ?_
  rintro e w' ⟨rfl, rfl⟩
  go_wp2_with fail
  refine (class_any _ (by omega) _).mono ?_
  rintro e w' ⟨rfl, rfl⟩
  rw [HC.out]
  go_wp2_with fail
  go_ret
  refine ⟨rfl, ?_⟩
  have h1 := HG1.out
  have h2 := HG2.out
  rcases h2 with rfl | rfl <;> rcases h1 with rfl | rfl <;> first | exact grown_end _ _ _ _ | exact (grown_end _ _ _ _).drew | exact (grown_end _ _ _ _).drew.drew

set_option maxHeartbeats 1000000 in
theorem c6 (n0 n1 n2 n3 x y z v : Int) (ex : n0.tmod 1048576 = x) (ey : n1.tmod 1048576 = y) (ez : n2.tmod 1048576 = z) (ev : n3.tmod 1048576 = v)
    (c0 : -2147483648 ≤ n0 ∧ n0 ≤ 2147483647) (c1 : -2147483648 ≤ n1 ∧ n1 ≤ 2147483647) (c2 : -2147483648 ≤ n2 ∧ n2 ≤ 2147483647) (c3 : -2147483648 ≤ n3 ∧ n3 ≤ 2147483647)
    (bx1 : -1048576 < x) (bx2 : x < 1048576) (by1 : -1048576 < y) (by2 : y < 1048576) (bz1 : -1048576 < z) (bz2 : z < 1048576) (bv1 : -1048576 < v) (bv2 : v < 1048576)
    (hx : x < 0) (hy : 0 < y) (hv : v < 0) (w : World) :
    Calls Try.prog 4 #[.agg #[.int .i32 n0, .int .i32 n1, .int .i32 n2, .int .i32 n3]] w fun e w' => e = .returned (.bool true) ∧ Grown w w' := by
  obtain ⟨m1, m2⟩ := mul_bd x v (by omega) (by omega)
  obtain ⟨m3, m4⟩ := mul_bd z y (by omega) (by omega)
  obtain ⟨q, q', hq, hq', hlt, heq⟩ := rate_cmp x y z v (by omega) (by omega) (by omega) (by omega) (by omega) (by omega)
  have e1 : nrm x y * v.natAbs = (-(x * v)) := frac2 (by simp; omega) (by omega)
  have e2 : nrm z v * y.natAbs = (-(z * y)) := frac2 (by simp; omega) (by omega)
  rw [e1, e2] at hlt heq
  clear e1 e2
  have HQ := Lib.hid hq
  have HQ' := Lib.hid hq'
  clear hq hq'
  have g1 : (y == 0) = false := beq_eq_false_iff_ne.2 (by omega)
  have g3 : (v == 0) = false := beq_eq_false_iff_ne.2 (by omega)
  have g4 : decide (y < 0) = false := decide_eq_false (by omega)
  have g5 : decide (v < 0) = true := decide_eq_true (by omega)
  generalize hxv : x * v = xv at *
  generalize hzy : z * y = zy at *
  have HLT := Lib.hid hlt
  have HEQ := Lib.hid heq
  clear hlt heq
  have f1 : decide (x < 0) = true := decide_eq_true (by omega)
  have f2 : decide (0 ≤ x) = false := decide_eq_false (by omega)
  have HC : Hid (cls 9218868437227405312 = 5) := (by decide : cls 9218868437227405312 = 5)
  go_enter Try.func4, Try.ntmps4
  go_wp2_with fail
  refine (awake_any _).mono ?_
  rintro e w' ⟨rfl, rfl⟩
  go_wp2_with fail
  go_quiet (fail)
  go_wp2_with fail
  refine (rate_any _ _ _).mono ?_
  rintro e w1 ⟨s, rfl, hs1, hg1⟩
  have HS1 := Lib.hid hs1
  have HG1 := Lib.hid hg1
  clear hs1 hg1
  obtain rfl := HS1.out.2.1 _ HQ.out
  go_wp2_with fail
  refine (rate_any _ _ _).mono ?_
  rintro e w2 ⟨t, rfl, ht1, hg2⟩
  have HT1 := Lib.hid ht1
  have HG2 := Lib.hid hg2
  clear ht1 hg2
  obtain rfl := HT1.out.2.1 _ HQ'.out
  have hlt2 : (FloatKind.f64.format.order s t == some .lt) = decide ((-xv) < (-zy)) := HLT.out
  have heq2 : (FloatKind.f64.format.order s t == some .eq) = decide ((-xv) = (-zy)) := HEQ.out
  have heq3 : ((-xv) == (-zy)) = decide ((-xv) = (-zy)) := rfl
  go_wp2_with fail
  refine (since_neg _ _ (by omega) _).mono ?_
  rintro e w' ⟨rfl, rfl⟩
  go_wp2_with fail
  refine (class_any _ (by omega) _).mono ?_
  rintro e w' ⟨rfl, rfl⟩
  rw [HC.out]
  go_wp2_with fail
  go_ret
  refine ⟨rfl, ?_⟩
  have h1 := HG1.out
  have h2 := HG2.out
  rcases h2 with rfl | rfl <;> rcases h1 with rfl | rfl <;> first | exact grown_end _ _ _ _ | exact (grown_end _ _ _ _).drew | exact (grown_end _ _ _ _).drew.drew

set_option maxHeartbeats 1000000 in
theorem c7 (n0 n1 n2 n3 x y z v : Int) (ex : n0.tmod 1048576 = x) (ey : n1.tmod 1048576 = y) (ez : n2.tmod 1048576 = z) (ev : n3.tmod 1048576 = v)
    (c0 : -2147483648 ≤ n0 ∧ n0 ≤ 2147483647) (c1 : -2147483648 ≤ n1 ∧ n1 ≤ 2147483647) (c2 : -2147483648 ≤ n2 ∧ n2 ≤ 2147483647) (c3 : -2147483648 ≤ n3 ∧ n3 ≤ 2147483647)
    (bx1 : -1048576 < x) (bx2 : x < 1048576) (by1 : -1048576 < y) (by2 : y < 1048576) (bz1 : -1048576 < z) (bz2 : z < 1048576) (bv1 : -1048576 < v) (bv2 : v < 1048576)
    (hx : x < 0) (hy : y < 0) (hv : 0 < v) (w : World) :
    Calls Try.prog 4 #[.agg #[.int .i32 n0, .int .i32 n1, .int .i32 n2, .int .i32 n3]] w fun e w' => e = .returned (.bool true) ∧ Grown w w' := by
  obtain ⟨m1, m2⟩ := mul_bd x v (by omega) (by omega)
  obtain ⟨m3, m4⟩ := mul_bd z y (by omega) (by omega)
  obtain ⟨q, q', hq, hq', hlt, heq⟩ := rate_cmp x y z v (by omega) (by omega) (by omega) (by omega) (by omega) (by omega)
  have e1 : nrm x y * v.natAbs = (-(x * v)) := frac2 (by simp; omega) (by omega)
  have e2 : nrm z v * y.natAbs = (-(z * y)) := frac2 (by simp; omega) (by omega)
  rw [e1, e2] at hlt heq
  clear e1 e2
  have HQ := Lib.hid hq
  have HQ' := Lib.hid hq'
  clear hq hq'
  have g1 : (y == 0) = false := beq_eq_false_iff_ne.2 (by omega)
  have g3 : (v == 0) = false := beq_eq_false_iff_ne.2 (by omega)
  have g4 : decide (y < 0) = true := decide_eq_true (by omega)
  have g5 : decide (v < 0) = false := decide_eq_false (by omega)
  generalize hxv : x * v = xv at *
  generalize hzy : z * y = zy at *
  have HLT := Lib.hid hlt
  have HEQ := Lib.hid heq
  clear hlt heq
  have f1 : decide (x < 0) = true := decide_eq_true (by omega)
  have f2 : decide (0 ≤ x) = false := decide_eq_false (by omega)
  have HC : Hid (cls 9218868437227405312 = 5) := (by decide : cls 9218868437227405312 = 5)
  go_enter Try.func4, Try.ntmps4
  go_wp2_with fail
  refine (awake_any _).mono ?_
  rintro e w' ⟨rfl, rfl⟩
  go_wp2_with fail
  go_quiet (fail)
  go_wp2_with fail
  refine (rate_any _ _ _).mono ?_
  rintro e w1 ⟨s, rfl, hs1, hg1⟩
  have HS1 := Lib.hid hs1
  have HG1 := Lib.hid hg1
  clear hs1 hg1
  obtain rfl := HS1.out.2.1 _ HQ.out
  go_wp2_with fail
  refine (rate_any _ _ _).mono ?_
  rintro e w2 ⟨t, rfl, ht1, hg2⟩
  have HT1 := Lib.hid ht1
  have HG2 := Lib.hid hg2
  clear ht1 hg2
  obtain rfl := HT1.out.2.1 _ HQ'.out
  have hlt2 : (FloatKind.f64.format.order s t == some .lt) = decide ((-xv) < (-zy)) := HLT.out
  have heq2 : (FloatKind.f64.format.order s t == some .eq) = decide ((-xv) = (-zy)) := HEQ.out
  have heq3 : ((-xv) == (-zy)) = decide ((-xv) = (-zy)) := rfl
  go_wp2_with fail
  refine (since_neg _ _ (by omega) _).mono ?_
  rintro e w' ⟨rfl, rfl⟩
  go_wp2_with fail
  refine (class_any _ (by omega) _).mono ?_
  rintro e w' ⟨rfl, rfl⟩
  rw [HC.out]
  go_wp2_with fail
  go_ret
  refine ⟨rfl, ?_⟩
  have h1 := HG1.out
  have h2 := HG2.out
  rcases h2 with rfl | rfl <;> rcases h1 with rfl | rfl <;> first | exact grown_end _ _ _ _ | exact (grown_end _ _ _ _).drew | exact (grown_end _ _ _ _).drew.drew

set_option maxHeartbeats 1000000 in
theorem c8 (n0 n1 n2 n3 x y z v : Int) (ex : n0.tmod 1048576 = x) (ey : n1.tmod 1048576 = y) (ez : n2.tmod 1048576 = z) (ev : n3.tmod 1048576 = v)
    (c0 : -2147483648 ≤ n0 ∧ n0 ≤ 2147483647) (c1 : -2147483648 ≤ n1 ∧ n1 ≤ 2147483647) (c2 : -2147483648 ≤ n2 ∧ n2 ≤ 2147483647) (c3 : -2147483648 ≤ n3 ∧ n3 ≤ 2147483647)
    (bx1 : -1048576 < x) (bx2 : x < 1048576) (by1 : -1048576 < y) (by2 : y < 1048576) (bz1 : -1048576 < z) (bz2 : z < 1048576) (bv1 : -1048576 < v) (bv2 : v < 1048576)
    (hx : x < 0) (hy : y < 0) (hv : v < 0) (w : World) :
    Calls Try.prog 4 #[.agg #[.int .i32 n0, .int .i32 n1, .int .i32 n2, .int .i32 n3]] w fun e w' => e = .returned (.bool true) ∧ Grown w w' := by
  obtain ⟨m1, m2⟩ := mul_bd x v (by omega) (by omega)
  obtain ⟨m3, m4⟩ := mul_bd z y (by omega) (by omega)
  obtain ⟨q, q', hq, hq', hlt, heq⟩ := rate_cmp x y z v (by omega) (by omega) (by omega) (by omega) (by omega) (by omega)
  have e1 : nrm x y * v.natAbs = (x * v) := frac1 (by simp; omega) (by omega)
  have e2 : nrm z v * y.natAbs = (z * y) := frac1 (by simp; omega) (by omega)
  rw [e1, e2] at hlt heq
  clear e1 e2
  have HQ := Lib.hid hq
  have HQ' := Lib.hid hq'
  clear hq hq'
  have g1 : (y == 0) = false := beq_eq_false_iff_ne.2 (by omega)
  have g3 : (v == 0) = false := beq_eq_false_iff_ne.2 (by omega)
  have g4 : decide (y < 0) = true := decide_eq_true (by omega)
  have g5 : decide (v < 0) = true := decide_eq_true (by omega)
  generalize hxv : x * v = xv at *
  generalize hzy : z * y = zy at *
  have HLT := Lib.hid hlt
  have HEQ := Lib.hid heq
  clear hlt heq
  have f1 : decide (x < 0) = true := decide_eq_true (by omega)
  have f2 : decide (0 ≤ x) = false := decide_eq_false (by omega)
  have HC : Hid (cls 9218868437227405312 = 5) := (by decide : cls 9218868437227405312 = 5)
  go_enter Try.func4, Try.ntmps4
  go_wp2_with fail
  refine (awake_any _).mono ?_
  rintro e w' ⟨rfl, rfl⟩
  go_wp2_with fail
  go_quiet (fail)
  go_wp2_with fail
  refine (rate_any _ _ _).mono ?_
  rintro e w1 ⟨s, rfl, hs1, hg1⟩
  have HS1 := Lib.hid hs1
  have HG1 := Lib.hid hg1
  clear hs1 hg1
  obtain rfl := HS1.out.2.1 _ HQ.out
  go_wp2_with fail
  refine (rate_any _ _ _).mono ?_
  rintro e w2 ⟨t, rfl, ht1, hg2⟩
  have HT1 := Lib.hid ht1
  have HG2 := Lib.hid hg2
  clear ht1 hg2
  obtain rfl := HT1.out.2.1 _ HQ'.out
  have hlt2 : (FloatKind.f64.format.order s t == some .lt) = decide (xv < zy) := HLT.out
  have heq2 : (FloatKind.f64.format.order s t == some .eq) = decide (xv = zy) := HEQ.out
  have heq3 : (xv == zy) = decide (xv = zy) := rfl
  go_wp2_with fail
  refine (since_neg _ _ (by omega) _).mono ?_
  rintro e w' ⟨rfl, rfl⟩
  go_wp2_with fail
  refine (class_any _ (by omega) _).mono ?_
  rintro e w' ⟨rfl, rfl⟩
  rw [HC.out]
  go_wp2_with fail
  go_ret
  refine ⟨rfl, ?_⟩
  have h1 := HG1.out
  have h2 := HG2.out
  rcases h2 with rfl | rfl <;> rcases h1 with rfl | rfl <;> first | exact grown_end _ _ _ _ | exact (grown_end _ _ _ _).drew | exact (grown_end _ _ _ _).drew.drew

theorem walk (n0 n1 n2 n3 : Int) (h0 : (Lit.int .i32 n0).wf = true) (h1 : (Lit.int .i32 n1).wf = true) (h2 : (Lit.int .i32 n2).wf = true) (h3 : (Lit.int .i32 n3).wf = true) (w : World) :
    Calls Try.prog 4 #[.agg #[.int .i32 n0, .int .i32 n1, .int .i32 n2, .int .i32 n3]] w fun e w' => e = .returned (.bool true) ∧ Grown w w' := by
  have b0 := bounds_i32 h0
  have b1 := bounds_i32 h1
  have b2 := bounds_i32 h2
  have b3 := bounds_i32 h3
  have t0 := tmod_lt n0
  have t1 := tmod_lt n1
  have t2 := tmod_lt n2
  have t3 := tmod_lt n3
  obtain ⟨x, ex⟩ : ∃ x, n0.tmod 1048576 = x := ⟨_, rfl⟩
  obtain ⟨y, ey⟩ : ∃ y, n1.tmod 1048576 = y := ⟨_, rfl⟩
  obtain ⟨z, ez⟩ : ∃ z, n2.tmod 1048576 = z := ⟨_, rfl⟩
  obtain ⟨v, ev⟩ : ∃ v, n3.tmod 1048576 = v := ⟨_, rfl⟩
  rw [ex] at t0
  rw [ey] at t1
  rw [ez] at t2
  rw [ev] at t3
  by_cases hy : y = 0
  · by_cases hx : x = 0
    · exact a1 n0 n1 n2 n3 x y z v ex ey ez ev b0 b1 b2 b3 (by omega) (by omega) (by omega) (by omega) (by omega) (by omega) (by omega) (by omega) (by omega) hy w
    · by_cases hx2 : 0 < x
      · exact a2 n0 n1 n2 n3 x y z v ex ey ez ev b0 b1 b2 b3 (by omega) (by omega) (by omega) (by omega) (by omega) (by omega) (by omega) (by omega) hx2 hy w
      · exact a3 n0 n1 n2 n3 x y z v ex ey ez ev b0 b1 b2 b3 (by omega) (by omega) (by omega) (by omega) (by omega) (by omega) (by omega) (by omega) (by omega) hy w
  · by_cases hv : v = 0
    · by_cases hx : x < 0
      · exact b2' n0 n1 n2 n3 x y z v ex ey ez ev b0 b1 b2 b3 (by omega) (by omega) (by omega) (by omega) (by omega) (by omega) (by omega) (by omega) hx hy hv w
      · exact b1' n0 n1 n2 n3 x y z v ex ey ez ev b0 b1 b2 b3 (by omega) (by omega) (by omega) (by omega) (by omega) (by omega) (by omega) (by omega) (by omega) hy hv w
    · by_cases hx : x < 0 <;> by_cases hy2 : y < 0 <;> by_cases hv2 : v < 0
      · exact c8 n0 n1 n2 n3 x y z v ex ey ez ev b0 b1 b2 b3 (by omega) (by omega) (by omega) (by omega) (by omega) (by omega) (by omega) (by omega) (by omega) (by omega) (by omega) w
      · exact c7 n0 n1 n2 n3 x y z v ex ey ez ev b0 b1 b2 b3 (by omega) (by omega) (by omega) (by omega) (by omega) (by omega) (by omega) (by omega) (by omega) (by omega) (by omega) w
      · exact c6 n0 n1 n2 n3 x y z v ex ey ez ev b0 b1 b2 b3 (by omega) (by omega) (by omega) (by omega) (by omega) (by omega) (by omega) (by omega) (by omega) (by omega) (by omega) w
      · exact c5 n0 n1 n2 n3 x y z v ex ey ez ev b0 b1 b2 b3 (by omega) (by omega) (by omega) (by omega) (by omega) (by omega) (by omega) (by omega) (by omega) (by omega) (by omega) w
      · exact c4 n0 n1 n2 n3 x y z v ex ey ez ev b0 b1 b2 b3 (by omega) (by omega) (by omega) (by omega) (by omega) (by omega) (by omega) (by omega) (by omega) (by omega) (by omega) w
      · exact c3 n0 n1 n2 n3 x y z v ex ey ez ev b0 b1 b2 b3 (by omega) (by omega) (by omega) (by omega) (by omega) (by omega) (by omega) (by omega) (by omega) (by omega) (by omega) w
      · exact c2 n0 n1 n2 n3 x y z v ex ey ez ev b0 b1 b2 b3 (by omega) (by omega) (by omega) (by omega) (by omega) (by omega) (by omega) (by omega) (by omega) (by omega) (by omega) w
      · exact c1 n0 n1 n2 n3 x y z v ex ey ez ev b0 b1 b2 b3 (by omega) (by omega) (by omega) (by omega) (by omega) (by omega) (by omega) (by omega) (by omega) (by omega) (by omega) w

theorem own : ownKnob Try.prog.godebug = none := by kernel_rfl
theorem cellsA : Try.prog.cellsOf 27 = 4 := by kernel_rfl
theorem cellsI : Try.prog.cellsOf 21 = 1 := by kernel_rfl
theorem list4 {α : Type} (l : List α) (h : l.toArray.size = 4) : ∃ a b c d, l = [a, b, c, d] := by
  have h : l.length = 4 := by simpa using h
  match l, h with
  | [a, b, c, d], _ => exact ⟨a, b, c, d, rfl⟩

set_option maxRecDepth 100000 in
theorem lifted (os : Os) (started : os.Started) (H : Type) (enc : TypeId × Value → H) :
    ReturnsInHanded {} Try.checked os 4 .any (Rows.gaugeRatesSpec.pre6 enc Try.prog Try.f4 Rows.gaugeRatesRow.domain false) (Rows.gaugeRatesSpec.post enc Try.prog Try.f4 false true false false) := by
  refine returnsInHanded_of_change (C := Try.checked) own started (by kernel_rfl) Try.func4
    (ChangeSpec.witness6 (enc := enc) (C := Try.checked) false ⟨#[], #[.agg #[.int .i32 0, .int .i32 0, .int .i32 0, .int .i32 0]], []⟩ 8 (by kernel_rfl) (by kernel_rfl) (by kernel_rfl) (by kernel_rfl)) ?_
  intro W base args ds gs before hval0 hW hcnd _
  have hval : ∀ (j : Nat) t v, Try.f4.params[j]? = some t → args[j]? = some v → Value.okWide Try.prog W .any base t v := hval0
  have hW' := hW
  obtain ⟨p, q, hA0, hV, rfl, hfz, hnd⟩ := hW
  have hA : DataW.TrodAll enc Try.prog W 0 (fun _ => true) true Try.f4.params.toList args.toList ds p := hA0
  rw [Try.params4] at hA hval
  obtain ⟨v0, d0, rfl, rfl, h0⟩ := trodAll_one hA
  obtain ⟨rfl, rfl⟩ := trodVars_none hV
  obtain ⟨cs, rfl, hsz, _⟩ : ∃ cs, v0 = .agg cs ∧ cs.size = Try.prog.cellsOf 27 ∧ Row.okWide Try.prog W .any base 27 cs := by
    have := hval 0 27 v0 rfl rfl
    simpa [Value.okWide, Try.underlying27] using this
  rw [cellsA] at hsz
  obtain ⟨l⟩ := cs
  obtain ⟨c0, c1, c2, c3, rfl⟩ := list4 l hsz
  obtain ⟨fuel, hf⟩ := h0
  obtain ⟨y0, y1, y2, y3, m, hx, hy0, hy1, hy2, hy3⟩ := trod_array4 Try.underlying27 cellsI hf
  obtain ⟨x0, e0, rfl, w0⟩ := DataW.trod_int Try.underlying21 hy0
  obtain ⟨x1, e1, rfl, w1⟩ := DataW.trod_int Try.underlying21 hy1
  obtain ⟨x2, e2, rfl, w2⟩ := DataW.trod_int Try.underlying21 hy2
  obtain ⟨x3, e3, rfl, w3⟩ := DataW.trod_int Try.underlying21 hy3
  simp at e0 e1 e2 e3
  subst e0 e1 e2 e3
  simp only [Prod.mk.injEq] at hx
  obtain ⟨rfl, rfl⟩ := hx
  clear hA0 hval0
  simp only [List.append_nil] at hW'
  refine (walk x0 x1 x2 x3 w0 w1 w2 w3 W).mono fun e W' ⟨he, hg⟩ => ?_
  subst he
  have rdA : ∀ sp : Nat → Bool, DataW.Trod enc Try.prog W' 0 sp true 27 (.agg #[.int .i32 x0, .int .i32 x1, .int .i32 x2, .int .i32 x3]) (DataW.agg [.lit (.int .i32 x0), .lit (.int .i32 x1), .lit (.int .i32 x2), .lit (.int .i32 x3)]) [] :=
    fun sp => ⟨2, by simp [DataW.trod, Value.cells, Try.underlying27, Try.underlying21, cellsA, cellsI, w0, w1, w2, w3, List.range_succ]⟩
  exact ⟨_, rfl, post_of_same (pa := []) (pv := []) hW' (fun _ _ _ => trodAll_mk1 (shut_bool Try.underlying4 _)) (fun sp _ => trodAll_mk1 (rdA sp)) (fun _ _ => rfl) rfl
    (hg.frame _) hg.2.1 (ok_one (by kernel_rfl) rfl (okWide_bool_mk Try.underlying4 _))⟩

theorem over : Rows.gaugeRatesRow.holds Try.pinned (OpenSpec.ofChange Rows.gaugeRatesSpec) :=
  OpenClaim.holds_of_wide 4 Try.f4 rfl rfl rfl rfl rfl rfl rfl ⟨rfl, rfl, rfl, rfl, rfl⟩ rfl rfl rfl rfl rfl (by kernel_rfl) Try.func4 (by kernel_rfl)
    (of_decide_eq_true (by kernel_rfl)) (by unfold Func.isWrapper; first | (rw [if_pos (by decide +kernel)]; kernel_rfl) | (rw [if_neg (by decide +kernel)]; exact ⟨rfl, rfl⟩))
    (fun os started H enc _ => lifted os started H enc)

/-- THE STATEMENT. -/
theorem proved : Rows.GaugeRatesSaid :=
  over
#print axioms proved
end Go.Proofs.Ytnljfhoibkeloaa.gaugeRates
