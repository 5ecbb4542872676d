/-
  THE STATEMENT GaugeOrders: of any two words the program's classes and order are the reference's, and no word is before itself. No condition.
-/
import Derived.Test.YtnljfhoibkeloaaRows
import Derived.Test.YtnljfhoibkeloaaGauge
import Derived.WalkKit
import Derived.ProofKit
import Derived.OpenShut
namespace Go.Proofs.Ytnljfhoibkeloaa.gaugeOrders
open Go.ChangeShapes Go.WideShapes Go.ChangeAt Go.RowKit
set_option linter.unusedVariables false      -- a walk need not use every 'w<i>' (that an integer argument fits its kind)

theorem own : ownKnob Try.prog.godebug = none := by kernel_rfl


open Ga Fl in
/-- The two orders are one. -/
theorem ord_lt (a b : Nat) (ha : a < 18446744073709551616) (hb : b < 18446744073709551616) : decide (ord a b < 0) = lessR a b := by
  unfold ord lessR
  have hk : ∀ x : Nat, cls x = 1 → 9223372036854775808 ≤ x := by
    intro x h; unfold cls rung at h; (repeat (first | omega | split at h))
  have hk4 : ∀ x : Nat, cls x = 4 → x < 9223372036854775808 := by
    intro x h; unfold cls rung at h; (repeat (first | omega | split at h))
  have hz : ∀ x y : Nat, x < 18446744073709551616 → y < 18446744073709551616 → cls x = cls y → cls x ≠ 6 → cls x ≠ 1 → cls x ≠ 4 → key x = key y := by
    intro x y hx hy h h6 h1 h4
    unfold cls rung at h h6 h1 h4
    unfold key
    (repeat (first | omega | split at h | split at h6 | split))
  have hc : ∀ x : Nat, 0 ≤ cls x ∧ cls x ≤ 6 := by
    intro x; unfold cls; (repeat (first | omega | split))
  by_cases h : cls a = cls b
  · rw [← h, (cmpI_zero.2 rfl : cmpI (cls a) (cls a) = 0), if_neg (fun g => g rfl : ¬ (cls a ≠ cls a))]
    by_cases h6 : cls a = 6
    · rw [if_pos (.inr h6), if_neg (by omega), decide_eq_false (by omega : ¬ cls a = 4)]; rfl
    · rw [if_neg (by rintro (x | x); exact x rfl; exact h6 x)]
      by_cases h1 : cls a = 1
      · rw [if_pos h1, decide_eq_decide]
        have a1 := hk a h1
        have b1 := hk b (by omega)
        have ka : key a = -((a : Int) - 9223372036854775808) := by unfold key; rw [if_neg (by omega)]
        have kb : key b = -((b : Int) - 9223372036854775808) := by unfold key; rw [if_neg (by omega)]
        rw [ka, kb]
        unfold cmpI
        constructor <;> intro g <;> (repeat (first | omega | split at g | split))
      · rw [if_neg h1]
        by_cases h4 : cls a = 4
        · rw [decide_eq_true h4, Bool.true_and, decide_eq_decide]
          have a1 := hk4 a h4
          have b1 := hk4 b (by omega)
          have ka : key a = (a : Int) := by unfold key; rw [if_pos (by omega)]
          have kb : key b = (b : Int) := by unfold key; rw [if_pos (by omega)]
          rw [ka, kb]
          unfold cmpI
          constructor <;> intro g <;> (repeat (first | omega | split at g | split))
        · rw [decide_eq_false h4, Bool.false_and, hz a b ha hb h h6 h1 h4, (cmpI_zero.2 rfl : cmpI (key b) (key b) = 0)]; rfl
  · have hne : cmpI (cls a) (cls b) ≠ 0 := fun g => h (cmpI_zero.1 g)
    rw [if_pos (.inl hne), if_pos h, decide_eq_decide]
    unfold cmpI
    constructor <;> intro g <;> (repeat (first | omega | split at g | split))
open Ga Fl in
theorem ord_self (a : Nat) : decide (ord a a < 0) = false := by
  unfold ord
  rw [(cmpI_zero.2 rfl : cmpI (cls a) (cls a) = 0), (cmpI_zero.2 rfl : cmpI (key a) (key a) = 0)]
  split <;> rfl

open Ga Fl in
set_option maxHeartbeats 1000000 in
theorem walk (a0 : Int) (a1 : Int) (w0 : (Lit.int .u64 a0).wf = true) (w1 : (Lit.int .u64 a1).wf = true) (w : World) :
    Calls Try.prog 5 #[.int .u64 a0, .int .u64 a1] w fun e w' => e = .returned (.bool true) ∧ Grown w w' := by
  have g0 : 0 ≤ a0 ∧ a0 ≤ 18446744073709551615 := bounds_u64 w0
  have g1 : 0 ≤ a1 ∧ a1 ≤ 18446744073709551615 := bounds_u64 w1
  obtain ⟨x, rfl⟩ := Int.eq_ofNat_of_zero_le g0.1
  obtain ⟨y, rfl⟩ := Int.eq_ofNat_of_zero_le g1.1
  have hx : x < 18446744073709551616 := by omega
  have hy : y < 18446744073709551616 := by omega
  clear g0 g1 w0 w1
  have hfb := run_frombits
  have c1 : ∀ c : Int, (c == c) = true := by intro c; simp
  have l1 := Lib.hid (ord_lt x y hx hy)
  have l2 := Lib.hid (ord_self x)
  have l3 : (lessR x y == lessR x y) = true := by simp
  have k1 : (cls x == cls x) = true := c1 _
  have k2 : (cls y == cls y) = true := c1 _
  clear c1
  go_enter Try.func5, Try.ntmps5
  go_wp2_with fail
  refine (awake_any _).mono ?_
  rintro e w' ⟨rfl, rfl⟩
  go_wp2_with fail
  refine (class_any _ hx _).mono ?_
  rintro e w' ⟨rfl, rfl⟩
  go_wp2_with fail
  refine (refclass_any _ _).mono ?_
  rintro e w' ⟨rfl, rfl⟩
  go_wp2_with fail
  refine (class_any _ hy _).mono ?_
  rintro e w' ⟨rfl, rfl⟩
  go_wp2_with fail
  refine (refclass_any _ _).mono ?_
  rintro e w' ⟨rfl, rfl⟩
  go_wp2_with fail
  refine (less_any _ _ hx hy _).mono ?_
  rintro e w' ⟨rfl, rfl⟩
  rw [l1.out]
  go_wp2_with fail
  refine (refless_any _ _ _).mono ?_
  rintro e w' ⟨rfl, rfl⟩
  go_wp2_with fail
  refine (less_any _ _ hx hx _).mono ?_
  rintro e w' ⟨rfl, rfl⟩
  rw [l2.out]
  go_wp2_with fail
  go_ret
  exact ⟨rfl, Grown.refl _⟩

/-! ### THE ROW's STEP: WRITTEN OUT: LEAVE IT -/
set_option maxRecDepth 100000 in
theorem lifted (os : Os) (started : os.Started) (H : Type) (enc : TypeId × Value → H) :
    ReturnsInHanded {} Try.checked os 5 .any (Rows.gaugeOrdersSpec.pre6 enc Try.prog Try.f5 Rows.gaugeOrdersRow.domain false) (Rows.gaugeOrdersSpec.post enc Try.prog Try.f5 false true false false) := by
  refine returnsInHanded_of_change (C := Try.checked) own started (by kernel_rfl) Try.func5
    (ChangeSpec.witness6 (enc := enc) (C := Try.checked) false ⟨#[], #[.int .u64 0, .int .u64 0], []⟩ 8 (by kernel_rfl) (by kernel_rfl) (by kernel_rfl) (by kernel_rfl)) ?_
  intro W base args ds gs before hval0 hW hcnd _
  have hval : ∀ (j : Nat) t v, Try.f5.params[j]? = some t → args[j]? = some v → Value.okWide Try.prog W .any base t v := hval0
  have hW' := hW
  obtain ⟨p, q, hA0, hV, rfl, hfz, hnd⟩ := hW
  have hA : DataW.TrodAll enc Try.prog W 0 (fun _ => true) true Try.f5.params.toList args.toList ds p := hA0
  rw [Try.params5] at hA hval
  obtain ⟨v0, vs0, d0, ds0, p0, q0, hargs, rfl, rfl, h0, r0⟩ := trodAll_cons hA
  obtain ⟨v1, vs1, d1, ds1, p1, q1, rfl, rfl, rfl, h1, r1⟩ := trodAll_cons r0
  obtain ⟨rfl, rfl, rfl⟩ := trodAll_nil r1
  obtain rfl : args = #[v0, v1] := by cases args; simp_all
  obtain ⟨rfl, rfl⟩ := trodVars_none hV
  obtain ⟨a0, rfl, rfl, rfl, w0⟩ := open_int Try.underlying32 (hval 0 32 v0 rfl rfl) h0
  obtain ⟨a1, rfl, rfl, rfl, w1⟩ := open_int Try.underlying32 (hval 1 32 v1 rfl rfl) h1
  clear hA0 hval0
  simp only [List.append_nil] at hW'
  refine (walk a0 a1 w0 w1 W).mono fun e W' ⟨he, hg⟩ => ?_
  subst he
  exact ⟨_, rfl, post_of_same (pa := []) (pv := []) hW' (fun _ _ _ => (trodAll_cons_mk (shut_bool Try.underlying4 _) trodAll_mk0)) (fun sp _ => (trodAll_cons_mk (shut_int Try.underlying32 w0) (trodAll_cons_mk (shut_int Try.underlying32 w1) trodAll_mk0))) (fun _ _ => rfl) rfl
    (hg.frame _) hg.2.1 (ok_one (by kernel_rfl) rfl (okWide_bool_mk Try.underlying4 _))⟩

theorem over : Rows.gaugeOrdersRow.holds Try.pinned (OpenSpec.ofChange Rows.gaugeOrdersSpec) :=
  OpenClaim.holds_of_wide 5 Try.f5 rfl rfl rfl rfl rfl rfl rfl ⟨rfl, rfl, rfl, rfl, rfl⟩ rfl rfl rfl rfl rfl (by kernel_rfl) Try.func5 (by kernel_rfl)
    (of_decide_eq_true (by kernel_rfl)) (by unfold Func.isWrapper; first | (rw [if_pos (by decide +kernel)]; kernel_rfl) | (rw [if_neg (by decide +kernel)]; exact ⟨rfl, rfl⟩))
    (fun os started H enc _ => lifted os started H enc)

/-- ████ THE STATEMENT ████ -/
theorem proved : Rows.GaugeOrdersSaid :=
  over
#print axioms proved
end Go.Proofs.Ytnljfhoibkeloaa.gaugeOrders
