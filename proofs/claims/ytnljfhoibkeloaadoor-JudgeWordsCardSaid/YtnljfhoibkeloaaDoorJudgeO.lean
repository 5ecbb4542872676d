/- The walk of JudgeWords at numbers that are no kinds. -/
import Derived.Test.YtnljfhoibkeloaaDoorJudgeL
import Derived.Test.YtnljfhoibkeloaaDoorArr
import Derived.BigQuiet
import Derived.Deep.QuietTactic
namespace Go.Proofs.YtnljfhoibkeloaaDoor
open Go.RowKit
set_option linter.unusedVariables false
set_option linter.unusedSimpArgs false
namespace Jw
open Ga Fl
set_option maxRecDepth 100000 in
set_option maxHeartbeats 4000000 in
theorem walk_neg (k : Int) (hk : k < 0) (m0 m1 m2 m3 m4 m5 m6 m7 m8 : Int) (h0 : 0 ≤ m0 ∧ m0 ≤ 65535) (h1 : 0 ≤ m1 ∧ m1 ≤ 65535) (h2 : 0 ≤ m2 ∧ m2 ≤ 65535) (h3 : 0 ≤ m3 ∧ m3 ≤ 65535) (h4 : 0 ≤ m4 ∧ m4 ≤ 65535) (h5 : 0 ≤ m5 ∧ m5 ≤ 65535) (h6 : 0 ≤ m6 ∧ m6 ≤ 65535) (h7 : 0 ≤ m7 ∧ m7 ≤ 65535) (h8 : 0 ≤ m8 ∧ m8 ≤ 65535) (W : World) (hW : Words W) :
    Calls Tryd.prog 3 #[.int .i64 k, .agg #[.int .u16 m0, .int .u16 m1, .int .u16 m2, .int .u16 m3, .int .u16 m4, .int .u16 m5, .int .u16 m6, .int .u16 m7, .int .u16 m8]] W fun e w' => e = .returned (.bool true) ∧ Below W.heap.size W w' := by
  obtain ⟨a0, b0⟩ := h0
  obtain ⟨a1, b1⟩ := h1
  obtain ⟨a2, b2⟩ := h2
  obtain ⟨a3, b3⟩ := h3
  obtain ⟨a4, b4⟩ := h4
  obtain ⟨a5, b5⟩ := h5
  obtain ⟨a6, b6⟩ := h6
  obtain ⟨a7, b7⟩ := h7
  obtain ⟨a8, b8⟩ := h8
  have HW := Lib.hid (hW.below ((Below.refl _ W).alloc (Nat.le_refl _) (.cells #[.int .u16 m0, .int .u16 m1, .int .u16 m2, .int .u16 m3, .int .u16 m4, .int .u16 m5, .int .u16 m6, .int .u16 m7, .int .u16 m8] 23)))
  clear hW
  have k1 : decide (0 ≤ k) = false := decide_eq_false (by omega)
  go_enter Tryd.func3, Tryd.ntmps3
  go_wp2_with fail
  refine (awake_any _ HW.out).mono ?_
  rintro e w1 ⟨rfl, hw1⟩
  have HWd := Lib.hid (HW.out.below hw1)
  have hz : W.heap.size < w1.heap.size := by have := hw1.size; simp at this; omega
  have c0 : w1.cell? ⟨W.heap.size, 0, none⟩ = some (.int .u16 m0) := (hw1.cell (p := ⟨W.heap.size, 0, none⟩) (by simp)).trans (by simp)
  have c1 : w1.cell? ⟨W.heap.size, 1, none⟩ = some (.int .u16 m1) := (hw1.cell (p := ⟨W.heap.size, 1, none⟩) (by simp)).trans (by simp)
  have c2 : w1.cell? ⟨W.heap.size, 2, none⟩ = some (.int .u16 m2) := (hw1.cell (p := ⟨W.heap.size, 2, none⟩) (by simp)).trans (by simp)
  have c3 : w1.cell? ⟨W.heap.size, 3, none⟩ = some (.int .u16 m3) := (hw1.cell (p := ⟨W.heap.size, 3, none⟩) (by simp)).trans (by simp)
  have c4 : w1.cell? ⟨W.heap.size, 4, none⟩ = some (.int .u16 m4) := (hw1.cell (p := ⟨W.heap.size, 4, none⟩) (by simp)).trans (by simp)
  have c5 : w1.cell? ⟨W.heap.size, 5, none⟩ = some (.int .u16 m5) := (hw1.cell (p := ⟨W.heap.size, 5, none⟩) (by simp)).trans (by simp)
  have c6 : w1.cell? ⟨W.heap.size, 6, none⟩ = some (.int .u16 m6) := (hw1.cell (p := ⟨W.heap.size, 6, none⟩) (by simp)).trans (by simp)
  have c7 : w1.cell? ⟨W.heap.size, 7, none⟩ = some (.int .u16 m7) := (hw1.cell (p := ⟨W.heap.size, 7, none⟩) (by simp)).trans (by simp)
  have c8 : w1.cell? ⟨W.heap.size, 8, none⟩ = some (.int .u16 m8) := (hw1.cell (p := ⟨W.heap.size, 8, none⟩) (by simp)).trans (by simp)
  have HB : Hid (Below W.heap.size W w1) := ((Below.refl _ W).alloc (Nat.le_refl _) _).trans (hw1.mono (by simp))
  clear hw1
  go_wp2_with fail
  have i0 : ∀ w, (Instr.index 23 (.agg #[.int .u16 m0, .int .u16 m1, .int .u16 m2, .int .u16 m3, .int .u16 m4, .int .u16 m5, .int .u16 m6, .int .u16 m7, .int .u16 m8]) (.int .i64 0)).run Tryd.prog w = .ok (.int .u16 m0) w := fun _ => by kernel_rfl
  have i1 : ∀ w, (Instr.index 23 (.agg #[.int .u16 m0, .int .u16 m1, .int .u16 m2, .int .u16 m3, .int .u16 m4, .int .u16 m5, .int .u16 m6, .int .u16 m7, .int .u16 m8]) (.int .i64 1)).run Tryd.prog w = .ok (.int .u16 m1) w := fun _ => by kernel_rfl
  have i2 : ∀ w, (Instr.index 23 (.agg #[.int .u16 m0, .int .u16 m1, .int .u16 m2, .int .u16 m3, .int .u16 m4, .int .u16 m5, .int .u16 m6, .int .u16 m7, .int .u16 m8]) (.int .i64 2)).run Tryd.prog w = .ok (.int .u16 m2) w := fun _ => by kernel_rfl
  have i3 : ∀ w, (Instr.index 23 (.agg #[.int .u16 m0, .int .u16 m1, .int .u16 m2, .int .u16 m3, .int .u16 m4, .int .u16 m5, .int .u16 m6, .int .u16 m7, .int .u16 m8]) (.int .i64 3)).run Tryd.prog w = .ok (.int .u16 m3) w := fun _ => by kernel_rfl
  have i4 : ∀ w, (Instr.index 23 (.agg #[.int .u16 m0, .int .u16 m1, .int .u16 m2, .int .u16 m3, .int .u16 m4, .int .u16 m5, .int .u16 m6, .int .u16 m7, .int .u16 m8]) (.int .i64 4)).run Tryd.prog w = .ok (.int .u16 m4) w := fun _ => by kernel_rfl
  have i5 : ∀ w, (Instr.index 23 (.agg #[.int .u16 m0, .int .u16 m1, .int .u16 m2, .int .u16 m3, .int .u16 m4, .int .u16 m5, .int .u16 m6, .int .u16 m7, .int .u16 m8]) (.int .i64 5)).run Tryd.prog w = .ok (.int .u16 m5) w := fun _ => by kernel_rfl
  have i6 : ∀ w, (Instr.index 23 (.agg #[.int .u16 m0, .int .u16 m1, .int .u16 m2, .int .u16 m3, .int .u16 m4, .int .u16 m5, .int .u16 m6, .int .u16 m7, .int .u16 m8]) (.int .i64 6)).run Tryd.prog w = .ok (.int .u16 m6) w := fun _ => by kernel_rfl
  have i7 : ∀ w, (Instr.index 23 (.agg #[.int .u16 m0, .int .u16 m1, .int .u16 m2, .int .u16 m3, .int .u16 m4, .int .u16 m5, .int .u16 m6, .int .u16 m7, .int .u16 m8]) (.int .i64 7)).run Tryd.prog w = .ok (.int .u16 m7) w := fun _ => by kernel_rfl
  have i8 : ∀ w, (Instr.index 23 (.agg #[.int .u16 m0, .int .u16 m1, .int .u16 m2, .int .u16 m3, .int .u16 m4, .int .u16 m5, .int .u16 m6, .int .u16 m7, .int .u16 m8]) (.int .i64 8)).run Tryd.prog w = .ok (.int .u16 m8) w := fun _ => by kernel_rfl
  refine wp_loop_rounds 10 ?_
  iterate 10 (rw [rounds_succ]; go_wp2_with fail)
  refine (health_any m0 m1 m2 m3 m4 m5 m6 m7 m8 ⟨a0, b0⟩ ⟨a1, b1⟩ ⟨a2, b2⟩ ⟨a3, b3⟩ ⟨a4, b4⟩ ⟨a5, b5⟩ ⟨a6, b6⟩ ⟨a7, b7⟩ ⟨a8, b8⟩ _).mono ?_
  rintro e w2 ⟨b, rfl, hR, hw2⟩
  clear i0 i1 i2 i3 i4 i5 i6 i7 i8 c0 c1 c2 c3 c4 c5 c6 c7 c8
  have HW2 : Hid (Below W.heap.size W w2) := (((HB.out.alloc HB.out.size _).alloc (by simp; omega) _)).trans (hw2.mono (by simp; omega))
  have HWd2 : Hid (Words w2) := (HWd.out.below (((Below.refl _ w1).alloc (Nat.le_refl _) _).alloc (by simp) _)).below hw2
  have ht : word k = [63] := if_pos (by omega)
  have HT := Lib.hid ht
  have HRR := Lib.hid hR
  have hb64 := hR.1
  clear ht hR hw2 HB HWd HW
  by_cases h0 : m1 + m2 + m3 + m4 + m5 + m6 + m8 = 0
  · have t0 : (m1 + m2 + m3 + m4 + m5 + m6 + m8 == 0) = true := beq_iff_eq.2 h0
    have hn : isNan b = true := by
      have h := HRR.out
      rw [h0] at h
      have h36 : m3 + m6 = 0 := by omega
      rw [h36] at h
      exact cls_six.1 (by simpa using rate_cls (x := 0) (by decide) h)
    have HN := Lib.hid hn
    clear h0 hn
    go_wp2_with fail
    refine (isnan_any _ hb64 _).mono ?_
    rintro e w' ⟨rfl, rfl⟩
    rw [HN.out]
    go_wp2_with fail
    refine (text_any _ _ HWd2.out).mono ?_
    rintro e w' ⟨rfl, rfl⟩
    rw [HT.out]
    go_wp2_with fail
    refine (serves_any _ _).mono ?_
    rintro e w' ⟨rfl, rfl⟩
    have q1 : (k == 3) = false := beq_eq_false_iff_ne.2 (by omega)
    have q2 : (k == 6) = false := beq_eq_false_iff_ne.2 (by omega)
    go_wp2_with fail
    go_ret
    exact ⟨by simp [q1, q2], HW2.out⟩
  · have t0 : (m1 + m2 + m3 + m4 + m5 + m6 + m8 == 0) = false := beq_eq_false_iff_ne.2 h0
    obtain ⟨r, hd, r64, rn, _⟩ := rate_one (m3 + m6) (m1 + m2 + m3 + m4 + m5 + m6 + m8) (by omega) (by omega) h0
    obtain rfl : b = r := HRR.out.2.1 _ hd
    have hq := fun (w : World) => run_float_arith (P := Tryd.prog) w .quo 27 .f64 (floatOfInt .f64 (m3 + m6)) (floatOfInt .f64 (m1 + m2 + m3 + m4 + m5 + m6 + m8)) b hd
    have hne : (FloatKind.f64.format.order b b != some .eq) = false := (ne_self b r64).trans rn
    clear h0 hd rn HRR
    go_wp2_with fail
    refine (text_any _ _ HWd2.out).mono ?_
    rintro e w' ⟨rfl, rfl⟩
    rw [HT.out]
    go_wp2_with fail
    refine (serves_any _ _).mono ?_
    rintro e w' ⟨rfl, rfl⟩
    have q1 : (k == 3) = false := beq_eq_false_iff_ne.2 (by omega)
    have q2 : (k == 6) = false := beq_eq_false_iff_ne.2 (by omega)
    go_wp2_with fail
    go_ret
    exact ⟨by simp [q1, q2], HW2.out⟩

set_option maxRecDepth 100000 in
set_option maxHeartbeats 4000000 in
theorem walk_great (k : Int) (hk : 9 ≤ k) (m0 m1 m2 m3 m4 m5 m6 m7 m8 : Int) (h0 : 0 ≤ m0 ∧ m0 ≤ 65535) (h1 : 0 ≤ m1 ∧ m1 ≤ 65535) (h2 : 0 ≤ m2 ∧ m2 ≤ 65535) (h3 : 0 ≤ m3 ∧ m3 ≤ 65535) (h4 : 0 ≤ m4 ∧ m4 ≤ 65535) (h5 : 0 ≤ m5 ∧ m5 ≤ 65535) (h6 : 0 ≤ m6 ∧ m6 ≤ 65535) (h7 : 0 ≤ m7 ∧ m7 ≤ 65535) (h8 : 0 ≤ m8 ∧ m8 ≤ 65535) (W : World) (hW : Words W) :
    Calls Tryd.prog 3 #[.int .i64 k, .agg #[.int .u16 m0, .int .u16 m1, .int .u16 m2, .int .u16 m3, .int .u16 m4, .int .u16 m5, .int .u16 m6, .int .u16 m7, .int .u16 m8]] W fun e w' => e = .returned (.bool true) ∧ Below W.heap.size W w' := by
  obtain ⟨a0, b0⟩ := h0
  obtain ⟨a1, b1⟩ := h1
  obtain ⟨a2, b2⟩ := h2
  obtain ⟨a3, b3⟩ := h3
  obtain ⟨a4, b4⟩ := h4
  obtain ⟨a5, b5⟩ := h5
  obtain ⟨a6, b6⟩ := h6
  obtain ⟨a7, b7⟩ := h7
  obtain ⟨a8, b8⟩ := h8
  have HW := Lib.hid (hW.below ((Below.refl _ W).alloc (Nat.le_refl _) (.cells #[.int .u16 m0, .int .u16 m1, .int .u16 m2, .int .u16 m3, .int .u16 m4, .int .u16 m5, .int .u16 m6, .int .u16 m7, .int .u16 m8] 23)))
  clear hW
  have k1 : decide (0 ≤ k) = true := decide_eq_true (by omega)
  have k2 : decide (k < 9) = false := decide_eq_false (by omega)
  go_enter Tryd.func3, Tryd.ntmps3
  go_wp2_with fail
  refine (awake_any _ HW.out).mono ?_
  rintro e w1 ⟨rfl, hw1⟩
  have HWd := Lib.hid (HW.out.below hw1)
  have hz : W.heap.size < w1.heap.size := by have := hw1.size; simp at this; omega
  have c0 : w1.cell? ⟨W.heap.size, 0, none⟩ = some (.int .u16 m0) := (hw1.cell (p := ⟨W.heap.size, 0, none⟩) (by simp)).trans (by simp)
  have c1 : w1.cell? ⟨W.heap.size, 1, none⟩ = some (.int .u16 m1) := (hw1.cell (p := ⟨W.heap.size, 1, none⟩) (by simp)).trans (by simp)
  have c2 : w1.cell? ⟨W.heap.size, 2, none⟩ = some (.int .u16 m2) := (hw1.cell (p := ⟨W.heap.size, 2, none⟩) (by simp)).trans (by simp)
  have c3 : w1.cell? ⟨W.heap.size, 3, none⟩ = some (.int .u16 m3) := (hw1.cell (p := ⟨W.heap.size, 3, none⟩) (by simp)).trans (by simp)
  have c4 : w1.cell? ⟨W.heap.size, 4, none⟩ = some (.int .u16 m4) := (hw1.cell (p := ⟨W.heap.size, 4, none⟩) (by simp)).trans (by simp)
  have c5 : w1.cell? ⟨W.heap.size, 5, none⟩ = some (.int .u16 m5) := (hw1.cell (p := ⟨W.heap.size, 5, none⟩) (by simp)).trans (by simp)
  have c6 : w1.cell? ⟨W.heap.size, 6, none⟩ = some (.int .u16 m6) := (hw1.cell (p := ⟨W.heap.size, 6, none⟩) (by simp)).trans (by simp)
  have c7 : w1.cell? ⟨W.heap.size, 7, none⟩ = some (.int .u16 m7) := (hw1.cell (p := ⟨W.heap.size, 7, none⟩) (by simp)).trans (by simp)
  have c8 : w1.cell? ⟨W.heap.size, 8, none⟩ = some (.int .u16 m8) := (hw1.cell (p := ⟨W.heap.size, 8, none⟩) (by simp)).trans (by simp)
  have HB : Hid (Below W.heap.size W w1) := ((Below.refl _ W).alloc (Nat.le_refl _) _).trans (hw1.mono (by simp))
  clear hw1
  go_wp2_with fail
  have i0 : ∀ w, (Instr.index 23 (.agg #[.int .u16 m0, .int .u16 m1, .int .u16 m2, .int .u16 m3, .int .u16 m4, .int .u16 m5, .int .u16 m6, .int .u16 m7, .int .u16 m8]) (.int .i64 0)).run Tryd.prog w = .ok (.int .u16 m0) w := fun _ => by kernel_rfl
  have i1 : ∀ w, (Instr.index 23 (.agg #[.int .u16 m0, .int .u16 m1, .int .u16 m2, .int .u16 m3, .int .u16 m4, .int .u16 m5, .int .u16 m6, .int .u16 m7, .int .u16 m8]) (.int .i64 1)).run Tryd.prog w = .ok (.int .u16 m1) w := fun _ => by kernel_rfl
  have i2 : ∀ w, (Instr.index 23 (.agg #[.int .u16 m0, .int .u16 m1, .int .u16 m2, .int .u16 m3, .int .u16 m4, .int .u16 m5, .int .u16 m6, .int .u16 m7, .int .u16 m8]) (.int .i64 2)).run Tryd.prog w = .ok (.int .u16 m2) w := fun _ => by kernel_rfl
  have i3 : ∀ w, (Instr.index 23 (.agg #[.int .u16 m0, .int .u16 m1, .int .u16 m2, .int .u16 m3, .int .u16 m4, .int .u16 m5, .int .u16 m6, .int .u16 m7, .int .u16 m8]) (.int .i64 3)).run Tryd.prog w = .ok (.int .u16 m3) w := fun _ => by kernel_rfl
  have i4 : ∀ w, (Instr.index 23 (.agg #[.int .u16 m0, .int .u16 m1, .int .u16 m2, .int .u16 m3, .int .u16 m4, .int .u16 m5, .int .u16 m6, .int .u16 m7, .int .u16 m8]) (.int .i64 4)).run Tryd.prog w = .ok (.int .u16 m4) w := fun _ => by kernel_rfl
  have i5 : ∀ w, (Instr.index 23 (.agg #[.int .u16 m0, .int .u16 m1, .int .u16 m2, .int .u16 m3, .int .u16 m4, .int .u16 m5, .int .u16 m6, .int .u16 m7, .int .u16 m8]) (.int .i64 5)).run Tryd.prog w = .ok (.int .u16 m5) w := fun _ => by kernel_rfl
  have i6 : ∀ w, (Instr.index 23 (.agg #[.int .u16 m0, .int .u16 m1, .int .u16 m2, .int .u16 m3, .int .u16 m4, .int .u16 m5, .int .u16 m6, .int .u16 m7, .int .u16 m8]) (.int .i64 6)).run Tryd.prog w = .ok (.int .u16 m6) w := fun _ => by kernel_rfl
  have i7 : ∀ w, (Instr.index 23 (.agg #[.int .u16 m0, .int .u16 m1, .int .u16 m2, .int .u16 m3, .int .u16 m4, .int .u16 m5, .int .u16 m6, .int .u16 m7, .int .u16 m8]) (.int .i64 7)).run Tryd.prog w = .ok (.int .u16 m7) w := fun _ => by kernel_rfl
  have i8 : ∀ w, (Instr.index 23 (.agg #[.int .u16 m0, .int .u16 m1, .int .u16 m2, .int .u16 m3, .int .u16 m4, .int .u16 m5, .int .u16 m6, .int .u16 m7, .int .u16 m8]) (.int .i64 8)).run Tryd.prog w = .ok (.int .u16 m8) w := fun _ => by kernel_rfl
  refine wp_loop_rounds 10 ?_
  iterate 10 (rw [rounds_succ]; go_wp2_with fail)
  refine (health_any m0 m1 m2 m3 m4 m5 m6 m7 m8 ⟨a0, b0⟩ ⟨a1, b1⟩ ⟨a2, b2⟩ ⟨a3, b3⟩ ⟨a4, b4⟩ ⟨a5, b5⟩ ⟨a6, b6⟩ ⟨a7, b7⟩ ⟨a8, b8⟩ _).mono ?_
  rintro e w2 ⟨b, rfl, hR, hw2⟩
  clear i0 i1 i2 i3 i4 i5 i6 i7 i8 c0 c1 c2 c3 c4 c5 c6 c7 c8
  have HW2 : Hid (Below W.heap.size W w2) := (((HB.out.alloc HB.out.size _).alloc (by simp; omega) _)).trans (hw2.mono (by simp; omega))
  have HWd2 : Hid (Words w2) := (HWd.out.below (((Below.refl _ w1).alloc (Nat.le_refl _) _).alloc (by simp) _)).below hw2
  have ht : word k = [63] := if_pos (by omega)
  have HT := Lib.hid ht
  have HRR := Lib.hid hR
  have hb64 := hR.1
  clear ht hR hw2 HB HWd HW
  by_cases h0 : m1 + m2 + m3 + m4 + m5 + m6 + m8 = 0
  · have t0 : (m1 + m2 + m3 + m4 + m5 + m6 + m8 == 0) = true := beq_iff_eq.2 h0
    have hn : isNan b = true := by
      have h := HRR.out
      rw [h0] at h
      have h36 : m3 + m6 = 0 := by omega
      rw [h36] at h
      exact cls_six.1 (by simpa using rate_cls (x := 0) (by decide) h)
    have HN := Lib.hid hn
    clear h0 hn
    go_wp2_with fail
    refine (isnan_any _ hb64 _).mono ?_
    rintro e w' ⟨rfl, rfl⟩
    rw [HN.out]
    go_wp2_with fail
    refine (text_any _ _ HWd2.out).mono ?_
    rintro e w' ⟨rfl, rfl⟩
    rw [HT.out]
    go_wp2_with fail
    refine (serves_any _ _).mono ?_
    rintro e w' ⟨rfl, rfl⟩
    have q1 : (k == 3) = false := beq_eq_false_iff_ne.2 (by omega)
    have q2 : (k == 6) = false := beq_eq_false_iff_ne.2 (by omega)
    go_wp2_with fail
    go_ret
    exact ⟨by simp [q1, q2], HW2.out⟩
  · have t0 : (m1 + m2 + m3 + m4 + m5 + m6 + m8 == 0) = false := beq_eq_false_iff_ne.2 h0
    obtain ⟨r, hd, r64, rn, _⟩ := rate_one (m3 + m6) (m1 + m2 + m3 + m4 + m5 + m6 + m8) (by omega) (by omega) h0
    obtain rfl : b = r := HRR.out.2.1 _ hd
    have hq := fun (w : World) => run_float_arith (P := Tryd.prog) w .quo 27 .f64 (floatOfInt .f64 (m3 + m6)) (floatOfInt .f64 (m1 + m2 + m3 + m4 + m5 + m6 + m8)) b hd
    have hne : (FloatKind.f64.format.order b b != some .eq) = false := (ne_self b r64).trans rn
    clear h0 hd rn HRR
    go_wp2_with fail
    refine (text_any _ _ HWd2.out).mono ?_
    rintro e w' ⟨rfl, rfl⟩
    rw [HT.out]
    go_wp2_with fail
    refine (serves_any _ _).mono ?_
    rintro e w' ⟨rfl, rfl⟩
    have q1 : (k == 3) = false := beq_eq_false_iff_ne.2 (by omega)
    have q2 : (k == 6) = false := beq_eq_false_iff_ne.2 (by omega)
    go_wp2_with fail
    go_ret
    exact ⟨by simp [q1, q2], HW2.out⟩
theorem open9 {H : Type} {enc : TypeId × Value → H} {W : World} {b base : Nat} {sp : Nat → Bool} {held : Bool} {v : Value} {d : DataW H} {p : List MemPlace}
    (hok : Value.okWide Tryd.prog W .any base 23 v) (h : DataW.Trod enc Tryd.prog W b sp held 23 v d p) :
    ∃ x : Nat → Int, v = .agg #[.int .u16 (x 0), .int .u16 (x 1), .int .u16 (x 2), .int .u16 (x 3), .int .u16 (x 4), .int .u16 (x 5), .int .u16 (x 6), .int .u16 (x 7), .int .u16 (x 8)] ∧ ∀ i, i < 9 → 0 ≤ x i ∧ x i ≤ 65535 := by
  obtain ⟨x, hx, hw⟩ := Ar.open_arr (n := 9) Tryd.underlying23 Tryd.underlying22 (by kernel_rfl) (by kernel_rfl) hok h
  exact ⟨x, hx, fun i hi => bounds_u16 (hw i hi)⟩
end Jw
end Go.Proofs.YtnljfhoibkeloaaDoor
namespace Go.Proofs.YtnljfhoibkeloaaDoor.judgeWords
open Go.RowKit
theorem walk (k : Int) (wk : (Lit.int .i64 k).wf = true) (x : Nat → Int) (hx : ∀ i, i < 9 → 0 ≤ x i ∧ x i ≤ 65535) (W : World) (hW : Jw.Words W) :
    Calls Tryd.prog 3 #[.int .i64 k, .agg #[.int .u16 (x 0), .int .u16 (x 1), .int .u16 (x 2), .int .u16 (x 3), .int .u16 (x 4), .int .u16 (x 5), .int .u16 (x 6), .int .u16 (x 7), .int .u16 (x 8)]] W fun e w' => e = .returned (.bool true) ∧ Below W.heap.size W w' := by
  have h0 := hx 0 (by omega)
  have h1 := hx 1 (by omega)
  have h2 := hx 2 (by omega)
  have h3 := hx 3 (by omega)
  have h4 := hx 4 (by omega)
  have h5 := hx 5 (by omega)
  have h6 := hx 6 (by omega)
  have h7 := hx 7 (by omega)
  have h8 := hx 8 (by omega)
  by_cases hn : k < 0
  · exact Jw.walk_neg k hn _ _ _ _ _ _ _ _ _ h0 h1 h2 h3 h4 h5 h6 h7 h8 W hW
  · by_cases hg : 9 ≤ k
    · exact Jw.walk_great k hg _ _ _ _ _ _ _ _ _ h0 h1 h2 h3 h4 h5 h6 h7 h8 W hW
    · obtain ⟨i, rfl⟩ := Int.eq_ofNat_of_zero_le (show 0 ≤ k by omega)
      exact Jw.walk_in i (by omega) _ _ _ _ _ _ _ _ _ h0 h1 h2 h3 h4 h5 h6 h7 h8 W hW
end Go.Proofs.YtnljfhoibkeloaaDoor.judgeWords
