/- gauge.Sorted, Worst and Middle of nothing; the law's alike. -/
import Derived.Test.YtnljfhoibkeloaaTurnsA
namespace Go.Proofs.Ytnljfhoibkeloaa
open Go.RowKit Go.Sort Go.Lib
set_option linter.unusedVariables false
set_option linter.unusedSimpArgs false
namespace Sb
open St
theorem keyf (x y : W64) : lt x y = false ↔ ¬ (Ga.cls x.1 < Ga.cls y.1 ∨ (Ga.cls x.1 = Ga.cls y.1 ∧ Ga.cls x.1 ≠ 6 ∧ Fl.key x.1 < Fl.key y.1)) := by
  have key : lt x y = true ↔ (Ga.cls x.1 < Ga.cls y.1 ∨ (Ga.cls x.1 = Ga.cls y.1 ∧ Ga.cls x.1 ≠ 6 ∧ Fl.key x.1 < Fl.key y.1)) := by
    show decide (Ga.ord x.1 y.1 < 0) = true ↔ _
    rw [decide_eq_true_eq]
    unfold Ga.ord Ga.cmpI
    generalize Ga.cls x.1 = p
    generalize Ga.cls y.1 = q
    generalize Fl.key x.1 = r
    generalize Fl.key y.1 = s
    constructor
    · intro h
      (repeat (first | omega | split at h))
    · intro h
      (repeat (first | omega | split))
  rw [← key]
  cases lt x y <;> simp
/-- Alike: the same word, or both no numbers. -/
def Like (x y : W64) : Prop := x.1 = y.1 ∨ (Ga.cls x.1 = 6 ∧ Ga.cls y.1 = 6)
theorem like_of {x y : W64} (h1 : lt x y = false) (h2 : lt y x = false) : Like x y := by
  rw [keyf] at h1 h2
  have hx := x.2
  have hy := y.2
  have hc : Ga.cls x.1 = Ga.cls y.1 := by omega
  by_cases h6 : Ga.cls x.1 = 6
  · exact .inr ⟨h6, by omega⟩
  · left
    have hk : Fl.key x.1 = Fl.key y.1 := by omega
    clear h1 h2
    generalize x.1 = p at *
    generalize y.1 = q at *
    unfold Fl.key at hk
    unfold Ga.cls Fl.rung at hc h6
    (repeat (first | omega | split at hk | split at hc | split at h6))
theorem like_self (x : W64) : Like x x := .inl rfl
set_option maxHeartbeats 1000000 in
theorem alike_any (x y : W64) (h : Like x y) (w : World) :
    Calls Try.prog 21 #[.float .f64 x.1, .int .u64 (y.1 : Int)] w fun e w' => e = .returned (.bool true) ∧ w = w' := by
  obtain ⟨x, hx⟩ := x
  obtain ⟨y, hy⟩ := y
  have hfb := Ga.run_tobits
  by_cases e : x = y
  · subst e
    have b1 : ((x : Int) == (x : Int)) = true := by simp
    have b2 : decide ((x : Int) = (x : Int)) = true := decide_eq_true rfl
    clear h
    go_enter Try.func21, Try.ntmps21
    go_wp2_with fail
    go_ret
    exact ⟨rfl, rfl⟩
  · have h6 : Ga.cls x = 6 ∧ Ga.cls y = 6 := by
      rcases h with h | h
      · exact absurd h e
      · exact h
    have b1 : ((x : Int) == (y : Int)) = false := by simp; omega
    have b2 : decide ((x : Int) = (y : Int)) = false := decide_eq_false (by omega)
    have C1 := Lib.hid h6.1
    have C2 := Lib.hid h6.2
    clear h h6 e
    go_enter Try.func21, Try.ntmps21
    go_wp2_with fail
    refine (Ga.class_any x hx _).mono ?_
    rintro e w' ⟨rfl, rfl⟩
    rw [C1.out]
    go_wp2_with fail
    refine (Ga.refclass_any y _).mono ?_
    rintro e w' ⟨rfl, rfl⟩
    rw [C2.out]
    go_wp2_with fail
    go_ret
    exact ⟨rfl, rfl⟩
theorem nan_any (w : World) : Calls Try.prog 32 #[] w fun e w' => e = .returned (.float .f64 9221120237041090561) ∧ w = w' := by
  have hfb := Ga.run_frombits
  go_enter Try.func32, Try.ntmps32
  go_wp2_with fail
  go_ret
  exact ⟨rfl, rfl⟩
theorem worst_nil (w : World) : Calls Try.prog 19 #[.slice none 0 0] w fun e w' => e = .returned (.float .f64 9221120237041090561) ∧ w = w' := by
  go_enter Try.func19, Try.ntmps19
  go_wp2_with fail
  refine (nan_any _).mono ?_
  rintro e w' ⟨rfl, rfl⟩
  go_wp2_with fail
  go_ret
  exact ⟨rfl, rfl⟩
theorem middle_nil (w : World) : Calls Try.prog 22 #[.slice none 0 0] w fun e w' => e = .returned (.float .f64 9221120237041090561) ∧ w = w' := by
  go_enter Try.func22, Try.ntmps22
  go_wp2_with fail
  refine (nan_any _).mono ?_
  rintro e w' ⟨rfl, rfl⟩
  go_wp2_with fail
  go_ret
  exact ⟨rfl, rfl⟩
theorem cls_nan0 : Ga.cls 9221120237041090561 = 6 := by decide
theorem class_nan (w : World) : Calls Try.prog 13 #[.float .f64 9221120237041090561] w fun e w' => e = .returned (.int .i64 6) ∧ w = w' := by
  have h := Ga.class_any 9221120237041090561 (by omega) w
  rw [cls_nan0] at h
  exact h
theorem ins_nil (w : World) : Calls Try.prog 41 #[.slice none 0 0, .int .i64 0, .int .i64 0, .func (.func 29) #[] #[]] w fun e w' => e = .returned (.tuple #[]) ∧ w = w' := by
  go_enter Try.func41, Try.ntmps41
  go_wp2_with fail
  refine wp_loop_rounds 1 ?_
  rw [rounds_succ]
  go_wp2_with fail
  go_end0
  exact ⟨rfl, rfl⟩
theorem eq_nil (w : World) : (binOp .eql 38 (.slice none 0 0) (.slice none 0 0)).run Try.prog w = .ok (.bool true) w := by kernel_rfl
theorem sorted_nil (w : World) : Calls Try.prog 18 #[.slice none 0 0] w fun e w' => e = .returned (.slice none 0 0) ∧ w = w' := by
  have he := eq_nil
  go_enter Try.func18, Try.ntmps18
  go_wp2_with fail
  refine (show Calls Try.prog 30 #[.slice none 0 0] w (fun e w' => e = .returned (.slice none 0 0) ∧ w = w') from ?_).mono ?_
  · go_enter Try.func30, Try.ntmps30
    go_wp2_with fail
    go_ret
    exact ⟨rfl, rfl⟩
  rintro e w' ⟨rfl, rfl⟩
  go_wp2_with fail
  refine (show Calls Try.prog 31 #[.slice none 0 0, .func (.func 29) #[] #[]] w (fun e w' => e = .returned (.tuple #[]) ∧ w = w') from ?_).mono ?_
  · go_enter Try.func31, Try.ntmps31
    go_wp2_with fail
    refine (show Calls Try.prog 38 #[.slice none 0 0, .int .i64 0, .func (.func 29) #[] #[]] w (fun e w' => e = .returned (.tuple #[]) ∧ w = w') from ?_).mono ?_
    · go_enter Try.func38, Try.ntmps38
      go_wp2_with fail
      refine wp_loop_rounds 1 ?_
      rw [rounds_succ]
      go_wp2_with fail
      refine (ins_nil _).mono ?_
      rintro e w' ⟨rfl, rfl⟩
      go_wp2_with fail
      refine wp_loop_rounds 1 ?_
      rw [rounds_succ]
      go_wp2_with fail
      go_end0
      exact ⟨rfl, rfl⟩
    rintro e w' ⟨rfl, rfl⟩
    go_wp2_with fail
    go_end0
    exact ⟨rfl, rfl⟩
  rintro e w' ⟨rfl, rfl⟩
  go_wp2_with fail
  go_ret
  exact ⟨rfl, rfl⟩
end Sb
end Go.Proofs.Ytnljfhoibkeloaa
