/- The walk of the law PathClashes. -/
import Derived.Test.YtjnpmabnnbngeaaDoorPathC
namespace Go.Proofs.YtjnpmabnnbngeaaDoor.pathClashes
open Go.RowKit Go.Shelf
open _root_.Go.Proofs.YtjnpmabnnbngeaaDoor.Pa
set_option linter.unusedVariables false
set_option linter.unusedSimpArgs false

theorem in_not (a b : List UInt8) : (inB a b && inB b a) = false := by
  unfold inB
  by_cases h : b.length + 1 < a.length
  · have : ¬ a.length + 1 < b.length := by omega
    rw [decide_eq_false this]; simp
  · rw [decide_eq_false h]; simp
theorem in_self (a : List UInt8) : inB a a = false := by
  unfold inB; rw [decide_eq_false (by omega)]; rfl

set_option maxHeartbeats 1000000 in
theorem walk (a : ByteArray) (ha : a.size ≤ maxLen) (b : ByteArray) (hb : b.size ≤ maxLen) (w : World) :
    Calls Tryd.prog 3 #[.string a, .string b] w fun e w' => e = .returned (.bool true) ∧ Below w.heap.size w w' := by
  unfold maxLen at ha hb
  by_cases h1 : 300 < a.size
  · have b1 : decide ((300 : Int) < (a.size : Int)) = true := decide_eq_true (by omega)
    go_enter Tryd.func3, Tryd.ntmps3
    go_wp2_with fail
    refine (awake_any _).mono ?_
    rintro e w1 ⟨rfl, hw1⟩
    have H1 := Lib.hid hw1
    clear hw1
    go_wp2_with fail
    refine (awake_any _).mono ?_
    rintro e w2 ⟨rfl, hw2⟩
    have H2 := Lib.hid hw2
    clear hw2
    go_wp2_with fail
    go_ret
    exact ⟨rfl, H1.out.trans (H2.out.mono H1.out.size)⟩
  · by_cases h2 : 300 < b.size
    · have b1 : decide ((300 : Int) < (a.size : Int)) = false := decide_eq_false (by omega)
      have b2 : decide ((300 : Int) < (b.size : Int)) = true := decide_eq_true (by omega)
      go_enter Tryd.func3, Tryd.ntmps3
      go_wp2_with fail
      refine (awake_any _).mono ?_
      rintro e w1 ⟨rfl, hw1⟩
      have H1 := Lib.hid hw1
      clear hw1
      go_wp2_with fail
      refine (awake_any _).mono ?_
      rintro e w2 ⟨rfl, hw2⟩
      have H2 := Lib.hid hw2
      clear hw2
      go_wp2_with fail
      go_ret
      exact ⟨rfl, H1.out.trans (H2.out.mono H1.out.size)⟩
    · have b1 : decide ((300 : Int) < (a.size : Int)) = false := decide_eq_false (by omega)
      have b2 : decide ((300 : Int) < (b.size : Int)) = false := decide_eq_false (by omega)
      obtain ⟨x, hx⟩ : ∃ x, inB (tl a) (tl b) = x := ⟨_, rfl⟩
      obtain ⟨y, hy⟩ : ∃ y, inB (tl b) (tl a) = y := ⟨_, rfl⟩
      have hxy := in_not (tl a) (tl b)
      rw [hx, hy] at hxy
      have hs := in_self (tl a)
      have c1 := fun w => in_any a b (by omega) (by omega) w
      have c2 := fun w => in_any b a (by omega) (by omega) w
      have c3 := fun w => in_any a a (by omega) (by omega) w
      have c4 := fun w => clash_any a b (by omega) (by omega) w
      have r1 := fun w => refin_any a b (by omega) (by omega) w
      have r2 := fun w => refin_any b a (by omega) (by omega) w
      rw [hx] at c1 r1
      rw [hy] at c2 r2
      rw [hx, hy] at c4
      rw [hs] at c3
      have C1 := Lib.hid c1
      have C2 := Lib.hid c2
      have C3 := Lib.hid c3
      have C4 := Lib.hid c4
      have R1 := Lib.hid r1
      have R2 := Lib.hid r2
      clear c1 c2 c3 c4 r1 r2 hx hy hs h1 h2 ha hb
      cases x <;> cases y
      · go_enter Tryd.func3, Tryd.ntmps3
        go_wp2_with (first | (go_at_call 15; refine (awake_any _).mono ?_; rintro e w1 ⟨rfl, hw1⟩; have H1 := Lib.hid hw1; clear hw1) | (go_at_call 18; refine (C4.out _).mono ?_; rintro e w' ⟨rfl, rfl⟩) | (go_at_call 16; (with_reducible refine (C1.out _).mono ?_); rintro e w' ⟨rfl, rfl⟩) | (go_at_call 16; (with_reducible refine (C2.out _).mono ?_); rintro e w' ⟨rfl, rfl⟩) | (go_at_call 16; (with_reducible refine (C3.out _).mono ?_); rintro e w' ⟨rfl, rfl⟩) | (go_at_call 17; (with_reducible refine (R1.out _).mono ?_); rintro e w' ⟨rfl, rfl⟩) | (go_at_call 17; (with_reducible refine (R2.out _).mono ?_); rintro e w' ⟨rfl, rfl⟩))
        go_ret
        exact ⟨rfl, H1.out⟩
      · go_enter Tryd.func3, Tryd.ntmps3
        go_wp2_with (first | (go_at_call 15; refine (awake_any _).mono ?_; rintro e w1 ⟨rfl, hw1⟩; have H1 := Lib.hid hw1; clear hw1) | (go_at_call 18; refine (C4.out _).mono ?_; rintro e w' ⟨rfl, rfl⟩) | (go_at_call 16; (with_reducible refine (C1.out _).mono ?_); rintro e w' ⟨rfl, rfl⟩) | (go_at_call 16; (with_reducible refine (C2.out _).mono ?_); rintro e w' ⟨rfl, rfl⟩) | (go_at_call 16; (with_reducible refine (C3.out _).mono ?_); rintro e w' ⟨rfl, rfl⟩) | (go_at_call 17; (with_reducible refine (R1.out _).mono ?_); rintro e w' ⟨rfl, rfl⟩) | (go_at_call 17; (with_reducible refine (R2.out _).mono ?_); rintro e w' ⟨rfl, rfl⟩))
        go_ret
        exact ⟨rfl, H1.out⟩
      · go_enter Tryd.func3, Tryd.ntmps3
        go_wp2_with (first | (go_at_call 15; refine (awake_any _).mono ?_; rintro e w1 ⟨rfl, hw1⟩; have H1 := Lib.hid hw1; clear hw1) | (go_at_call 18; refine (C4.out _).mono ?_; rintro e w' ⟨rfl, rfl⟩) | (go_at_call 16; (with_reducible refine (C1.out _).mono ?_); rintro e w' ⟨rfl, rfl⟩) | (go_at_call 16; (with_reducible refine (C2.out _).mono ?_); rintro e w' ⟨rfl, rfl⟩) | (go_at_call 16; (with_reducible refine (C3.out _).mono ?_); rintro e w' ⟨rfl, rfl⟩) | (go_at_call 17; (with_reducible refine (R1.out _).mono ?_); rintro e w' ⟨rfl, rfl⟩) | (go_at_call 17; (with_reducible refine (R2.out _).mono ?_); rintro e w' ⟨rfl, rfl⟩))
        go_ret
        exact ⟨rfl, H1.out⟩
      · cases hxy
end Go.Proofs.YtjnpmabnnbngeaaDoor.pathClashes
