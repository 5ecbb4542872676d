/- The walk of the law PathKinds. -/
import Derived.Test.YtjnpmabnnbngeaaDoorPathK
import Derived.Deep.RegionHeld3
import Derived.IntWalk
namespace Go.Proofs.YtjnpmabnnbngeaaDoor.pathKinds
open Go.RowKit Go.Shelf
open _root_.Go.Proofs.YtjnpmabnnbngeaaDoor.Pa
set_option linter.unusedVariables false
set_option linter.unusedSimpArgs false

theorem chain {n : Nat} {w a b : World} (h : Hid (Below n w a)) (k : Below a.heap.size a b) (hn : n ≤ w.heap.size := by exact Nat.le_refl _) : Hid (Below n w b) := h.out.trans (k.mono (Nat.le_trans hn h.out.size))
theorem drew_hid {n : Nat} {w a : World} (h : Hid (Below n w a)) : Hid (Below n w a.drew) := h.out.drew

set_option maxHeartbeats 1000000 in
theorem walk (s : ByteArray) (hs : s.size ≤ maxLen) (w : World) :
    Calls Tryd.prog 5 #[.string s] w fun e w' => e = .returned (.bool true) ∧ Below w.heap.size w w' := by
  unfold maxLen at hs
  by_cases h1 : 300 < s.size
  · have b1 : decide ((300 : Int) < (s.size : Int)) = true := decide_eq_true (by omega)
    go_enter Tryd.func5, Tryd.ntmps5
    go_wp2_with fail
    refine (awake_any _).mono ?_
    rintro e w1 ⟨rfl, hw1⟩
    have H1 := Lib.hid hw1
    clear hw1
    go_wp2_with fail
    refine (awake_any _).mono ?_
    rintro e w2 ⟨rfl, hw2⟩
    have H2 := Lib.hid hw2
    clear hw2
    go_wp2_with fail
    go_ret
    exact ⟨rfl, H1.out.trans (H2.out.mono H1.out.size)⟩
  · have b1 : decide ((300 : Int) < (s.size : Int)) = false := decide_eq_false (by omega)
    have hs1 : s.size ≤ 1000000 := by omega
    have cs := fun w => slash_any s hs1 w
    have G1 := Lib.hid (fun w => good_any s w)
    have G2 := Lib.hid (fun w => refgood_any s w)
    have K1 := Lib.hid (fun w => kind_any s hs1 w)
    have K2 := Lib.hid (fun w => refkind_any s hs1 w)
    have cd := fun w => dir_any s hs1 w
    have cb := fun w => base_any s hs1 w
    generalize goodB (tl s) = G at *
    generalize kindN s = N at *
    unfold dirB at cd
    unfold lastB at cb
    rcases last_slash s with h | ⟨m, hm, h⟩
    · rw [h] at cs cd cb
      rw [show s.extract (-1 + 1 : Int).toNat s.size = s.extract 0 s.size from rfl] at cb
      rw [show (-1 : Int).toNat = 0 from rfl] at cd
      have f1 : (0 : Int) ≤ (s.size : Int) := by omega
      have f2 : IntKind.i64.wrap (-1 + 1) = 0 := by decide
      have f3 : max (-1 : Int) 0 = 0 := by decide
      have f4 : (Value.int .i64 (max (-1) 0)) = .int .i64 0 := by rw [f3]
      have f5 : IntKind.i64.wrap 0 = 0 := by decide
      have S1 := Lib.hid cs
      have D1 := Lib.hid cd
      have B1 := Lib.hid cb
      clear cs cd cb h h1
      cases G
      all_goals
        go_enter Tryd.func5, Tryd.ntmps5
        go_wp2_with (first
          | (go_at_call 15; refine (awake_any _).mono ?_; rintro e w1 ⟨rfl, hw1⟩; have H1 := Lib.hid hw1; clear hw1)
          | (go_at_call 20; refine (S1.out _).mono ?_; rintro e w' ⟨rfl, rfl⟩))
        go_region_held3 (fun w' => Hid (Below w.heap.size w w')) ((first | assumption | exact drew_hid (by assumption))) (first
          | (go_at_call 21; refine (G1.out _).mono ?_; rintro e w2 ⟨rfl, hw2⟩; replace hw2 := chain (n := w.heap.size) (w := w) (by assumption) hw2)
          | (go_at_call 22; refine (G2.out _).mono ?_; rintro e w' ⟨rfl, rfl⟩)
          | (go_at_call 23; refine (K1.out _).mono ?_; rintro e w3 ⟨rfl, hw3⟩; replace hw3 := chain (n := w.heap.size) (w := w) (by assumption) hw3)
          | (go_at_call 24; refine (K2.out _).mono ?_; rintro e w' ⟨rfl, rfl⟩)
          | (go_at_call 25; refine (D1.out _).mono ?_; rintro e w' ⟨rfl, rfl⟩)
          | (go_at_call 26; refine (B1.out _).mono ?_; rintro e w' ⟨rfl, rfl⟩))
        all_goals
          go_wp2_with fail
          go_ret
          refine ⟨?_, Hid.out (by assumption)⟩
          first | rfl | exact ret_bool (by simp)
    · have hm1 : m + 1 ≤ s.size := hm
      have hm2 : m ≤ s.size := by omega
      have f1 : (0 : Int) ≤ (m : Int) := by omega
      have f2 : (m : Int) ≤ (s.size : Int) := by omega
      have f3 : (0 : Int) ≤ (m : Int) + 1 := by omega
      have f4 : (m : Int) + 1 ≤ (s.size : Int) := by omega
      have f5 : IntKind.i64.wrap ((m : Int) + 1) = (m : Int) + 1 := IntWalk.i64_in _ (by omega)
      have f6 : ((m : Int) + 1).toNat = m + 1 := by omega
      rw [h] at cs cd cb
      rw [show ((m : Int) + 1).toNat = m + 1 by omega] at cb
      rw [Int.toNat_natCast] at cd
      have S1 := Lib.hid cs
      have D1 := Lib.hid cd
      have B1 := Lib.hid cb
      clear cs cd cb h h1 hm
      cases G
      all_goals
        go_enter Tryd.func5, Tryd.ntmps5
        go_wp2_with (first
          | (go_at_call 15; refine (awake_any _).mono ?_; rintro e w1 ⟨rfl, hw1⟩; have H1 := Lib.hid hw1; clear hw1)
          | (go_at_call 20; refine (S1.out _).mono ?_; rintro e w' ⟨rfl, rfl⟩))
        go_region_held3 (fun w' => Hid (Below w.heap.size w w')) ((first | assumption | exact drew_hid (by assumption))) (first
          | (go_at_call 21; refine (G1.out _).mono ?_; rintro e w2 ⟨rfl, hw2⟩; replace hw2 := chain (n := w.heap.size) (w := w) (by assumption) hw2)
          | (go_at_call 22; refine (G2.out _).mono ?_; rintro e w' ⟨rfl, rfl⟩)
          | (go_at_call 23; refine (K1.out _).mono ?_; rintro e w3 ⟨rfl, hw3⟩; replace hw3 := chain (n := w.heap.size) (w := w) (by assumption) hw3)
          | (go_at_call 24; refine (K2.out _).mono ?_; rintro e w' ⟨rfl, rfl⟩)
          | (go_at_call 25; refine (D1.out _).mono ?_; rintro e w' ⟨rfl, rfl⟩)
          | (go_at_call 26; refine (B1.out _).mono ?_; rintro e w' ⟨rfl, rfl⟩))
        all_goals
          go_wp2_with fail
          go_ret
          refine ⟨?_, Hid.out (by assumption)⟩
          first | rfl | exact ret_bool (by simp)
end Go.Proofs.YtjnpmabnnbngeaaDoor.pathKinds
