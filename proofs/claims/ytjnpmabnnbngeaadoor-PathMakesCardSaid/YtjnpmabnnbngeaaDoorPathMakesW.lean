/- The walk of the law PathMakes. -/
import Derived.Test.YtjnpmabnnbngeaaDoorPathM2
namespace Go.Proofs.YtjnpmabnnbngeaaDoor.pathMakes
open Go.RowKit Go.Shelf
open _root_.Go.Proofs.YtjnpmabnnbngeaaDoor.Pa
set_option linter.unusedVariables false
set_option linter.unusedSimpArgs false

set_option maxHeartbeats 1000000 in
theorem walk_early (s : ByteArray) (z : Int) (u : ByteArray) (h : 300 < s.size ∨ 100 < u.size) (w : World) :
    Calls Tryd.prog 7 #[.string s, .int .i64 z, .string u] w fun e w' => e = .returned (.bool true) ∧ Below w.heap.size w w' := by
  have H0 : Hid (Below w.heap.size w w) := Below.refl _ _
  by_cases h1 : 300 < s.size
  · have b1 : decide ((300 : Int) < (s.size : Int)) = true := decide_eq_true (by omega)
    clear h h1
    go_enter Tryd.func7, Tryd.ntmps7
    go_wp2_with fail
    refine (awake_any _).mono ?_
    rintro e w1 ⟨rfl, hw1⟩
    have H1 := chain (n := w.heap.size) (w := w) H0 hw1
    clear hw1
    go_wp2_with fail
    refine (awake_any _).mono ?_
    rintro e w2 ⟨rfl, hw2⟩
    have H2 := chain (n := w.heap.size) (w := w) H1 hw2
    clear hw2
    go_wp2_with fail
    go_ret
    exact ⟨rfl, H2.out⟩
  · have b1 : decide ((300 : Int) < (s.size : Int)) = false := decide_eq_false (by omega)
    have b2 : decide ((100 : Int) < (u.size : Int)) = true := decide_eq_true (by omega)
    clear h h1
    go_enter Tryd.func7, Tryd.ntmps7
    go_wp2_with fail
    refine (awake_any _).mono ?_
    rintro e w1 ⟨rfl, hw1⟩
    have H1 := chain (n := w.heap.size) (w := w) H0 hw1
    clear hw1
    go_wp2_with fail
    refine (awake_any _).mono ?_
    rintro e w2 ⟨rfl, hw2⟩
    have H2 := chain (n := w.heap.size) (w := w) H1 hw2
    clear hw2
    go_wp2_with fail
    go_ret
    exact ⟨rfl, H2.out⟩

set_option maxHeartbeats 2000000 in
theorem walk_main (s : ByteArray) (hs : s.size ≤ 300) (z : Int) (hz : -9223372036854775808 ≤ z ∧ z ≤ 9223372036854775807) (u : ByteArray) (hu : u.size ≤ 100) (w : World) (htab : Tab w) :
    Calls Tryd.prog 7 #[.string s, .int .i64 z, .string u] w fun e w' => e = .returned (.bool true) ∧ Below w.heap.size w w' := by
  have H0 : Hid (Below w.heap.size w w) := Below.refl _ _
  have HT := Lib.hid (Lib.tabBelow_of_tabIs htab)
  clear htab
  have b1 : decide ((300 : Int) < (s.size : Int)) = false := decide_eq_false (by omega)
  have b2 : decide ((100 : Int) < (u.size : Int)) = false := decide_eq_false (by omega)
  have c1 := fun (w : World) (h : Tab w) => home_any z u (by omega) w h
  have c2 := fun w => refhome_any z u w
  have c3 := fun w => temp_any s (by omega) w
  have c4 := fun w => side_any s (by omega) w
  have c5 := fun (w : World) (h : Tab w) => copy_any s (by omega) z u (by omega) w h
  have c6 := fun w => refwith_any s TMP (by omega) (by decide) w
  have c7 := fun w => refwith_any s PAR (by omega) (by decide) w
  have c8 := fun w => refcopy_any s (by omega) z u (by omega) w
  have gh : homeOk z u = true → goodB (tl (homeT z u)) = true := good_home z u
  have cg := fun w => good_any (homeT z u) w
  have e5 : 0 ≤ copyE s z u ∧ copyE s z u ≤ 7 := by unfold copyE; split <;> (try split) <;> omega
  unfold HomePost at c1 c2
  unfold TextPost at c3 c4 c6 c7
  unfold CopyPost at c5 c8
  obtain ⟨x1, hx1⟩ : ∃ x, (if withOk s TMP = true then withB s TMP else ⟨#[]⟩) = x := ⟨_, rfl⟩
  obtain ⟨x2, hx2⟩ : ∃ x, (if withOk s PAR = true then withB s PAR else ⟨#[]⟩) = x := ⟨_, rfl⟩
  obtain ⟨y1, hy1⟩ : ∃ x : Int, (if withOk s TMP = true then 0 else 7) = x := ⟨_, rfl⟩
  obtain ⟨y2, hy2⟩ : ∃ x : Int, (if withOk s PAR = true then 0 else 7) = x := ⟨_, rfl⟩
  obtain ⟨x3, hx3⟩ : ∃ x, copyT s z u = x := ⟨_, rfl⟩
  obtain ⟨y3, hy3⟩ : ∃ x, copyE s z u = x := ⟨_, rfl⟩
  have e1 : 0 ≤ y1 ∧ y1 ≤ 7 := by rw [← hy1]; split <;> omega
  have e2 : 0 ≤ y2 ∧ y2 ≤ 7 := by rw [← hy2]; split <;> omega
  rw [hx1, hy1] at c3 c6
  rw [hx2, hy2] at c4 c7
  rw [hx3, hy3] at c5 c8
  rw [hy3] at e5
  obtain ⟨K, hK⟩ : ∃ K, homeOk z u = K := ⟨_, rfl⟩
  obtain ⟨T, hT⟩ : ∃ T, homeT z u = T := ⟨_, rfl⟩
  rw [hK, hT] at c1 c2
  rw [hK, hT] at gh
  rw [hT] at cg
  clear hx1 hx2 hx3 hy1 hy2 hy3 hT hK
  have C1 := Lib.hid c1
  have C2 := Lib.hid c2
  have C3 := Lib.hid c3
  have C4 := Lib.hid c4
  have C5 := Lib.hid c5
  have C6 := Lib.hid c6
  have C7 := Lib.hid c7
  have C8 := Lib.hid c8
  unfold TMP at C6
  unfold PAR at C7
  clear c1 c2 c3 c4 c5 c6 c7 c8
  cases K with
  | false =>
    simp only [Bool.false_eq_true, if_false] at C1 C2
    clear gh cg
    go_enter Tryd.func7, Tryd.ntmps7
    go_wp2_with fail
    refine (awake_any _).mono ?_
    rintro e w1 ⟨rfl, hw1⟩
    have H1 := chain (n := w.heap.size) (w := w) H0 hw1
    clear hw1
    go_wp2_with fail
    refine (C1.out _ (HT.out _ H1.out)).mono ?_
    rintro e w2 ⟨rfl, hw2⟩
    have H2 := chain (n := w.heap.size) (w := w) H1 hw2
    clear hw2
    go_wp2_with fail
    refine (C2.out _).mono ?_
    rintro e w3 ⟨rfl, hw3⟩
    have H3 := chain (n := w.heap.size) (w := w) H2 hw3
    clear hw3
    go_wp2_with fail
    refine (C3.out _).mono ?_
    rintro e w4 ⟨rfl, hw4⟩
    have H4 := chain (n := w.heap.size) (w := w) H3 hw4
    clear hw4
    go_wp2_with fail
    refine (C4.out _).mono ?_
    rintro e w5 ⟨rfl, hw5⟩
    have H5 := chain (n := w.heap.size) (w := w) H4 hw5
    clear hw5
    go_wp2_with fail
    refine (C5.out _ (HT.out _ H5.out)).mono ?_
    rintro e w6 ⟨rfl, hw6⟩
    have H6 := chain (n := w.heap.size) (w := w) H5 hw6
    clear hw6
    go_wp2_with fail
    refine (C6.out _).mono ?_
    rintro e w7 ⟨rfl, hw7⟩
    have H7 := chain (n := w.heap.size) (w := w) H6 hw7
    clear hw7
    go_wp2_with fail
    refine (C7.out _).mono ?_
    rintro e w8 ⟨rfl, hw8⟩
    have H8 := chain (n := w.heap.size) (w := w) H7 hw8
    clear hw8
    go_wp2_with fail
    refine (C8.out _).mono ?_
    rintro e w9 ⟨rfl, hw9⟩
    have H9 := chain (n := w.heap.size) (w := w) H8 hw9
    clear hw9
    go_wp2_with fail
    go_ret
    exact ⟨rfl, H9.out⟩
  | true =>
    rw [gh rfl] at cg
    have CG := Lib.hid cg
    simp only [if_true] at C1 C2
    clear gh cg
    go_enter Tryd.func7, Tryd.ntmps7
    go_wp2_with fail
    refine (awake_any _).mono ?_
    rintro e w1 ⟨rfl, hw1⟩
    have H1 := chain (n := w.heap.size) (w := w) H0 hw1
    clear hw1
    go_wp2_with fail
    refine (C1.out _ (HT.out _ H1.out)).mono ?_
    rintro e w2 ⟨rfl, hw2⟩
    have H2 := chain (n := w.heap.size) (w := w) H1 hw2
    clear hw2
    go_wp2_with fail
    refine (C2.out _).mono ?_
    rintro e w3 ⟨rfl, hw3⟩
    have H3 := chain (n := w.heap.size) (w := w) H2 hw3
    clear hw3
    go_wp2_with fail
    refine (CG.out _).mono ?_
    rintro e w4 ⟨rfl, hw4⟩
    have H4 := chain (n := w.heap.size) (w := w) H3 hw4
    clear hw4
    go_wp2_with fail
    refine (C3.out _).mono ?_
    rintro e w5 ⟨rfl, hw5⟩
    have H5 := chain (n := w.heap.size) (w := w) H4 hw5
    clear hw5
    go_wp2_with fail
    refine (C4.out _).mono ?_
    rintro e w6 ⟨rfl, hw6⟩
    have H6 := chain (n := w.heap.size) (w := w) H5 hw6
    clear hw6
    go_wp2_with fail
    refine (C5.out _ (HT.out _ H6.out)).mono ?_
    rintro e w7 ⟨rfl, hw7⟩
    have H7 := chain (n := w.heap.size) (w := w) H6 hw7
    clear hw7
    go_wp2_with fail
    refine (C6.out _).mono ?_
    rintro e w8 ⟨rfl, hw8⟩
    have H8 := chain (n := w.heap.size) (w := w) H7 hw8
    clear hw8
    go_wp2_with fail
    refine (C7.out _).mono ?_
    rintro e w9 ⟨rfl, hw9⟩
    have H9 := chain (n := w.heap.size) (w := w) H8 hw9
    clear hw9
    go_wp2_with fail
    refine (C8.out _).mono ?_
    rintro e w10 ⟨rfl, hw10⟩
    have H10 := chain (n := w.heap.size) (w := w) H9 hw10
    clear hw10
    go_wp2_with fail
    go_ret
    exact ⟨rfl, H10.out⟩

theorem i64_of {z : Int} (h : (Lit.int .i64 z).wf = true) : -9223372036854775808 ≤ z ∧ z ≤ 9223372036854775807 := by
  unfold Lit.wf at h
  rw [Bool.and_eq_true, decide_eq_true_eq, decide_eq_true_eq] at h
  have e1 : IntKind.i64.min = -9223372036854775808 := by decide
  have e2 : IntKind.i64.max = 9223372036854775807 := by decide
  rw [e1, e2] at h
  exact h
theorem walk (s : ByteArray) (hs : s.size ≤ maxLen) (z : Int) (hz : (Lit.int .i64 z).wf = true) (u : ByteArray) (hu : u.size ≤ maxLen) (w : World) (htab : Tab w) :
    Calls Tryd.prog 7 #[.string s, .int .i64 z, .string u] w fun e w' => e = .returned (.bool true) ∧ Below w.heap.size w w' := by
  by_cases h : 300 < s.size ∨ 100 < u.size
  · exact walk_early s z u h w
  · exact walk_main s (by omega) z (i64_of hz) u (by omega) w htab
end Go.Proofs.YtjnpmabnnbngeaaDoor.pathMakes
