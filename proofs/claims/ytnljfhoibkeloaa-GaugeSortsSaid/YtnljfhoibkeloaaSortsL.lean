/- The walk of GaugeSorts: the law's function. -/
import Derived.Test.YtnljfhoibkeloaaSortsS
namespace Go.Proofs.Ytnljfhoibkeloaa
open Go.RowKit Go.Sort Go.Lib
set_option linter.unusedVariables false
set_option linter.unusedSimpArgs false
namespace Sb
open St
set_option maxHeartbeats 1000000 in
theorem sorts_off (a : Option Addr) (n cap : Nat) (W : World) (h : 40 < n) :
    Calls Try.prog 7 #[.slice a n cap] W fun e w' => e = .returned (.bool true) ∧ Below W.heap.size W w' := by
  have b1 : decide ((40 : Int) < (n : Int)) = true := decide_eq_true (by omega)
  go_enter Try.func7, Try.ntmps7
  go_wp2_with fail
  refine (Ga.awake_any _).mono ?_
  rintro e w1 ⟨rfl, rfl⟩
  go_wp2_with fail
  refine (Ga.awake_any _).mono ?_
  rintro e w1 ⟨rfl, rfl⟩
  go_wp2_with fail
  go_ret
  exact ⟨rfl, Below.refl _ _⟩
theorem arr_sorted {D : Nat → W64} {n : Nat} (h : ∀ i j, i < j → j < n → lt (D j) (D i) = false) : SortedIn lt 0 n (arr D n) := by
  intro i j _ hij hj
  rw [arr_at D n j hj, arr_at D n i (by omega)]
  exact h i j hij hj
/-- A sorted arrangement of some words, and the reference's: alike, place by place. -/
theorem like_place {n : Nat} {Z D : Nat → W64} {d : Array W64} (hd : d.size = n) (p1 : PermIn 0 n (arr Z n) d) (s1 : SortedIn lt 0 n d) (p2 : ((List.range n).map D).Perm ((List.range n).map Z)) (s2 : ∀ i j, i < j → j < n → lt (D j) (D i) = false) (i : Nat) (hi : i < n) : Like d[i]! (D i) := by
  have hp : (d.extract 0 n).toList.Perm ((arr D n).extract 0 n).toList := by
    refine (perm_list p1).trans ?_
    rw [arr_list, arr_list]
    exact p2.symm
  have h1 := same_place hd (arr_size D n) hp s1 (arr_sorted s2) i hi
  have h2 := same_place (arr_size D n) hd hp.symm (arr_sorted s2) s1 i hi
  rw [arr_at D n i hi] at h1 h2
  exact like_of h1 h2
set_option maxRecDepth 100000 in
set_option maxHeartbeats 8000000 in
theorem sorts_zero (x : Option Addr) (cap : Nat) (Z : Nat → W64) (W : World) (hw : Ws W x 0 cap Z) :
    Calls Try.prog 7 #[.slice x 0 cap] W fun e w' => e = .returned (.bool true) ∧ Below W.heap.size W w' := by
  have HW := Lib.hid hw
  clear hw
  go_enter Try.func7, Try.ntmps7
  go_wp2_with fail
  refine (Ga.awake_any _).mono ?_
  rintro e w1 ⟨rfl, rfl⟩
  go_wp2_with fail
  refine wp_loop_rounds 1 ?_
  rw [rounds_succ]
  go_wp2_with fail
  refine (sorted_nil _).mono ?_
  rintro e w1 ⟨rfl, rfl⟩
  go_wp2_with fail
  refine (refsorted_any x 0 cap Z _ HW.out (by omega)).mono ?_
  rintro e w2 ⟨v, D, rfl, hp⟩
  obtain ⟨a, c, rfl, _, _⟩ := hp.us.form
  have HB := Lib.hid hp.bel
  clear hp
  go_wp2_with fail
  refine wp_loop_rounds 1 ?_
  rw [rounds_succ]
  go_wp2_with fail
  refine (worst_nil _).mono ?_
  rintro e w1 ⟨rfl, rfl⟩
  go_wp2_with fail
  refine (class_nan _).mono ?_
  rintro e w1 ⟨rfl, rfl⟩
  go_wp2_with fail
  refine (middle_nil _).mono ?_
  rintro e w1 ⟨rfl, rfl⟩
  go_wp2_with fail
  refine (class_nan _).mono ?_
  rintro e w1 ⟨rfl, rfl⟩
  go_wp2_with fail
  go_ret
  exact ⟨rfl, HB.out⟩
set_option maxRecDepth 100000 in
set_option maxHeartbeats 16000000 in
theorem sorts_on (x : Addr) (n cap : Nat) (Z : Nat → W64) (W : World) (hw : Ws W (some x) n cap Z) (hn0 : 0 < n) (hn : n ≤ 40) :
    Calls Try.prog 7 #[.slice (some x) n cap] W fun e w' => e = .returned (.bool true) ∧ Below W.heap.size W w' := by
  have b1 : decide ((40 : Int) < (n : Int)) = false := decide_eq_false (by omega)
  have b2 : decide ((n : Int) = 0) = false := decide_eq_false (by omega)
  have b3 : ((n : Int) == 0) = false := b2
  have b4 : ¬ ((n : Int) = 0) := by omega
  have HW := Lib.hid hw
  clear hw
  go_enter Try.func7, Try.ntmps7
  go_wp2_with fail
  refine (Ga.awake_any _).mono ?_
  rintro e w1 ⟨rfl, rfl⟩
  go_wp2_with fail
  have T0 : Hid (Fs W.heap.size (.slice none 0 0) 0 Z W ∧ Below W.heap.size W W) := ⟨⟨rfl, .inl ⟨rfl, rfl⟩⟩, Below.refl _ _⟩
  have FB := Lib.hid frombits
  go_loopg [3, 5, 19] n (fun gk v s5 si wr => ∃ k : Nat, si = .int .i64 (k : Int) ∧ k + gk = n ∧ Hid (Fs W.heap.size v k Z wr ∧ Below W.heap.size W wr))
  case atStart => exact ⟨0, rfl, by omega, T0⟩
  case round =>
    obtain ⟨k, rfl, hg, HT⟩ := hrel
    by_cases hlt : k < n
    · obtain ⟨g', rfl⟩ : ∃ g', gk = g' + 1 := ⟨gk - 1, by omega⟩
      have c1 : decide ((k : Int) < (n : Int)) = true := decide_eq_true (by omega)
      obtain ⟨v', w1, r1, T2, gr, _⟩ := HT.out.1.more HT.out.2.size (by omega) _ rfl
      have l1 := (HW.out.below HT.out.2 (Nat.le_refl _)).cell x rfl k hlt
      have HT2 : Hid (Fs W.heap.size v' (k + 1) Z w1 ∧ Below W.heap.size W w1) := ⟨T2, (HT.out.2.alloc HT.out.2.size _).grown gr (by simp; have := HT.out.2.size; omega) (fun g e => (HT.out.1.own g e).1)⟩
      have g1 : (0 : Int) ≤ (k : Int) := by omega
      have g2 : (k : Int) < (n : Int) := by omega
      have fb := FB.out
      clear T2 gr T0
      go_wp2_with (at_builtin; refine App.wpList_run rfl (.tmp 23) (.tmp 26) _ _ rfl rfl rfl r1 ?_)
      go_roundg g'
      case rel => exact ⟨k + 1, by go_num, by omega, HT2⟩
      case measure => omega
    · obtain rfl : n = k := by omega
      have c1 : decide ((n : Int) < (n : Int)) = false := decide_eq_false (by omega)
      have B0 := Lib.hid HT.out.2
      obtain ⟨g1, p1, rfl, k1⟩ := HT.out.1.cells hn0
      have K1 := Lib.hid k1
      clear T0 HT k1 FB
      go_wp2_with fail
      refine (sorted_any g1 p1 n (arr Z n) (arr_size _ _) hn0 hn wr K1.out).mono ?_
      rintro e w1 ⟨h1, q1, d1, rfl, X1, hd1, P1, Q1, bel1, hl1⟩
      have K1' : Hid (∀ j, j < n → w1.cell? ⟨g1, j, none⟩ = some (enc (arr Z n)[j]!)) := fun j hj => (bel1.cell (p := ⟨g1, j, none⟩) (cell_lt (K1.out j hj))).trans (K1.out j hj)
      have XX1 := Lib.hid X1
      have PQ1 := Lib.hid (And.intro P1 Q1)
      have B1 : Hid (Below W.heap.size W w1) := B0.out.trans (bel1.mono B0.out.size)
      clear X1 P1 Q1 bel1 K1
      go_wp2_with fail
      refine (refsorted_any (some x) n cap Z w1 (HW.out.below B1.out (Nat.le_refl _)) hn).mono ?_
      rintro e w2 ⟨v2, D, rfl, hp⟩
      obtain ⟨a2, c2, rfl, _, hf⟩ := hp.us.form
      obtain ⟨g2, rfl, hg2, k2⟩ : ∃ g, a2 = some ⟨g, 0, none⟩ ∧ g < w2.heap.size ∧ ∀ j, j < n → w2.cell? ⟨g, j, none⟩ = some (.int .u64 ((D j).1 : Int)) := by
        rcases hf with ⟨_, h0, _⟩ | h
        · omega
        · exact h
      have K2 := Lib.hid k2
      have K1'' : Hid (∀ j, j < n → w2.cell? ⟨g1, j, none⟩ = some (enc (arr Z n)[j]!)) := fun j hj => (hp.bel.cell (p := ⟨g1, j, none⟩) (cell_lt (K1'.out j hj))).trans (K1'.out j hj)
      have XX1' : Hid (∀ j, j < n → w2.cell? ⟨h1, j, none⟩ = some (enc d1[j]!)) := fun j hj => (hp.bel.cell (p := ⟨h1, j, none⟩) (cell_lt (XX1.out j hj))).trans (XX1.out j hj)
      have HP := Lib.hid (And.intro hp.perm hp.srt)
      have B2 : Hid (Below W.heap.size W w2) := B1.out.trans (hp.bel.mono B1.out.size)
      clear hf hp k2 K1' XX1
      go_wp2_with fail
      go_loopg [8, 40] n (fun gk s8 si wr => ∃ k : Nat, si = .int .i64 (k : Int) ∧ k + gk = n ∧ Hid (Below w2.heap.size w2 wr))
      case atStart => exact ⟨0, rfl, by omega, Below.refl _ _⟩
      case round =>
        obtain ⟨k, rfl, hg, HR⟩ := hrel
        by_cases hlt : k < n
        · obtain ⟨g', rfl⟩ : ∃ g', gk = g' + 1 := ⟨gk - 1, by omega⟩
          have c1 : decide ((k : Int) < (n : Int)) = true := decide_eq_true (by omega)
          have i1 : (0 : Int) ≤ (k : Int) := by omega
          have i2 : (k : Int) < (n : Int) := by omega
          have A1a := alike_any d1[k]! (D k) (like_place hd1 PQ1.out.1 PQ1.out.2 HP.out.1 HP.out.2 k hlt)
          have A2 := Lib.hid (alike_any (Z k) (Z k) (like_self _))
          have y1a := (HR.out.cell (p := ⟨h1, k, none⟩) (cell_lt (XX1'.out k hlt))).trans (XX1'.out k hlt)
          have y2 := (HR.out.cell (p := ⟨g2, k, none⟩) (cell_lt (K2.out k hlt))).trans (K2.out k hlt)
          have y3a := (HR.out.cell (p := ⟨g1, k, none⟩) (cell_lt (K1''.out k hlt))).trans (K1''.out k hlt)
          have y4 := (HW.out.below (B2.out.trans (HR.out.mono B2.out.size)) (Nat.le_refl _)).cell x rfl k hlt
          rw [arr_at Z n k hlt] at y3a
          generalize d1[k]! = u1 at A1a y1a
          have y1 : wr.cell? ⟨h1, k, none⟩ = some (.float .f64 u1.1) := y1a
          have y3 : wr.cell? ⟨g1, k, none⟩ = some (.float .f64 (Z k).1) := y3a
          have A1 := Lib.hid A1a
          clear A1a y1a y3a
          go_wp2_with fail
          go_quiet ((first | (go_at_call 21; first | with_reducible exact calm1 A1.out | with_reducible exact calm1 A2.out)))
          have HRq : Hid (Below w2.heap.size w2 (wr.drewN nq)) := sh_draws HR
          generalize wr.drewN nq = wq at *
          go_wp2_with fail
          go_roundg g'
          case rel => exact ⟨k + 1, by go_num, by omega, HRq⟩
          case measure => omega
        · obtain rfl : n = k := by omega
          have c1 : decide ((n : Int) < (n : Int)) = false := decide_eq_false (by omega)
          obtain ⟨m, hm⟩ : ∃ m, n / 2 = m := ⟨_, rfl⟩
          have f0 : (n : Int).tdiv 2 = (m : Int) := by rw [Int.tdiv_eq_ediv_of_nonneg (by omega)]; omega
          have f1 : (m : Int) < (n : Int) := by omega
          have f2 : (0 : Int) ≤ (m : Int) := by omega
          have f3 : (0 : Int) < (n : Int) := by omega
          have hmn : m < n := by omega
          have MD := fun (w : World) (h : ∀ j, j < n → w.cell? ⟨g1, j, none⟩ = some (enc (arr Z n)[j]!)) => middle_any g1 p1 n (arr Z n) (arr_size _ _) hn0 hn w h
          rw [hm] at MD
          have f4 : (n : Int) / 2 = (m : Int) := by omega
          have f5 : IntKind.i64.wrap (m : Int) = (m : Int) := IntWalk.i64_in _ (by omega)
          have f6 : IntKind.i64.wrap ((n : Int).tdiv 2) = (m : Int) := by rw [f0]; exact f5
          have HRd := drewB HR
          have hS : ∀ W, Hid (Below w2.heap.size w2 W) → (fun w' => Hid (Below w2.heap.size w2 w') ∧ w'.cell? ⟨g2, 0, none⟩ = some (.int .u64 ((D 0).1 : Int)) ∧ w'.cell? ⟨g2, m, none⟩ = some (.int .u64 ((D m).1 : Int))) W := fun W h => ⟨h, (h.out.cell (p := ⟨g2, 0, none⟩) (cell_lt (K2.out 0 hn0))).trans (K2.out 0 hn0), (h.out.cell (p := ⟨g2, m, none⟩) (cell_lt (K2.out m hmn))).trans (K2.out m hmn)⟩
          go_wp2_with fail
          go_region_held3 (fun w' => Hid (Below w2.heap.size w2 w') ∧ w'.cell? ⟨g2, 0, none⟩ = some (.int .u64 ((D 0).1 : Int)) ∧ w'.cell? ⟨g2, m, none⟩ = some (.int .u64 ((D m).1 : Int))) ((first | assumption | exact hS _ (by assumption))) (first
            | (go_at_call 19; refine (worst_any g1 p1 n (arr Z n) (arr_size _ _) hn0 hn _ (fun j hj => (Below.cell (p := ⟨g1, j, none⟩) (Hid.out (by assumption)) (cell_lt (K1''.out j hj))).trans (K1''.out j hj))).mono ?_; rintro e w3 ⟨d3, rfl, hd3, P3, Q3, hb3⟩; have L4 := alike_any d3[0]! (D 0) (like_place hd3 P3 Q3 HP.out.1 HP.out.2 0 hn0); replace hb3 := chainB (n := w2.heap.size) (w := w2) (by assumption) hb3; generalize d3[0]! = u5 at *; clear P3 Q3 hd3 d3)
            | (go_at_call 22; refine (MD _ (fun j hj => (Below.cell (p := ⟨g1, j, none⟩) (Hid.out (by assumption)) (cell_lt (K1''.out j hj))).trans (K1''.out j hj))).mono ?_; rintro e w4 ⟨d4, rfl, hd4, P4, Q4, hb4⟩; have L5 := alike_any d4[m]! (D m) (like_place hd4 P4 Q4 HP.out.1 HP.out.2 m hmn); replace hb4 := chainB (n := w2.heap.size) (w := w2) (by assumption) hb4; generalize d4[m]! = u6 at *; clear P4 Q4 hd4 d4)
            | (go_at_call 21; refine (L5 _).mono ?_; rintro e w' ⟨rfl, rfl⟩)
            | (go_at_call 21; refine (L4 _).mono ?_; rintro e w' ⟨rfl, rfl⟩))
          all_goals
            go_wp2_with fail
            go_ret
            refine ⟨rfl, B2.out.trans ((Hid.out (by assumption : Hid (Below w2.heap.size w2 _))).mono B2.out.size)⟩
end Sb
end Go.Proofs.Ytnljfhoibkeloaa
