/- The walk of GaugeTurns: the law's function. -/
import Derived.Test.YtnljfhoibkeloaaTurnsW
namespace Go.Proofs.Ytnljfhoibkeloaa
open Go.RowKit Go.Sort Go.Lib
set_option linter.unusedVariables false
set_option linter.unusedSimpArgs false
namespace Sb
open St
theorem less_no {x y : W64} (h : lt x y = false) (w : World) :
    Calls Try.prog 16 #[.float .f64 x.1, .float .f64 y.1] w fun e w' => e = .returned (.bool false) ∧ w = w' := by
  refine (Ga.less_any x.1 y.1 x.2 y.2 w).mono ?_
  rintro e w' ⟨rfl, rfl⟩
  have h2 : decide (Ga.ord x.1 y.1 < 0) = false := h
  exact ⟨by rw [h2], rfl⟩
set_option maxHeartbeats 1000000 in
theorem turns_off (a : Option Addr) (n cap : Nat) (t : Int) (W : World) (h : 30 < n ∨ n = 0) :
    Calls Try.prog 6 #[.slice a n cap, .int .u8 t] W fun e w' => e = .returned (.bool true) ∧ Below W.heap.size W w' := by
  rcases h with h | h
  · have b1 : decide ((30 : Int) < (n : Int)) = true := decide_eq_true (by omega)
    go_enter Try.func6, Try.ntmps6
    go_wp2_with fail
    refine (Ga.awake_any _).mono ?_
    rintro e w1 ⟨rfl, rfl⟩
    go_wp2_with fail
    refine (Ga.awake_any _).mono ?_
    rintro e w1 ⟨rfl, rfl⟩
    go_wp2_with fail
    go_ret
    exact ⟨rfl, Below.refl _ _⟩
  · subst h
    go_enter Try.func6, Try.ntmps6
    go_wp2_with fail
    refine (Ga.awake_any _).mono ?_
    rintro e w1 ⟨rfl, rfl⟩
    go_wp2_with fail
    refine (Ga.awake_any _).mono ?_
    rintro e w1 ⟨rfl, rfl⟩
    go_wp2_with fail
    go_ret
    exact ⟨rfl, Below.refl _ _⟩
set_option maxRecDepth 100000 in
set_option maxHeartbeats 16000000 in
theorem turns_on (x : Addr) (n cap : Nat) (Z : Nat → W64) (t : Nat) (W : World) (hw : Ws W (some x) n cap Z) (hn0 : 0 < n) (hn : n ≤ 30) (ht : t < 256) :
    Calls Try.prog 6 #[.slice (some x) n cap, .int .u8 (t : Int)] W fun e w' => e = .returned (.bool true) ∧ Below W.heap.size W w' := by
  have b1 : decide ((30 : Int) < (n : Int)) = false := decide_eq_false (by omega)
  have b2 : decide ((n : Int) = 0) = false := decide_eq_false (by omega)
  have b3 : ((n : Int) == 0) = false := b2
  have b4 : ¬ ((n : Int) = 0) := by omega
  obtain ⟨kk, hkk⟩ : ∃ k, t % n = k := ⟨_, rfl⟩
  have hkn : kk < n := by rw [← hkk]; exact Nat.mod_lt _ hn0
  have f1 : (t : Int).tmod (n : Int) = (kk : Int) := by rw [Int.tmod_eq_emod_of_nonneg (by omega)]; omega
  have HW := Lib.hid hw
  have HKK := Lib.hid hkk
  clear hw hkk
  go_enter Try.func6, Try.ntmps6
  go_wp2_with fail
  refine (Ga.awake_any _).mono ?_
  rintro e w1 ⟨rfl, rfl⟩
  go_wp2_with fail
  have T0 : Hid (Two W.heap.size n kk 0 Z (.slice none 0 0) (.slice none 0 0) W W) :=
    ⟨⟨rfl, .inl ⟨rfl, rfl⟩⟩, ⟨rfl, .inl ⟨rfl, rfl⟩⟩, (fun g e => by cases e), (fun g e => by cases e), (fun g e => by cases e), Below.refl _ _⟩
  have FB := Lib.hid frombits
  go_loopg [5, 6, 32] n (fun gk va vb si wr => ∃ k : Nat, si = .int .i64 (k : Int) ∧ k + gk = n ∧ Hid (Two W.heap.size n kk k Z va vb W wr))
  case atStart => exact ⟨0, rfl, by omega, T0⟩
  case round =>
    obtain ⟨k, rfl, hg, HT⟩ := hrel
    by_cases hlt : k < n
    · obtain ⟨g', rfl⟩ : ∃ g', gk = g' + 1 := ⟨gk - 1, by omega⟩
      have c1 : decide ((k : Int) < (n : Int)) = true := decide_eq_true (by omega)
      obtain ⟨va', w1, vb', w2, r1, r2, T2, B1⟩ := HT.out.more (by omega) (Nat.le_refl _)
      have l1 := (HW.out.below HT.out.bel (Nat.le_refl _)).cell x rfl k hlt
      have hm : (k + kk) % n < n := Nat.mod_lt _ hn0
      have l2 := (HW.out.below (HT.out.bel.trans B1) (Nat.le_refl _)).cell x rfl ((k + kk) % n) hm
      obtain ⟨m, em⟩ : ∃ m, (k + kk) % n = m := ⟨_, rfl⟩
      rw [em] at r2 l2 hm
      have f2 : ((k : Int) + (kk : Int)).tmod (n : Int) = (m : Int) := by rw [Int.tmod_eq_emod_of_nonneg (by omega), ← em, Int.natCast_emod, Int.natCast_add]
      have g1 : (0 : Int) ≤ (k : Int) := by omega
      have g2 : (k : Int) < (n : Int) := by omega
      have g3 : (0 : Int) ≤ (m : Int) := by omega
      have g4 : (m : Int) < (n : Int) := by omega
      have g5 : IntKind.i64.wrap ((k : Int) + (kk : Int)) = (k : Int) + (kk : Int) := IntWalk.i64_in _ (by omega)
      have HT2 := Lib.hid T2
      have EM := Lib.hid em
      have fb := FB.out
      clear T2 B1 em T0
      go_wp2_with (first | (at_builtin; refine App.wpList_run rfl (.tmp 35) (.tmp 41) _ _ rfl rfl rfl r1 ?_) | (at_builtin; refine App.wpList_run rfl (.tmp 43) (.tmp 54) _ _ rfl rfl rfl r2 ?_))
      go_roundg g'
      case rel => exact ⟨k + 1, by go_num, by omega, HT2⟩
      case measure => omega
    · obtain rfl : n = k := by omega
      have c1 : decide ((n : Int) < (n : Int)) = false := decide_eq_false (by omega)
      have bel := HT.out.bel
      obtain ⟨g1, p1, rfl, k1⟩ := HT.out.a.cells hn0
      obtain ⟨g2, p2, rfl, k2⟩ := HT.out.b.cells hn0
      have B0 := Lib.hid bel
      have K1 := Lib.hid k1
      have K2 := Lib.hid k2
      clear T0 HT bel k1 k2 FB f1
      go_wp2_with fail
      refine (sorted_any g1 p1 n (arr Z n) (arr_size _ _) hn0 (by omega) wr K1.out).mono ?_
      rintro e w1 ⟨h1, q1, d1, rfl, X1, hd1, P1, Q1, bel1, hl1⟩
      have K2' : Hid (∀ j, j < n → w1.cell? ⟨g2, j, none⟩ = some (enc (arr (fun i => Z ((i + kk) % n)) n)[j]!)) := fun j hj => (bel1.cell (p := ⟨g2, j, none⟩) (cell_lt (K2.out j hj))).trans (K2.out j hj)
      have XX1 := Lib.hid X1
      have PQ1 := Lib.hid (And.intro P1 Q1)
      have B1 := Lib.hid bel1
      have K1' : Hid (∀ j, j < n → w1.cell? ⟨g1, j, none⟩ = some (enc (arr Z n)[j]!)) := fun j hj => (bel1.cell (p := ⟨g1, j, none⟩) (cell_lt (K1.out j hj))).trans (K1.out j hj)
      clear X1 P1 Q1 bel1 K2 K1
      go_wp2_with fail
      refine (sorted_any g2 p2 n (arr (fun i => Z ((i + kk) % n)) n) (arr_size _ _) hn0 (by omega) w1 K2'.out).mono ?_
      rintro e w2 ⟨h2, q2, d2, rfl, X2, hd2, P2, Q2, bel2, hl2⟩
      have XX2 := Lib.hid X2
      have PQ2 := Lib.hid (And.intro P2 Q2)
      have B2 := Lib.hid bel2
      have XX1' : Hid (∀ j, j < n → w2.cell? ⟨h1, j, none⟩ = some (enc d1[j]!)) := fun j hj => (bel2.cell (p := ⟨h1, j, none⟩) (cell_lt (XX1.out j hj))).trans (XX1.out j hj)
      have K1'' : Hid (∀ j, j < n → w2.cell? ⟨g1, j, none⟩ = some (enc (arr Z n)[j]!)) := fun j hj => (bel2.cell (p := ⟨g1, j, none⟩) (cell_lt (K1'.out j hj))).trans (K1'.out j hj)
      clear X2 P2 Q2 bel2 K2' K1' XX1
      go_wp2_with fail
      go_loopg [11, 75] n (fun gk s11 si wr => ∃ k : Nat, si = .int .i64 (k : Int) ∧ k + gk = n ∧ Hid (Below w2.heap.size w2 wr))
      case atStart => exact ⟨0, rfl, by omega, Below.refl _ _⟩
      case round =>
        obtain ⟨k, rfl, hg, HR⟩ := hrel
        by_cases hlt : k < n
        · obtain ⟨g', rfl⟩ : ∃ g', gk = g' + 1 := ⟨gk - 1, by omega⟩
          have c1 : decide ((k : Int) < (n : Int)) = true := decide_eq_true (by omega)
          have i1 : (0 : Int) ≤ (k : Int) := by omega
          have i2 : (k : Int) < (n : Int) := by omega
          have hb := both hd1 hd2 (by rw [arr_list, arr_list]; exact rot_perm Z n kk hkn) PQ1.out.1 PQ1.out.2 PQ2.out.1 PQ2.out.2 k hlt
          have L1 := Lib.hid (less_no hb.1)
          have L2 := Lib.hid (less_no hb.2)
          have y1 : ∀ (W : World), Hid (Below w2.heap.size w2 W) → W.cell? ⟨h1, k, none⟩ = some (.float .f64 (d1[k]!).1) := fun W h => (h.out.cell (p := ⟨h1, k, none⟩) (cell_lt (XX1'.out k hlt))).trans (XX1'.out k hlt)
          have y2 : ∀ (W : World), Hid (Below w2.heap.size w2 W) → W.cell? ⟨h2, k, none⟩ = some (.float .f64 (d2[k]!).1) := fun W h => (h.out.cell (p := ⟨h2, k, none⟩) (cell_lt (XX2.out k hlt))).trans (XX2.out k hlt)
          have y3 : ∀ (W : World), Hid (Below w2.heap.size w2 W) → W.cell? ⟨g1, k, none⟩ = some (.float .f64 ((arr Z n)[k]!).1) := fun W h => (h.out.cell (p := ⟨g1, k, none⟩) (cell_lt (K1''.out k hlt))).trans (K1''.out k hlt)
          have y4 : ∀ (W : World), Hid (Below w2.heap.size w2 W) → 0 < k → W.cell? ⟨h1, k - 1, none⟩ = some (.float .f64 (d1[k - 1]!).1) := fun W h hk => (h.out.cell (p := ⟨h1, k - 1, none⟩) (cell_lt (XX1'.out (k - 1) (by omega)))).trans (XX1'.out (k - 1) (by omega))
          have L3a : 0 < k → lt d1[k]! d1[k - 1]! = false := fun h => PQ1.out.2 (k - 1) k (by omega) (by omega) hlt
          have L4a : ∀ d3 : Array W64, d3.size = n → PermIn 0 n (arr Z n) d3 → SortedIn lt 0 n d3 → lt (arr Z n)[k]! d3[0]! = false := fun d3 h1 h2 h3 => worst_least (arr_size _ _) h1 h2 h3 k hlt
          obtain ⟨u1, e1⟩ : ∃ u, d1[k]! = u := ⟨_, rfl⟩
          obtain ⟨u2, e2⟩ : ∃ u, d2[k]! = u := ⟨_, rfl⟩
          obtain ⟨u3, e3⟩ : ∃ u, (arr Z n)[k]! = u := ⟨_, rfl⟩
          rw [e1] at y1 L1 L2 L3a hb
          rw [e2] at y2 L1 L2 hb
          rw [e3] at y3 L4a
          have R1 := y1 _ HR
          have R2 := y2 _ HR
          have R3 := y3 _ HR
          clear hb e1 e2 e3
          have HRd := drewB HR
          have L4h := Lib.hid L4a
          clear L4a
          rcases Nat.eq_zero_or_pos k with rfl | hk0
          · have hS : ∀ W, Hid (Below w2.heap.size w2 W) → (fun w' => Hid (Below w2.heap.size w2 w') ∧ w'.cell? ⟨h1, 0, none⟩ = some (.float .f64 u1.1) ∧ w'.cell? ⟨h2, 0, none⟩ = some (.float .f64 u2.1) ∧ w'.cell? ⟨g1, 0, none⟩ = some (.float .f64 u3.1)) W := fun W h => ⟨h, y1 W h, y2 W h, y3 W h⟩
            clear y1 y2 y3 y4 L3a
            go_wp2_with fail
            refine wp_region_held_drew (S := (fun w' => Hid (Below w2.heap.size w2 w') ∧ w'.cell? ⟨h1, 0, none⟩ = some (.float .f64 u1.1) ∧ w'.cell? ⟨h2, 0, none⟩ = some (.float .f64 u2.1) ∧ w'.cell? ⟨g1, 0, none⟩ = some (.float .f64 u3.1))) (by kernel_rfl) (by first | assumption | exact hS _ (by assumption)) (fun hHeld => ?_)
            refine wpAnyH_take (i := 0) (v := ?v0) rfl (by kernel_rfl) (by kernel_rfl) (by kernel_rfl) (fun _ _ _ h => h) (Or.inl ⟨by rfl, ?hy0⟩) (by assumption) ?rest0
            case hy0 => intro w hSw; (try dsimp only at hSw); go_simp; try with_reducible rfl
            change wpAnyH _ _ _ _ _ _ _ (Act.put _ (some 78) _) _
            try simp only [Act.put, List.setIfInBounds_toArray, List.set_cons_zero, List.set_cons_succ]
            refine wpAnyH_take (i := 1) (v := ?v1) rfl (by kernel_rfl) (by kernel_rfl) (by kernel_rfl) (fun _ _ _ h => h) (Or.inl ⟨by rfl, ?hy1⟩) (by assumption) ?rest1
            case hy1 => intro w hSw; (try dsimp only at hSw); go_simp; try with_reducible rfl
            change wpAnyH _ _ _ _ _ _ _ (Act.put _ (some 79) _) _
            try simp only [Act.put, List.setIfInBounds_toArray, List.set_cons_zero, List.set_cons_succ]
            refine wpAnyH_take (i := 2) (v := ?v2) rfl (by kernel_rfl) (by kernel_rfl) (by kernel_rfl) (fun _ _ _ h => h) (Or.inl ⟨by rfl, ?hy2⟩) (by assumption) ?rest2
            case hy2 => intro w hSw; (try dsimp only at hSw); go_simp; try with_reducible rfl
            change wpAnyH _ _ _ _ _ _ _ (Act.put _ (some 80) _) _
            try simp only [Act.put, List.setIfInBounds_toArray, List.set_cons_zero, List.set_cons_succ]
            refine wpAnyH_take (i := 3) (v := ?v3) rfl (by kernel_rfl) (by kernel_rfl) (by kernel_rfl) (fun _ _ _ h => h) (Or.inl ⟨by rfl, ?hy3⟩) (by assumption) ?rest3
            case hy3 => intro w hSw; (try dsimp only at hSw); go_simp; try with_reducible rfl
            change wpAnyH _ _ _ _ _ _ _ (Act.put _ (some 81) _) _
            try simp only [Act.put, List.setIfInBounds_toArray, List.set_cons_zero, List.set_cons_succ]
            refine wpAnyH_take (i := 4) (v := ?v4) rfl (by kernel_rfl) (by kernel_rfl) (by kernel_rfl) (fun _ _ _ h => h) (Or.inl ⟨by rfl, ?hy4⟩) (by assumption) ?rest4
            case hy4 => intro w hSw; (try dsimp only at hSw); go_simp; try with_reducible rfl
            change wpAnyH _ _ _ _ _ _ _ (Act.put _ (some 82) _) _
            try simp only [Act.put, List.setIfInBounds_toArray, List.set_cons_zero, List.set_cons_succ]
            refine wpAnyH_take (i := 5) (v := ?v5) rfl (by kernel_rfl) (by kernel_rfl) (by kernel_rfl) (fun _ _ _ h => h) (Or.inl ⟨by rfl, ?hy5⟩) (by assumption) ?rest5
            case hy5 => intro w hSw; (try dsimp only at hSw); go_simp; try with_reducible rfl
            change wpAnyH _ _ _ _ _ _ _ (Act.put _ (some 83) _) _
            try simp only [Act.put, List.setIfInBounds_toArray, List.set_cons_zero, List.set_cons_succ]
            refine wpAnyH_take (i := 6) (v := ?v6) rfl (by kernel_rfl) (by kernel_rfl) (by kernel_rfl) (fun _ _ _ h => h) (Or.inl ⟨by rfl, ?hy6⟩) (by assumption) ?rest6
            case hy6 => intro w hSw; (try dsimp only at hSw); go_simp; try with_reducible rfl
            change wpAnyH _ _ _ _ _ _ _ (Act.put _ (some 84) _) _
            try simp only [Act.put, List.setIfInBounds_toArray, List.set_cons_zero, List.set_cons_succ]
            refine wpAnyH_take (i := 7) (v := ?v7) rfl (by kernel_rfl) (by kernel_rfl) (by kernel_rfl) (fun _ _ _ h => h) (Or.inl ⟨by rfl, ?hy7⟩) (by assumption) ?rest7
            case hy7 => intro w hSw; (try dsimp only at hSw); go_simp; try with_reducible rfl
            change wpAnyH _ _ _ _ _ _ _ (Act.put _ (some 85) _) _
            try simp only [Act.put, List.setIfInBounds_toArray, List.set_cons_zero, List.set_cons_succ]
            refine wpAnyH_ready (rs := [8]) (by kernel_rfl) (by simp) ?_
            refine AllReadyH.cons rfl (fun K hK => ?_) AllReadyH.nil
            go_simp
            refine (L1.out _).mono ?_
            rintro e w' ⟨rfl, rfl⟩
            go_wp2_with fail
            refine hK.out _ _ (by first | assumption | exact hS _ (by assumption)) (fun hHeld => ?_)
            clear hK K
            try simp only [Act.put, List.setIfInBounds_toArray, List.set_cons_zero, List.set_cons_succ]
            refine wpAnyH_take (i := 9) (v := ?v9) rfl (by kernel_rfl) (by kernel_rfl) (by kernel_rfl) (fun _ _ _ h => h) (Or.inl ⟨by rfl, ?hy9⟩) (by assumption) ?rest9
            case hy9 => intro w hSw; (try dsimp only at hSw); go_simp; try with_reducible rfl
            change wpAnyH _ _ _ _ _ _ _ (Act.put _ (some 87) _) _
            try simp only [Act.put, List.setIfInBounds_toArray, List.set_cons_zero, List.set_cons_succ]
            refine wpAnyH_take (i := 10) (v := ?v10) rfl (by kernel_rfl) (by kernel_rfl) (by kernel_rfl) (fun _ _ _ h => h) (Or.inl ⟨by rfl, ?hy10⟩) (by assumption) ?rest10
            case hy10 => intro w hSw; (try dsimp only at hSw); go_simp; try with_reducible rfl
            change wpAnyH _ _ _ _ _ _ _ (Act.put _ (some 88) _) _
            try simp only [Act.put, List.setIfInBounds_toArray, List.set_cons_zero, List.set_cons_succ]
            refine wpAnyH_take (i := 11) (v := ?v11) rfl (by kernel_rfl) (by kernel_rfl) (by kernel_rfl) (fun _ _ _ h => h) (Or.inl ⟨by rfl, ?hy11⟩) (by assumption) ?rest11
            case hy11 => intro w hSw; (try dsimp only at hSw); go_simp; try with_reducible rfl
            change wpAnyH _ _ _ _ _ _ _ (Act.put _ (some 89) _) _
            try simp only [Act.put, List.setIfInBounds_toArray, List.set_cons_zero, List.set_cons_succ]
            refine wpAnyH_take (i := 12) (v := ?v12) rfl (by kernel_rfl) (by kernel_rfl) (by kernel_rfl) (fun _ _ _ h => h) (Or.inl ⟨by rfl, ?hy12⟩) (by assumption) ?rest12
            case hy12 => intro w hSw; (try dsimp only at hSw); go_simp; try with_reducible rfl
            change wpAnyH _ _ _ _ _ _ _ (Act.put _ (some 90) _) _
            try simp only [Act.put, List.setIfInBounds_toArray, List.set_cons_zero, List.set_cons_succ]
            refine wpAnyH_take (i := 13) (v := ?v13) rfl (by kernel_rfl) (by kernel_rfl) (by kernel_rfl) (fun _ _ _ h => h) (Or.inl ⟨by rfl, ?hy13⟩) (by assumption) ?rest13
            case hy13 => intro w hSw; (try dsimp only at hSw); go_simp; try with_reducible rfl
            change wpAnyH _ _ _ _ _ _ _ (Act.put _ (some 91) _) _
            try simp only [Act.put, List.setIfInBounds_toArray, List.set_cons_zero, List.set_cons_succ]
            refine wpAnyH_take (i := 14) (v := ?v14) rfl (by kernel_rfl) (by kernel_rfl) (by kernel_rfl) (fun _ _ _ h => h) (Or.inl ⟨by rfl, ?hy14⟩) (by assumption) ?rest14
            case hy14 => intro w hSw; (try dsimp only at hSw); go_simp; try with_reducible rfl
            change wpAnyH _ _ _ _ _ _ _ (Act.put _ (some 92) _) _
            try simp only [Act.put, List.setIfInBounds_toArray, List.set_cons_zero, List.set_cons_succ]
            refine wpAnyH_take (i := 15) (v := ?v15) rfl (by kernel_rfl) (by kernel_rfl) (by kernel_rfl) (fun _ _ _ h => h) (Or.inl ⟨by rfl, ?hy15⟩) (by assumption) ?rest15
            case hy15 => intro w hSw; (try dsimp only at hSw); go_simp; try with_reducible rfl
            change wpAnyH _ _ _ _ _ _ _ (Act.put _ (some 93) _) _
            try simp only [Act.put, List.setIfInBounds_toArray, List.set_cons_zero, List.set_cons_succ]
            refine wpAnyH_take (i := 16) (v := ?v16) rfl (by kernel_rfl) (by kernel_rfl) (by kernel_rfl) (fun _ _ _ h => h) (Or.inl ⟨by rfl, ?hy16⟩) (by assumption) ?rest16
            case hy16 => intro w hSw; (try dsimp only at hSw); go_simp; try with_reducible rfl
            change wpAnyH _ _ _ _ _ _ _ (Act.put _ (some 94) _) _
            try simp only [Act.put, List.setIfInBounds_toArray, List.set_cons_zero, List.set_cons_succ]
            refine wpAnyH_take (i := 17) (v := ?v17) rfl (by kernel_rfl) (by kernel_rfl) (by kernel_rfl) (fun _ _ _ h => h) (Or.inl ⟨by rfl, ?hy17⟩) (by assumption) ?rest17
            case hy17 => intro w hSw; (try dsimp only at hSw); go_simp; try with_reducible rfl
            change wpAnyH _ _ _ _ _ _ _ (Act.put _ (some 95) _) _
            try simp only [Act.put, List.setIfInBounds_toArray, List.set_cons_zero, List.set_cons_succ]
            refine wpAnyH_ready (rs := [18]) (by kernel_rfl) (by simp) ?_
            refine AllReadyH.cons rfl (fun K hK => ?_) AllReadyH.nil
            go_simp
            refine (L2.out _).mono ?_
            rintro e w' ⟨rfl, rfl⟩
            go_wp2_with fail
            refine hK.out _ _ (by first | assumption | exact hS _ (by assumption)) (fun hHeld => ?_)
            clear hK K
            try simp only [Act.put, List.setIfInBounds_toArray, List.set_cons_zero, List.set_cons_succ]
            refine wpAnyH_take (i := 19) (v := ?v19) rfl (by kernel_rfl) (by kernel_rfl) (by kernel_rfl) (fun _ _ _ h => h) (Or.inl ⟨by rfl, ?hy19⟩) (by assumption) ?rest19
            case hy19 => intro w hSw; (try dsimp only at hSw); go_simp; try with_reducible rfl
            change wpAnyH _ _ _ _ _ _ _ (Act.put _ (some 97) _) _
            try simp only [Act.put, List.setIfInBounds_toArray, List.set_cons_zero, List.set_cons_succ]
            refine wpAnyH_take (i := 20) (v := ?v20) rfl (by kernel_rfl) (by kernel_rfl) (by kernel_rfl) (fun _ _ _ h => h) (Or.inl ⟨by rfl, ?hy20⟩) (by assumption) ?rest20
            case hy20 => intro w hSw; (try dsimp only at hSw); go_simp; try with_reducible rfl
            change wpAnyH _ _ _ _ _ _ _ (Act.put _ (some 98) _) _
            try simp only [Act.put, List.setIfInBounds_toArray, List.set_cons_zero, List.set_cons_succ]
            refine wpAnyH_take (i := 21) (v := ?v21) rfl (by kernel_rfl) (by kernel_rfl) (by kernel_rfl) (fun _ _ _ h => h) (Or.inl ⟨by rfl, ?hy21⟩) (by assumption) ?rest21
            case hy21 => intro w hSw; (try dsimp only at hSw); go_simp; try with_reducible rfl
            change wpAnyH _ _ _ _ _ _ _ (Act.put _ (some 99) _) _
            try simp only [Act.put, List.setIfInBounds_toArray, List.set_cons_zero, List.set_cons_succ]
            refine wpAnyH_take (i := 22) (v := ?v22) rfl (by kernel_rfl) (by kernel_rfl) (by kernel_rfl) (fun _ _ _ h => h) (Or.inl ⟨by rfl, ?hy22⟩) (by assumption) ?rest22
            case hy22 => intro w hSw; (try dsimp only at hSw); go_simp; try with_reducible rfl
            change wpAnyH _ _ _ _ _ _ _ (Act.put _ (some 100) _) _
            try simp only [Act.put, List.setIfInBounds_toArray, List.set_cons_zero, List.set_cons_succ]
            refine wpAnyH_take (i := 23) (v := ?v23) rfl (by kernel_rfl) (by kernel_rfl) (by kernel_rfl) (fun _ _ _ h => h) (Or.inl ⟨by rfl, ?hy23⟩) (by assumption) ?rest23
            case hy23 => intro w hSw; (try dsimp only at hSw); go_simp; try with_reducible rfl
            change wpAnyH _ _ _ _ _ _ _ (Act.put _ (some 101) _) _
            try simp only [Act.put, List.setIfInBounds_toArray, List.set_cons_zero, List.set_cons_succ]
            refine wpAnyH_take (i := 24) (v := undef) rfl (by kernel_rfl) (by kernel_rfl) (by kernel_rfl) (fun _ _ _ h => h) (Or.inr ⟨by rfl, rfl⟩) (by assumption) ?_
            change wpAnyH _ _ _ _ _ _ _ (Act.put _ (some 102) undef) _
            try simp only [Act.put, List.setIfInBounds_toArray, List.set_cons_zero, List.set_cons_succ]
            refine wpAnyH_take (i := 25) (v := undef) rfl (by kernel_rfl) (by kernel_rfl) (by kernel_rfl) (fun _ _ _ h => h) (Or.inr ⟨by rfl, rfl⟩) (by assumption) ?_
            change wpAnyH _ _ _ _ _ _ _ (Act.put _ (some 103) undef) _
            try simp only [Act.put, List.setIfInBounds_toArray, List.set_cons_zero, List.set_cons_succ]
            refine wpAnyH_take (i := 26) (v := undef) rfl (by kernel_rfl) (by kernel_rfl) (by kernel_rfl) (fun _ _ _ h => h) (Or.inr ⟨by rfl, rfl⟩) (by assumption) ?_
            change wpAnyH _ _ _ _ _ _ _ (Act.put _ (some 104) undef) _
            try simp only [Act.put, List.setIfInBounds_toArray, List.set_cons_zero, List.set_cons_succ]
            refine wpAnyH_take (i := 27) (v := undef) rfl (by kernel_rfl) (by kernel_rfl) (by kernel_rfl) (fun _ _ _ h => h) (Or.inr ⟨by rfl, rfl⟩) (by assumption) ?_
            change wpAnyH _ _ _ _ _ _ _ (Act.put _ (some 105) undef) _
            try simp only [Act.put, List.setIfInBounds_toArray, List.set_cons_zero, List.set_cons_succ]
            refine wpAnyH_take (i := 28) (v := undef) rfl (by kernel_rfl) (by kernel_rfl) (by kernel_rfl) (fun _ _ _ h => h) (Or.inr ⟨by rfl, rfl⟩) (by assumption) ?_
            change wpAnyH _ _ _ _ _ _ _ (Act.put _ (some 106) undef) _
            try simp only [Act.put, List.setIfInBounds_toArray, List.set_cons_zero, List.set_cons_succ]
            refine wpAnyH_take (i := 29) (v := undef) rfl (by kernel_rfl) (by kernel_rfl) (by kernel_rfl) (fun _ _ _ h => h) (Or.inr ⟨by rfl, rfl⟩) (by assumption) ?_
            change wpAnyH _ _ _ _ _ _ _ (Act.put _ (some 107) undef) _
            try simp only [Act.put, List.setIfInBounds_toArray, List.set_cons_zero, List.set_cons_succ]
            refine wpAnyH_take (i := 30) (v := undef) rfl (by kernel_rfl) (by kernel_rfl) (by kernel_rfl) (fun _ _ _ h => h) (Or.inr ⟨by rfl, rfl⟩) (by assumption) ?_
            change wpAnyH _ _ _ _ _ _ _ (Act.put _ (some 108) undef) _
            try simp only [Act.put, List.setIfInBounds_toArray, List.set_cons_zero, List.set_cons_succ]
            refine wpAnyH_take (i := 31) (v := undef) rfl (by kernel_rfl) (by kernel_rfl) (by kernel_rfl) (fun _ _ _ h => h) (Or.inr ⟨by rfl, rfl⟩) (by assumption) ?_
            change wpAnyH _ _ _ _ _ _ _ (Act.put _ (some 109) undef) _
            try simp only [Act.put, List.setIfInBounds_toArray, List.set_cons_zero, List.set_cons_succ]
            refine wpAnyH_take (i := 32) (v := undef) rfl (by kernel_rfl) (by kernel_rfl) (by kernel_rfl) (fun _ _ _ h => h) (Or.inr ⟨by rfl, rfl⟩) (by assumption) ?_
            change wpAnyH _ _ _ _ _ _ _ (Act.put _ (some 110) undef) _
            try simp only [Act.put, List.setIfInBounds_toArray, List.set_cons_zero, List.set_cons_succ]
            refine wpAnyH_take (i := 33) (v := undef) rfl (by kernel_rfl) (by kernel_rfl) (by kernel_rfl) (fun _ _ _ h => h) (Or.inr ⟨by rfl, rfl⟩) (by assumption) ?_
            change wpAnyH _ _ _ _ _ _ _ (Act.put _ (some 111) undef) _
            try simp only [Act.put, List.setIfInBounds_toArray, List.set_cons_zero, List.set_cons_succ]
            refine wpAnyH_take (i := 34) (v := ?v34) rfl (by kernel_rfl) (by kernel_rfl) (by kernel_rfl) (fun _ _ _ h => h) (Or.inl ⟨by rfl, ?hy34⟩) (by assumption) ?rest34
            case hy34 => intro w hSw; (try dsimp only at hSw); go_simp; try with_reducible rfl
            change wpAnyH _ _ _ _ _ _ _ (Act.put _ (some 112) _) _
            try simp only [Act.put, List.setIfInBounds_toArray, List.set_cons_zero, List.set_cons_succ]
            refine wpAnyH_take (i := 35) (v := ?v35) rfl (by kernel_rfl) (by kernel_rfl) (by kernel_rfl) (fun _ _ _ h => h) (Or.inl ⟨by rfl, ?hy35⟩) (by assumption) ?rest35
            case hy35 => intro w hSw; (try dsimp only at hSw); go_simp; try with_reducible rfl
            change wpAnyH _ _ _ _ _ _ _ (Act.put _ (some 113) _) _
            try simp only [Act.put, List.setIfInBounds_toArray, List.set_cons_zero, List.set_cons_succ]
            refine wpAnyH_take (i := 36) (v := ?v36) rfl (by kernel_rfl) (by kernel_rfl) (by kernel_rfl) (fun _ _ _ h => h) (Or.inl ⟨by rfl, ?hy36⟩) (by assumption) ?rest36
            case hy36 => intro w hSw; (try dsimp only at hSw); go_simp; try with_reducible rfl
            change wpAnyH _ _ _ _ _ _ _ (Act.put _ (some 114) _) _
            try simp only [Act.put, List.setIfInBounds_toArray, List.set_cons_zero, List.set_cons_succ]
            refine wpAnyH_take (i := 37) (v := ?v37) rfl (by kernel_rfl) (by kernel_rfl) (by kernel_rfl) (fun _ _ _ h => h) (Or.inl ⟨by rfl, ?hy37⟩) (by assumption) ?rest37
            case hy37 => intro w hSw; (try dsimp only at hSw); go_simp; try with_reducible rfl
            change wpAnyH _ _ _ _ _ _ _ (Act.put _ (some 115) _) _
            try simp only [Act.put, List.setIfInBounds_toArray, List.set_cons_zero, List.set_cons_succ]
            refine wpAnyH_take (i := 38) (v := ?v38) rfl (by kernel_rfl) (by kernel_rfl) (by kernel_rfl) (fun _ _ _ h => h) (Or.inl ⟨by rfl, ?hy38⟩) (by assumption) ?rest38
            case hy38 => intro w hSw; (try dsimp only at hSw); go_simp; try with_reducible rfl
            change wpAnyH _ _ _ _ _ _ _ (Act.put _ (some 116) _) _
            try simp only [Act.put, List.setIfInBounds_toArray, List.set_cons_zero, List.set_cons_succ]
            refine wpAnyH_take (i := 39) (v := ?v39) rfl (by kernel_rfl) (by kernel_rfl) (by kernel_rfl) (fun _ _ _ h => h) (Or.inl ⟨by rfl, ?hy39⟩) (by assumption) ?rest39
            case hy39 => intro w hSw; (try dsimp only at hSw); go_simp; try with_reducible rfl
            change wpAnyH _ _ _ _ _ _ _ (Act.put _ (some 117) _) _
            try simp only [Act.put, List.setIfInBounds_toArray, List.set_cons_zero, List.set_cons_succ]
            refine wpAnyH_take (i := 40) (v := ?v40) rfl (by kernel_rfl) (by kernel_rfl) (by kernel_rfl) (fun _ _ _ h => h) (Or.inl ⟨by rfl, ?hy40⟩) (by assumption) ?rest40
            case hy40 => intro w hSw; (try dsimp only at hSw); go_simp; try with_reducible rfl
            change wpAnyH _ _ _ _ _ _ _ (Act.put _ (some 118) _) _
            try simp only [Act.put, List.setIfInBounds_toArray, List.set_cons_zero, List.set_cons_succ]
            refine wpAnyH_take (i := 41) (v := ?v41) rfl (by kernel_rfl) (by kernel_rfl) (by kernel_rfl) (fun _ _ _ h => h) (Or.inl ⟨by rfl, ?hy41⟩) (by assumption) ?rest41
            case hy41 => intro w hSw; (try dsimp only at hSw); go_simp; try with_reducible rfl
            change wpAnyH _ _ _ _ _ _ _ (Act.put _ (some 119) _) _
            try simp only [Act.put, List.setIfInBounds_toArray, List.set_cons_zero, List.set_cons_succ]
            refine wpAnyH_ready (rs := [42]) (by kernel_rfl) (by simp) ?_
            refine AllReadyH.cons rfl (fun K hK => ?_) AllReadyH.nil
            go_simp
            refine (worst_any g1 p1 n (arr Z n) (arr_size _ _) hn0 (by omega) _ (fun j hj => (HRd.out.cell (p := ⟨g1, j, none⟩) (cell_lt (K1''.out j hj))).trans (K1''.out j hj))).mono ?_
            rintro e w3 ⟨d3, rfl, hd3, P3, Q3, hb3⟩
            have L4 := less_no (L4h.out d3 hd3 P3 Q3)
            replace hb3 := chainB (n := w2.heap.size) (w := w2) HRd hb3
            generalize d3[0]! = u5 at *
            clear P3 Q3 hd3 d3
            go_wp2_with fail
            refine hK.out _ _ (by first | assumption | exact hS _ (by assumption)) (fun hHeld => ?_)
            clear hK K
            try simp only [Act.put, List.setIfInBounds_toArray, List.set_cons_zero, List.set_cons_succ]
            refine wpAnyH_ready (rs := [43]) (by kernel_rfl) (by simp) ?_
            refine AllReadyH.cons rfl (fun K hK => ?_) AllReadyH.nil
            go_simp
            refine (L4 _).mono ?_
            rintro e w' ⟨rfl, rfl⟩
            go_wp2_with fail
            refine hK.out _ _ (by first | assumption | exact hS _ (by assumption)) (fun hHeld => ?_)
            clear hK K
            try simp only [Act.put, List.setIfInBounds_toArray, List.set_cons_zero, List.set_cons_succ]
            refine wpAnyH_take (i := 44) (v := ?v44) rfl (by kernel_rfl) (by kernel_rfl) (by kernel_rfl) (fun _ _ _ h => h) (Or.inl ⟨by rfl, ?hy44⟩) (by assumption) ?rest44
            case hy44 => intro w hSw; (try dsimp only at hSw); go_simp; try with_reducible rfl
            change wpAnyH _ _ _ _ _ _ _ (Act.put _ (some 122) _) _
            try simp only [Act.put, List.setIfInBounds_toArray, List.set_cons_zero, List.set_cons_succ]
            refine wpAnyH_done (by kernel_rfl) ?_ _
            go_wp2_with fail
            go_roundg g'
            case rel => exact ⟨1, by go_num, by omega, hb3⟩
            case measure => omega
          · obtain ⟨p, hp⟩ : ∃ p, k - 1 = p := ⟨_, rfl⟩
            rw [hp] at y4 L3a
            have L3b := L3a (by omega)
            have y5 := fun W h => y4 W h (by omega)
            obtain ⟨u4, e4⟩ : ∃ u, d1[p]! = u := ⟨_, rfl⟩
            rw [e4] at L3b y5
            have R4 := y5 _ HR
            have L3 := Lib.hid (less_no L3b)
            have c2 : decide ((0 : Int) < (k : Int)) = true := decide_eq_true (by omega)
            have i3 : IntKind.i64.wrap ((k : Int) - 1) = (p : Int) := by rw [IntWalk.i64_in _ (by omega)]; omega
            have i4 : (0 : Int) ≤ (p : Int) := by omega
            have i5 : (p : Int) < (n : Int) := by omega
            have hS : ∀ W, Hid (Below w2.heap.size w2 W) → (fun w' => Hid (Below w2.heap.size w2 w') ∧ w'.cell? ⟨h1, k, none⟩ = some (.float .f64 u1.1) ∧ w'.cell? ⟨h2, k, none⟩ = some (.float .f64 u2.1) ∧ w'.cell? ⟨g1, k, none⟩ = some (.float .f64 u3.1) ∧ w'.cell? ⟨h1, p, none⟩ = some (.float .f64 u4.1)) W := fun W h => ⟨h, y1 W h, y2 W h, y3 W h, y5 W h⟩
            have HP := Lib.hid hp
            clear L3a L3b y4 e4 hp y1 y2 y3 y5
            go_wp2_with fail
            go_region_held3 (fun w' => Hid (Below w2.heap.size w2 w') ∧ w'.cell? ⟨h1, k, none⟩ = some (.float .f64 u1.1) ∧ w'.cell? ⟨h2, k, none⟩ = some (.float .f64 u2.1) ∧ w'.cell? ⟨g1, k, none⟩ = some (.float .f64 u3.1) ∧ w'.cell? ⟨h1, p, none⟩ = some (.float .f64 u4.1)) ((first | assumption | exact hS _ (by assumption))) (first
              | (go_at_call 19; refine (worst_any g1 p1 n (arr Z n) (arr_size _ _) hn0 (by omega) _ (fun j hj => (HRd.out.cell (p := ⟨g1, j, none⟩) (cell_lt (K1''.out j hj))).trans (K1''.out j hj))).mono ?_; rintro e w3 ⟨d3, rfl, hd3, P3, Q3, hb3⟩; have L4 := less_no (L4h.out d3 hd3 P3 Q3); replace hb3 := chainB (n := w2.heap.size) (w := w2) HRd hb3; generalize d3[0]! = u5 at *; clear P3 Q3 hd3 d3)
              | (go_at_call 16; with_reducible refine (L1.out _).mono ?_; rintro e w' ⟨rfl, rfl⟩)
              | (go_at_call 16; with_reducible refine (L2.out _).mono ?_; rintro e w' ⟨rfl, rfl⟩)
              | (go_at_call 16; with_reducible refine (L3.out _).mono ?_; rintro e w' ⟨rfl, rfl⟩)
              | (go_at_call 16; refine (L4 _).mono ?_; rintro e w' ⟨rfl, rfl⟩))
            go_wp2_with fail
            go_roundg g'
            case rel => exact ⟨k + 1, by go_num, by omega, hb3⟩
            case measure => omega
        · obtain rfl : n = k := by omega
          have c1 : decide ((n : Int) < (n : Int)) = false := decide_eq_false (by omega)
          go_wp2_with fail
          go_ret
          exact ⟨rfl, B0.out.trans (((B1.out.trans (B2.out.mono B1.out.size)).trans (HR.out.mono (Nat.le_trans B1.out.size B2.out.size))).mono B0.out.size)⟩
end Sb
end Go.Proofs.Ytnljfhoibkeloaa
