/- The walk of the reference's Sorted. -/
import Derived.Test.YtnljfhoibkeloaaSortsR
namespace Go.Proofs.Ytnljfhoibkeloaa
open Go.RowKit Go.Sort Go.Lib
set_option linter.unusedVariables false
set_option linter.unusedSimpArgs false
namespace Sb
open St
set_option maxRecDepth 100000 in
set_option maxHeartbeats 8000000 in
theorem refsorted_any (x : Option Addr) (n cap : Nat) (Z : Nat → W64) (W : World) (hw : Ws W x n cap Z) (hn : n ≤ 40) :
    Calls Try.prog 20 #[.slice x n cap] W fun e w' => ∃ v D, e = .returned v ∧ Part W.heap.size v n Z D W w' := by
  have HW := Lib.hid hw
  clear hw
  go_enter Try.func20, Try.ntmps20
  go_wp2_with fail
  have P0 : Hid (Part W.heap.size (.slice none 0 0) 0 Z Z W W) := ⟨⟨rfl, .inl ⟨rfl, rfl⟩⟩, .refl _, fun i j _ h => by omega, Below.refl _ _⟩
  go_loopg [3, 4, 5, 6, 9] n (fun gk v s4 s5 s6 si wr => ∃ (k : Nat) (D : Nat → W64), si = .int .i64 (k : Int) ∧ k + gk = n ∧ Hid (Part W.heap.size v k Z D W wr))
  case atStart => exact ⟨0, Z, rfl, by omega, P0⟩
  case round =>
    obtain ⟨k, D, rfl, hg, HP⟩ := hrel
    clear P0
    by_cases hlt : k < n
    · obtain ⟨g', rfl⟩ : ∃ g', gk = g' + 1 := ⟨gk - 1, by omega⟩
      have c1 : decide ((k : Int) < (n : Int)) = true := decide_eq_true (by omega)
      obtain ⟨a, c, rfl, hkc, hform⟩ := HP.out.us.form
      obtain ⟨y, rfl⟩ : ∃ y, x = some y := by
        rcases HW.out.here with ⟨_, h0, _⟩ | ⟨y, rfl, _⟩
        · omega
        · exact ⟨y, rfl⟩
      have i1 : (0 : Int) ≤ (k : Int) := by omega
      have i2 : (k : Int) < (n : Int) := by omega
      have HF := Lib.hid hform
      clear hform
      generalize wr = wo at *
      go_wp2_with fail
      go_loopg [5] k (fun gj s5 wx => ∃ j : Nat, s5 = .int .i64 (j : Int) ∧ j ≤ gj ∧ j ≤ k ∧ Hid (∀ i, j ≤ i → i < k → lt (Z k) (D i) = true) ∧ Hid (Below wo.heap.size wo wx))
      case atStart => exact ⟨k, rfl, Nat.le_refl _, Nat.le_refl _, (fun i h1 h2 => by omega), Below.refl _ _⟩
      case round =>
        obtain ⟨j, rfl, hgj, hjk, HL, HB⟩ := hrel
        have lk := (HW.out.below (HP.out.bel.trans (HB.out.mono HP.out.bel.size)) (Nat.le_refl _)).cell y rfl k hlt
        rcases HF.out with ⟨rfl, rfl, rfl⟩ | ⟨g, rfl, hgl, hcl⟩
        · obtain rfl : j = 0 := by omega
          have HS : Hid (0 < 0 → lt (Z 0) (D (0 - 1)) = false) := fun h => absurd h (by omega)
          go_wp2_with fail
          go_quiet (fail)
          have HBq : Hid (Below wo.heap.size wo (wr.drewN nq)) := sh_draws HB
          generalize wr.drewN nq = wq at *
          obtain ⟨vr, w1, r8, U8, B8⟩ := rest_run (B := 0) (k := 0) (p := 0) (D := D) (W := wq) (a := none) (c := 0) (by omega) (Nat.le_refl _) (Nat.zero_le _) (.inl rfl)
          rw [Nat.sub_self] at r8 U8
          obtain ⟨v9, w3, r9, U9, B9⟩ := first_run (k := 0) (D := D) (W := w1.drew) (a := none) (p := 0) (Z 0) (by omega) (by omega) (.inl ⟨rfl, rfl⟩)
          have U8' := U8.below (C := w1.heap.size) (W' := w3) (undrew B9) (Nat.le_refl _)
          obtain ⟨v10, w4, r10, U10, B10⟩ := last_run U9 U8' (by omega) B9.size
          have lk1 := (HW.out.below (HP.out.bel.trans ((HBq.out.trans (B8.mono HBq.out.size)).mono HP.out.bel.size)) (Nat.le_refl _)).cell y rfl 0 hlt
          have lk2 : w1.cell? y = some (.int .u64 ((Z 0).1 : Int)) := by have := lk1; rwa [show y.add 0 = y by unfold Addr.add; split <;> simp_all] at this
          have BF : Hid (Below W.heap.size W w4) := HP.out.bel.trans ((HBq.out.trans ((B8.trans ((undrew (B9.trans (B10.mono (Nat.le_refl _)))).mono B8.size)).mono HBq.out.size)).mono HP.out.bel.size)
          have BU : W.heap.size ≤ w1.drew.heap.size := Nat.le_trans HP.out.bel.size (Nat.le_trans HBq.out.size B8.size)
          have PF : Hid (Part W.heap.size v10 (0 + 1) Z (put1 D 0 (Z 0)) W w4) := ⟨(show 0 + 1 + 0 = 0 + 1 by omega) ▸ ((U10.congr (fun i _ => put1_eq D 0 (Z 0) 0 i)).lower BU), put1_perm D Z 0 0 (by omega) HP.out.perm, put1_sorted D (Z 0) 0 0 (by omega) HP.out.srt HL.out HS.out, BF.out⟩
          clear U8 B8 U9 B9 U8' U10 B10 BF BU lk1
          go_wp2_with (at_builtin; refine App.wpList_run rfl (.tmp 30) (.tmp 33) _ _ rfl rfl rfl r8 ?_)
          clear r8
          refine wp_region_held_drew (S := fun _ => True) (by kernel_rfl) trivial (fun hHeld => ?_)
          refine wpAnyH_take (i := 0) (v := ?v0z1) rfl (by kernel_rfl) (by kernel_rfl) (by kernel_rfl) (fun _ _ _ h => h) (Or.inl ⟨by rfl, ?hy0z1⟩) (by assumption) ?rest0z1
          case hy0z1 => intro w hSw; (try dsimp only at hSw); go_simp; try with_reducible rfl
          change wpAnyH _ _ _ _ _ _ _ (Act.put _ (some 35) _) _
          try simp only [Act.put, List.setIfInBounds_toArray, List.set_cons_zero, List.set_cons_succ]
          refine wpAnyH_take (i := 1) (v := ?v1z1) rfl (by kernel_rfl) (by kernel_rfl) (by kernel_rfl) (fun _ _ _ h => h) (Or.inl ⟨by rfl, ?hy1z1⟩) (by assumption) ?rest1z1
          case hy1z1 => intro w hSw; (try dsimp only at hSw); go_simp; try with_reducible rfl
          change wpAnyH _ _ _ _ _ _ _ (Act.put _ (some 36) _) _
          try simp only [Act.put, List.setIfInBounds_toArray, List.set_cons_zero, List.set_cons_succ]
          refine wpAnyH_take (i := 2) (v := ?v2z1) rfl (by kernel_rfl) (by kernel_rfl) (by kernel_rfl) (fun _ _ _ h => h) (Or.inl ⟨by rfl, ?hy2z1⟩) (by assumption) ?rest2z1
          case hy2z1 => intro w hSw; (try dsimp only at hSw); go_simp; try with_reducible rfl
          change wpAnyH _ _ _ _ _ _ _ (Act.put _ (some 37) _) _
          try simp only [Act.put, List.setIfInBounds_toArray, List.set_cons_zero, List.set_cons_succ]
          refine wpAnyH_take (i := 3) (v := ?v3z1) rfl (by kernel_rfl) (by kernel_rfl) (by kernel_rfl) (fun _ _ _ h => h) (Or.inl ⟨by rfl, ?hy3z1⟩) (by assumption) ?rest3z1
          case hy3z1 => intro w hSw; (try dsimp only at hSw); go_simp; try with_reducible rfl
          change wpAnyH _ _ _ _ _ _ _ (Act.put _ (some 38) _) _
          try simp only [Act.put, List.setIfInBounds_toArray, List.set_cons_zero, List.set_cons_succ]
          refine wpAnyH_take (i := 4) (v := ?v4z1) rfl (by kernel_rfl) (by kernel_rfl) (by kernel_rfl) (fun _ _ _ h => h) (Or.inl ⟨by rfl, ?hy4z1⟩) (by assumption) ?rest4z1
          case hy4z1 => intro w hSw; (try dsimp only at hSw); go_simp; try with_reducible rfl
          change wpAnyH _ _ _ _ _ _ _ (Act.put _ (some 39) _) _
          try simp only [Act.put, List.setIfInBounds_toArray, List.set_cons_zero, List.set_cons_succ]
          refine wpAnyH_take (i := 5) (v := ?v5z1) rfl (by kernel_rfl) (by kernel_rfl) (by kernel_rfl) (fun _ _ _ h => h) (Or.inl ⟨by rfl, ?hy5z1⟩) (by assumption) ?rest5z1
          case hy5z1 => intro w hSw; (try dsimp only at hSw); go_simp; try with_reducible rfl
          change wpAnyH _ _ _ _ _ _ _ (Act.put _ (some 40) _) _
          try simp only [Act.put, List.setIfInBounds_toArray, List.set_cons_zero, List.set_cons_succ]
          refine wpAnyH_take (i := 6) (v := ?v6z1) rfl (by kernel_rfl) (by kernel_rfl) (by kernel_rfl) (fun _ _ _ h => h) (Or.inl ⟨by rfl, ?hy6z1⟩) (by assumption) ?rest6z1
          case hy6z1 => intro w hSw; (try dsimp only at hSw); go_simp; try with_reducible rfl
          change wpAnyH _ _ _ _ _ _ _ (Act.put _ (some 41) _) _
          try simp only [Act.put, List.setIfInBounds_toArray, List.set_cons_zero, List.set_cons_succ]
          refine wpAnyH_take (i := 10) (v := ?v10z1) rfl (by kernel_rfl) (by kernel_rfl) (by kernel_rfl) (fun _ _ _ h => h) (Or.inl ⟨by rfl, ?hy10z1⟩) (by assumption) ?rest10z1
          case hy10z1 => intro w hSw; (try dsimp only at hSw); go_simp; try with_reducible rfl
          change wpAnyH _ _ _ _ _ _ _ (Act.put _ (some 45) _) _
          try simp only [Act.put, List.setIfInBounds_toArray, List.set_cons_zero, List.set_cons_succ]
          refine wpAnyH_ready (rs := [7]) (by kernel_rfl) (by simp) ?_
          refine AllReadyH.cons rfl (fun K hK => ?_) AllReadyH.nil
          go_simp
          refine hK.out _ _ trivial (fun hHeld => ?_)
          clear hK K
          try simp only [Act.put, List.setIfInBounds_toArray, List.set_cons_zero, List.set_cons_succ]
          refine wpAnyH_ready (rs := [8]) (by kernel_rfl) (by simp) ?_
          refine AllReadyH.cons rfl (fun K hK => ?_) AllReadyH.nil
          go_simp
          refine hK.out _ _ trivial (fun hHeld => ?_)
          clear hK K
          try simp only [Act.put, List.setIfInBounds_toArray, List.set_cons_zero, List.set_cons_succ]
          refine wpAnyH_ready (rs := [9]) (by kernel_rfl) (by simp) ?_
          refine AllReadyH.cons rfl (fun K hK => ?_) AllReadyH.nil
          rw [if_pos (by rfl)]
          refine oper_run (.tmp 38) (.tmp 43) _ _ rfl rfl rfl r9 ?_
          refine hK.out _ _ trivial (fun hHeld => ?_)
          clear hK K
          try simp only [Act.put, List.setIfInBounds_toArray, List.set_cons_zero, List.set_cons_succ]
          refine wpAnyH_ready (rs := [11]) (by kernel_rfl) (by simp) ?_
          refine AllReadyH.cons rfl (fun K hK => ?_) AllReadyH.nil
          rw [if_pos (by rfl)]
          refine oper_run (.tmp 44) (.tmp 45) _ _ rfl rfl rfl r10 ?_
          refine hK.out _ _ trivial (fun hHeld => ?_)
          clear hK K
          try simp only [Act.put, List.setIfInBounds_toArray, List.set_cons_zero, List.set_cons_succ]
          refine wpAnyH_take (i := 12) (v := ?v12z1) rfl (by kernel_rfl) (by kernel_rfl) (by kernel_rfl) (fun _ _ _ h => h) (Or.inl ⟨by rfl, ?hy12z1⟩) (by assumption) ?rest12z1
          case hy12z1 => intro w hSw; (try dsimp only at hSw); go_simp; try with_reducible rfl
          change wpAnyH _ _ _ _ _ _ _ (Act.put _ (some 3) _) _
          try simp only [Act.put, List.setIfInBounds_toArray, List.set_cons_zero, List.set_cons_succ]
          refine wpAnyH_done (by kernel_rfl) ?_ _
          clear r9 r10
          go_wp2_with fail
          go_roundg g'
          case rel => exact ⟨0 + 1, put1 D 0 (Z 0), by go_num, by omega, PF⟩
          case measure => omega
        · have HC : Hid (∀ j, j < k → wr.cell? ⟨g, j, none⟩ = some (.int .u64 ((D j).1 : Int))) := fun j hj => (HB.out.cell (p := ⟨g, j, none⟩) hgl).trans (hcl j hj)
          clear hcl
          have j1 : (0 : Int) ≤ (j : Int) := by omega
          have j2 : (j : Int) ≤ (k : Int) := by omega
          have j3 : (k : Int) ≤ (c : Int) := by omega
          have j4 : (j : Int) ≤ (c : Int) := by omega
          by_cases hcj : c = j
          · obtain rfl : k = j := by omega
            obtain rfl : k = c := hcj.symm
            clear j2 j3 j4
            rcases Nat.eq_zero_or_pos k with hj0 | hj0
            · have c2 : decide ((0 : Int) < (k : Int)) = false := decide_eq_false (by omega)
              have c3 : decide (0 < k) = false := decide_eq_false (by omega)
              have c4 : ¬ 0 < k := by omega
              have HS : Hid (0 < k → lt (Z k) (D (k - 1)) = false) := fun h => absurd h (by omega)
              have Hj := Lib.hid hj0
              clear hj0
              go_wp2_with fail
              go_quiet (fail)
              have HBq : Hid (Below wo.heap.size wo (wr.drewN nq)) := sh_draws HB
              have HCq : Hid (∀ j, j < k → (wr.drewN nq).cell? ⟨g, j, none⟩ = some (.int .u64 ((D j).1 : Int))) := HC
              generalize wr.drewN nq = wq at *
              obtain ⟨vr, w1, r8, U8, B8⟩ := rest_run (B := 0) (k := k) (p := k) (D := D) (W := wq) (a := some ⟨g, 0, none⟩) (c := 0) (by omega) (Nat.le_refl _) (Nat.zero_le _) (.inl rfl)
              rw [Nat.sub_self] at r8 U8
              obtain ⟨v9, w3, r9, U9, B9⟩ := first_run (k := k) (D := D) (W := w1.drew) (a := (some ⟨g, 0, none⟩)) (p := k) (Z k) (by omega) (by omega) (.inr ⟨g, rfl, Nat.lt_of_lt_of_le hgl (Nat.le_trans HBq.out.size B8.size), fun i hi => (B8.cell (p := ⟨g, i, none⟩) (Nat.lt_of_lt_of_le hgl HBq.out.size)).trans (HCq.out i (by omega))⟩)
              have U8' := U8.below (C := w1.heap.size) (W' := w3) (undrew B9) (Nat.le_refl _)
              obtain ⟨v10, w4, r10, U10, B10⟩ := last_run U9 U8' (by omega) B9.size
              have lk1 := (HW.out.below (HP.out.bel.trans ((HBq.out.trans (B8.mono HBq.out.size)).mono HP.out.bel.size)) (Nat.le_refl _)).cell y rfl k hlt
              have lk2 := lk1
              have BF : Hid (Below W.heap.size W w4) := HP.out.bel.trans ((HBq.out.trans ((B8.trans ((undrew (B9.trans (B10.mono (Nat.le_refl _)))).mono B8.size)).mono HBq.out.size)).mono HP.out.bel.size)
              have BU : W.heap.size ≤ w1.drew.heap.size := Nat.le_trans HP.out.bel.size (Nat.le_trans HBq.out.size B8.size)
              have PF : Hid (Part W.heap.size v10 (k + 1) Z (put1 D k (Z k)) W w4) := ⟨(show k + 1 + 0 = k + 1 by omega) ▸ ((U10.congr (fun i _ => put1_eq D k (Z k) k i)).lower BU), put1_perm D Z k k (by omega) HP.out.perm, put1_sorted D (Z k) k k (by omega) HP.out.srt HL.out HS.out, BF.out⟩
              clear U8 B8 U9 B9 U8' U10 B10 BF BU lk1
              go_wp2_with (at_builtin; refine App.wpList_run rfl (.tmp 30) (.tmp 33) _ _ rfl rfl rfl r8 ?_)
              clear r8
              refine wp_region_held_drew (S := fun _ => True) (by kernel_rfl) trivial (fun hHeld => ?_)
              refine wpAnyH_take (i := 0) (v := ?v0z2) rfl (by kernel_rfl) (by kernel_rfl) (by kernel_rfl) (fun _ _ _ h => h) (Or.inl ⟨by rfl, ?hy0z2⟩) (by assumption) ?rest0z2
              case hy0z2 => intro w hSw; (try dsimp only at hSw); go_simp; try with_reducible rfl
              change wpAnyH _ _ _ _ _ _ _ (Act.put _ (some 35) _) _
              try simp only [Act.put, List.setIfInBounds_toArray, List.set_cons_zero, List.set_cons_succ]
              refine wpAnyH_take (i := 1) (v := ?v1z2) rfl (by kernel_rfl) (by kernel_rfl) (by kernel_rfl) (fun _ _ _ h => h) (Or.inl ⟨by rfl, ?hy1z2⟩) (by assumption) ?rest1z2
              case hy1z2 => intro w hSw; (try dsimp only at hSw); go_simp; try with_reducible rfl
              change wpAnyH _ _ _ _ _ _ _ (Act.put _ (some 36) _) _
              try simp only [Act.put, List.setIfInBounds_toArray, List.set_cons_zero, List.set_cons_succ]
              refine wpAnyH_take (i := 2) (v := ?v2z2) rfl (by kernel_rfl) (by kernel_rfl) (by kernel_rfl) (fun _ _ _ h => h) (Or.inl ⟨by rfl, ?hy2z2⟩) (by assumption) ?rest2z2
              case hy2z2 => intro w hSw; (try dsimp only at hSw); go_simp; try with_reducible rfl
              change wpAnyH _ _ _ _ _ _ _ (Act.put _ (some 37) _) _
              try simp only [Act.put, List.setIfInBounds_toArray, List.set_cons_zero, List.set_cons_succ]
              refine wpAnyH_take (i := 3) (v := ?v3z2) rfl (by kernel_rfl) (by kernel_rfl) (by kernel_rfl) (fun _ _ _ h => h) (Or.inl ⟨by rfl, ?hy3z2⟩) (by assumption) ?rest3z2
              case hy3z2 => intro w hSw; (try dsimp only at hSw); go_simp; try with_reducible rfl
              change wpAnyH _ _ _ _ _ _ _ (Act.put _ (some 38) _) _
              try simp only [Act.put, List.setIfInBounds_toArray, List.set_cons_zero, List.set_cons_succ]
              refine wpAnyH_take (i := 4) (v := ?v4z2) rfl (by kernel_rfl) (by kernel_rfl) (by kernel_rfl) (fun _ _ _ h => h) (Or.inl ⟨by rfl, ?hy4z2⟩) (by assumption) ?rest4z2
              case hy4z2 => intro w hSw; (try dsimp only at hSw); go_simp; try with_reducible rfl
              change wpAnyH _ _ _ _ _ _ _ (Act.put _ (some 39) _) _
              try simp only [Act.put, List.setIfInBounds_toArray, List.set_cons_zero, List.set_cons_succ]
              refine wpAnyH_take (i := 5) (v := ?v5z2) rfl (by kernel_rfl) (by kernel_rfl) (by kernel_rfl) (fun _ _ _ h => h) (Or.inl ⟨by rfl, ?hy5z2⟩) (by assumption) ?rest5z2
              case hy5z2 => intro w hSw; (try dsimp only at hSw); go_simp; try with_reducible rfl
              change wpAnyH _ _ _ _ _ _ _ (Act.put _ (some 40) _) _
              try simp only [Act.put, List.setIfInBounds_toArray, List.set_cons_zero, List.set_cons_succ]
              refine wpAnyH_take (i := 6) (v := ?v6z2) rfl (by kernel_rfl) (by kernel_rfl) (by kernel_rfl) (fun _ _ _ h => h) (Or.inl ⟨by rfl, ?hy6z2⟩) (by assumption) ?rest6z2
              case hy6z2 => intro w hSw; (try dsimp only at hSw); go_simp; try with_reducible rfl
              change wpAnyH _ _ _ _ _ _ _ (Act.put _ (some 41) _) _
              try simp only [Act.put, List.setIfInBounds_toArray, List.set_cons_zero, List.set_cons_succ]
              refine wpAnyH_take (i := 10) (v := ?v10z2) rfl (by kernel_rfl) (by kernel_rfl) (by kernel_rfl) (fun _ _ _ h => h) (Or.inl ⟨by rfl, ?hy10z2⟩) (by assumption) ?rest10z2
              case hy10z2 => intro w hSw; (try dsimp only at hSw); go_simp; try with_reducible rfl
              change wpAnyH _ _ _ _ _ _ _ (Act.put _ (some 45) _) _
              try simp only [Act.put, List.setIfInBounds_toArray, List.set_cons_zero, List.set_cons_succ]
              refine wpAnyH_ready (rs := [7]) (by kernel_rfl) (by simp) ?_
              refine AllReadyH.cons rfl (fun K hK => ?_) AllReadyH.nil
              go_simp
              refine hK.out _ _ trivial (fun hHeld => ?_)
              clear hK K
              try simp only [Act.put, List.setIfInBounds_toArray, List.set_cons_zero, List.set_cons_succ]
              refine wpAnyH_ready (rs := [8]) (by kernel_rfl) (by simp) ?_
              refine AllReadyH.cons rfl (fun K hK => ?_) AllReadyH.nil
              go_simp
              refine hK.out _ _ trivial (fun hHeld => ?_)
              clear hK K
              try simp only [Act.put, List.setIfInBounds_toArray, List.set_cons_zero, List.set_cons_succ]
              refine wpAnyH_ready (rs := [9]) (by kernel_rfl) (by simp) ?_
              refine AllReadyH.cons rfl (fun K hK => ?_) AllReadyH.nil
              rw [if_pos (by rfl)]
              refine oper_run (.tmp 38) (.tmp 43) _ _ rfl rfl rfl r9 ?_
              refine hK.out _ _ trivial (fun hHeld => ?_)
              clear hK K
              try simp only [Act.put, List.setIfInBounds_toArray, List.set_cons_zero, List.set_cons_succ]
              refine wpAnyH_ready (rs := [11]) (by kernel_rfl) (by simp) ?_
              refine AllReadyH.cons rfl (fun K hK => ?_) AllReadyH.nil
              rw [if_pos (by rfl)]
              refine oper_run (.tmp 44) (.tmp 45) _ _ rfl rfl rfl r10 ?_
              refine hK.out _ _ trivial (fun hHeld => ?_)
              clear hK K
              try simp only [Act.put, List.setIfInBounds_toArray, List.set_cons_zero, List.set_cons_succ]
              refine wpAnyH_take (i := 12) (v := ?v12z2) rfl (by kernel_rfl) (by kernel_rfl) (by kernel_rfl) (fun _ _ _ h => h) (Or.inl ⟨by rfl, ?hy12z2⟩) (by assumption) ?rest12z2
              case hy12z2 => intro w hSw; (try dsimp only at hSw); go_simp; try with_reducible rfl
              change wpAnyH _ _ _ _ _ _ _ (Act.put _ (some 3) _) _
              try simp only [Act.put, List.setIfInBounds_toArray, List.set_cons_zero, List.set_cons_succ]
              refine wpAnyH_done (by kernel_rfl) ?_ _
              clear r9 r10
              go_wp2_with fail
              go_roundg g'
              case rel => exact ⟨k + 1, put1 D k (Z k), by go_num, by omega, PF⟩
              case measure => omega
            · obtain ⟨q, hq⟩ : ∃ q, k - 1 = q := ⟨_, rfl⟩
              have c2 : decide ((0 : Int) < (k : Int)) = true := decide_eq_true (by omega)
              have i3 : IntKind.i64.wrap ((k : Int) - 1) = (q : Int) := by rw [IntWalk.i64_in _ (by omega)]; omega
              have i4 : (0 : Int) ≤ (q : Int) := by omega
              have i5 : (q : Int) < (k : Int) := by omega
              have k0 := HC.out q (by omega)
              have HL1 := Lib.hid (fun w => refless_lt (Z k) (D q) w)
              generalize hb : lt (Z k) (D q) = b at HL1
              have Hb := Lib.hid hb
              have Hq := Lib.hid hq
              clear hb hq
              cases b
              · have HS : Hid (0 < k → lt (Z k) (D (k - 1)) = false) := fun _ => by rw [Hq.out]; exact Hb.out
                go_wp2_with fail
                go_quiet ((first | (go_at_call 17; with_reducible exact calm1 HL1.out)))
                have HBq : Hid (Below wo.heap.size wo (wr.drewN nq)) := sh_draws HB
                have HCq : Hid (∀ j, j < k → (wr.drewN nq).cell? ⟨g, j, none⟩ = some (.int .u64 ((D j).1 : Int))) := HC
                generalize wr.drewN nq = wq at *
                obtain ⟨vr, w1, r8, U8, B8⟩ := rest_run (B := 0) (k := k) (p := k) (D := D) (W := wq) (a := some ⟨g, 0, none⟩) (c := 0) (by omega) (Nat.le_refl _) (Nat.zero_le _) (.inl rfl)
                rw [Nat.sub_self] at r8 U8
                obtain ⟨v9, w3, r9, U9, B9⟩ := first_run (k := k) (D := D) (W := w1.drew) (a := (some ⟨g, 0, none⟩)) (p := k) (Z k) (by omega) (by omega) (.inr ⟨g, rfl, Nat.lt_of_lt_of_le hgl (Nat.le_trans HBq.out.size B8.size), fun i hi => (B8.cell (p := ⟨g, i, none⟩) (Nat.lt_of_lt_of_le hgl HBq.out.size)).trans (HCq.out i (by omega))⟩)
                have U8' := U8.below (C := w1.heap.size) (W' := w3) (undrew B9) (Nat.le_refl _)
                obtain ⟨v10, w4, r10, U10, B10⟩ := last_run U9 U8' (by omega) B9.size
                have lk1 := (HW.out.below (HP.out.bel.trans ((HBq.out.trans (B8.mono HBq.out.size)).mono HP.out.bel.size)) (Nat.le_refl _)).cell y rfl k hlt
                have lk2 := lk1
                have BF : Hid (Below W.heap.size W w4) := HP.out.bel.trans ((HBq.out.trans ((B8.trans ((undrew (B9.trans (B10.mono (Nat.le_refl _)))).mono B8.size)).mono HBq.out.size)).mono HP.out.bel.size)
                have BU : W.heap.size ≤ w1.drew.heap.size := Nat.le_trans HP.out.bel.size (Nat.le_trans HBq.out.size B8.size)
                have PF : Hid (Part W.heap.size v10 (k + 1) Z (put1 D k (Z k)) W w4) := ⟨(show k + 1 + 0 = k + 1 by omega) ▸ ((U10.congr (fun i _ => put1_eq D k (Z k) k i)).lower BU), put1_perm D Z k k (by omega) HP.out.perm, put1_sorted D (Z k) k k (by omega) HP.out.srt HL.out HS.out, BF.out⟩
                clear U8 B8 U9 B9 U8' U10 B10 BF BU lk1
                go_wp2_with (at_builtin; refine App.wpList_run rfl (.tmp 30) (.tmp 33) _ _ rfl rfl rfl r8 ?_)
                clear r8
                refine wp_region_held_drew (S := fun _ => True) (by kernel_rfl) trivial (fun hHeld => ?_)
                refine wpAnyH_take (i := 0) (v := ?v0z3) rfl (by kernel_rfl) (by kernel_rfl) (by kernel_rfl) (fun _ _ _ h => h) (Or.inl ⟨by rfl, ?hy0z3⟩) (by assumption) ?rest0z3
                case hy0z3 => intro w hSw; (try dsimp only at hSw); go_simp; try with_reducible rfl
                change wpAnyH _ _ _ _ _ _ _ (Act.put _ (some 35) _) _
                try simp only [Act.put, List.setIfInBounds_toArray, List.set_cons_zero, List.set_cons_succ]
                refine wpAnyH_take (i := 1) (v := ?v1z3) rfl (by kernel_rfl) (by kernel_rfl) (by kernel_rfl) (fun _ _ _ h => h) (Or.inl ⟨by rfl, ?hy1z3⟩) (by assumption) ?rest1z3
                case hy1z3 => intro w hSw; (try dsimp only at hSw); go_simp; try with_reducible rfl
                change wpAnyH _ _ _ _ _ _ _ (Act.put _ (some 36) _) _
                try simp only [Act.put, List.setIfInBounds_toArray, List.set_cons_zero, List.set_cons_succ]
                refine wpAnyH_take (i := 2) (v := ?v2z3) rfl (by kernel_rfl) (by kernel_rfl) (by kernel_rfl) (fun _ _ _ h => h) (Or.inl ⟨by rfl, ?hy2z3⟩) (by assumption) ?rest2z3
                case hy2z3 => intro w hSw; (try dsimp only at hSw); go_simp; try with_reducible rfl
                change wpAnyH _ _ _ _ _ _ _ (Act.put _ (some 37) _) _
                try simp only [Act.put, List.setIfInBounds_toArray, List.set_cons_zero, List.set_cons_succ]
                refine wpAnyH_take (i := 3) (v := ?v3z3) rfl (by kernel_rfl) (by kernel_rfl) (by kernel_rfl) (fun _ _ _ h => h) (Or.inl ⟨by rfl, ?hy3z3⟩) (by assumption) ?rest3z3
                case hy3z3 => intro w hSw; (try dsimp only at hSw); go_simp; try with_reducible rfl
                change wpAnyH _ _ _ _ _ _ _ (Act.put _ (some 38) _) _
                try simp only [Act.put, List.setIfInBounds_toArray, List.set_cons_zero, List.set_cons_succ]
                refine wpAnyH_take (i := 4) (v := ?v4z3) rfl (by kernel_rfl) (by kernel_rfl) (by kernel_rfl) (fun _ _ _ h => h) (Or.inl ⟨by rfl, ?hy4z3⟩) (by assumption) ?rest4z3
                case hy4z3 => intro w hSw; (try dsimp only at hSw); go_simp; try with_reducible rfl
                change wpAnyH _ _ _ _ _ _ _ (Act.put _ (some 39) _) _
                try simp only [Act.put, List.setIfInBounds_toArray, List.set_cons_zero, List.set_cons_succ]
                refine wpAnyH_take (i := 5) (v := ?v5z3) rfl (by kernel_rfl) (by kernel_rfl) (by kernel_rfl) (fun _ _ _ h => h) (Or.inl ⟨by rfl, ?hy5z3⟩) (by assumption) ?rest5z3
                case hy5z3 => intro w hSw; (try dsimp only at hSw); go_simp; try with_reducible rfl
                change wpAnyH _ _ _ _ _ _ _ (Act.put _ (some 40) _) _
                try simp only [Act.put, List.setIfInBounds_toArray, List.set_cons_zero, List.set_cons_succ]
                refine wpAnyH_take (i := 6) (v := ?v6z3) rfl (by kernel_rfl) (by kernel_rfl) (by kernel_rfl) (fun _ _ _ h => h) (Or.inl ⟨by rfl, ?hy6z3⟩) (by assumption) ?rest6z3
                case hy6z3 => intro w hSw; (try dsimp only at hSw); go_simp; try with_reducible rfl
                change wpAnyH _ _ _ _ _ _ _ (Act.put _ (some 41) _) _
                try simp only [Act.put, List.setIfInBounds_toArray, List.set_cons_zero, List.set_cons_succ]
                refine wpAnyH_take (i := 10) (v := ?v10z3) rfl (by kernel_rfl) (by kernel_rfl) (by kernel_rfl) (fun _ _ _ h => h) (Or.inl ⟨by rfl, ?hy10z3⟩) (by assumption) ?rest10z3
                case hy10z3 => intro w hSw; (try dsimp only at hSw); go_simp; try with_reducible rfl
                change wpAnyH _ _ _ _ _ _ _ (Act.put _ (some 45) _) _
                try simp only [Act.put, List.setIfInBounds_toArray, List.set_cons_zero, List.set_cons_succ]
                refine wpAnyH_ready (rs := [7]) (by kernel_rfl) (by simp) ?_
                refine AllReadyH.cons rfl (fun K hK => ?_) AllReadyH.nil
                go_simp
                refine hK.out _ _ trivial (fun hHeld => ?_)
                clear hK K
                try simp only [Act.put, List.setIfInBounds_toArray, List.set_cons_zero, List.set_cons_succ]
                refine wpAnyH_ready (rs := [8]) (by kernel_rfl) (by simp) ?_
                refine AllReadyH.cons rfl (fun K hK => ?_) AllReadyH.nil
                go_simp
                refine hK.out _ _ trivial (fun hHeld => ?_)
                clear hK K
                try simp only [Act.put, List.setIfInBounds_toArray, List.set_cons_zero, List.set_cons_succ]
                refine wpAnyH_ready (rs := [9]) (by kernel_rfl) (by simp) ?_
                refine AllReadyH.cons rfl (fun K hK => ?_) AllReadyH.nil
                rw [if_pos (by rfl)]
                refine oper_run (.tmp 38) (.tmp 43) _ _ rfl rfl rfl r9 ?_
                refine hK.out _ _ trivial (fun hHeld => ?_)
                clear hK K
                try simp only [Act.put, List.setIfInBounds_toArray, List.set_cons_zero, List.set_cons_succ]
                refine wpAnyH_ready (rs := [11]) (by kernel_rfl) (by simp) ?_
                refine AllReadyH.cons rfl (fun K hK => ?_) AllReadyH.nil
                rw [if_pos (by rfl)]
                refine oper_run (.tmp 44) (.tmp 45) _ _ rfl rfl rfl r10 ?_
                refine hK.out _ _ trivial (fun hHeld => ?_)
                clear hK K
                try simp only [Act.put, List.setIfInBounds_toArray, List.set_cons_zero, List.set_cons_succ]
                refine wpAnyH_take (i := 12) (v := ?v12z3) rfl (by kernel_rfl) (by kernel_rfl) (by kernel_rfl) (fun _ _ _ h => h) (Or.inl ⟨by rfl, ?hy12z3⟩) (by assumption) ?rest12z3
                case hy12z3 => intro w hSw; (try dsimp only at hSw); go_simp; try with_reducible rfl
                change wpAnyH _ _ _ _ _ _ _ (Act.put _ (some 3) _) _
                try simp only [Act.put, List.setIfInBounds_toArray, List.set_cons_zero, List.set_cons_succ]
                refine wpAnyH_done (by kernel_rfl) ?_ _
                clear r9 r10
                go_wp2_with fail
                go_roundg g'
                case rel => exact ⟨k + 1, put1 D k (Z k), by go_num, by omega, PF⟩
                case measure => omega
              · have HL2 : Hid (∀ i, q ≤ i → i < k → lt (Z k) (D i) = true) := fun i h1 h2 => by
                  by_cases e : i = q
                  · rw [e]; exact Hb.out
                  · exact HL.out i (by have := Hq.out; omega) h2
                go_wp2_with fail
                go_quiet ((first | (go_at_call 17; with_reducible exact calm1 HL1.out)))
                have HBq : Hid (Below wo.heap.size wo (wr.drewN nq)) := sh_draws HB
                generalize wr.drewN nq = wq at *
                go_wp2_with fail
                obtain ⟨gq, rfl⟩ : ∃ gq, gk = gq + 1 := ⟨gk - 1, by omega⟩
                go_roundg gq
                case rel => exact ⟨q, rfl, by have := Hq.out; omega, by omega, HL2, HBq⟩
                case measure => omega
          · have hjc : ¬ j = c := fun e => hcj e.symm
            rcases Nat.eq_zero_or_pos j with hj0 | hj0
            · have c2 : decide ((0 : Int) < (j : Int)) = false := decide_eq_false (by omega)
              have c3 : decide (0 < j) = false := decide_eq_false (by omega)
              have c4 : ¬ 0 < j := by omega
              have HS : Hid (0 < j → lt (Z k) (D (j - 1)) = false) := fun h => absurd h (by omega)
              have Hj := Lib.hid hj0
              clear hj0
              go_wp2_with fail
              go_quiet (fail)
              have HBq : Hid (Below wo.heap.size wo (wr.drewN nq)) := sh_draws HB
              have HCq : Hid (∀ j, j < k → (wr.drewN nq).cell? ⟨g, j, none⟩ = some (.int .u64 ((D j).1 : Int))) := HC
              generalize wr.drewN nq = wq at *
              obtain ⟨vr, w1, r8, U8, B8⟩ := rest_run (B := 0) (k := k) (p := j) (D := D) (W := wq) (a := some ⟨g, j, none⟩) (c := c - j) (by omega) hjk (Nat.zero_le _) (.inr ⟨g, rfl, Nat.lt_of_lt_of_le hgl HBq.out.size, fun i h1 h2 => HCq.out i h2⟩)
              obtain ⟨v9, w3, r9, U9, B9⟩ := first_run (k := k) (D := D) (W := w1.drew) (a := (some ⟨g, 0, none⟩)) (p := j) (Z k) (by omega) (by omega) (.inr ⟨g, rfl, Nat.lt_of_lt_of_le hgl (Nat.le_trans HBq.out.size B8.size), fun i hi => (B8.cell (p := ⟨g, i, none⟩) (Nat.lt_of_lt_of_le hgl HBq.out.size)).trans (HCq.out i (by omega))⟩)
              have U8' := U8.below (C := w1.heap.size) (W' := w3) (undrew B9) (Nat.le_refl _)
              obtain ⟨v10, w4, r10, U10, B10⟩ := last_run U9 U8' (by omega) B9.size
              have lk1 := (HW.out.below (HP.out.bel.trans ((HBq.out.trans (B8.mono HBq.out.size)).mono HP.out.bel.size)) (Nat.le_refl _)).cell y rfl k hlt
              have lk2 := lk1
              have BF : Hid (Below W.heap.size W w4) := HP.out.bel.trans ((HBq.out.trans ((B8.trans ((undrew (B9.trans (B10.mono (Nat.le_refl _)))).mono B8.size)).mono HBq.out.size)).mono HP.out.bel.size)
              have BU : W.heap.size ≤ w1.drew.heap.size := Nat.le_trans HP.out.bel.size (Nat.le_trans HBq.out.size B8.size)
              have PF : Hid (Part W.heap.size v10 (k + 1) Z (put1 D j (Z k)) W w4) := ⟨(show j + 1 + (k - j) = k + 1 by omega) ▸ ((U10.congr (fun i _ => put1_eq D j (Z k) k i)).lower BU), put1_perm D Z k j (by omega) HP.out.perm, put1_sorted D (Z k) k j (by omega) HP.out.srt HL.out HS.out, BF.out⟩
              clear U8 B8 U9 B9 U8' U10 B10 BF BU lk1
              go_wp2_with (at_builtin; refine App.wpList_run rfl (.tmp 30) (.tmp 33) _ _ rfl rfl rfl r8 ?_)
              clear r8
              refine wp_region_held_drew (S := fun _ => True) (by kernel_rfl) trivial (fun hHeld => ?_)
              refine wpAnyH_take (i := 0) (v := ?v0z4) rfl (by kernel_rfl) (by kernel_rfl) (by kernel_rfl) (fun _ _ _ h => h) (Or.inl ⟨by rfl, ?hy0z4⟩) (by assumption) ?rest0z4
              case hy0z4 => intro w hSw; (try dsimp only at hSw); go_simp; try with_reducible rfl
              change wpAnyH _ _ _ _ _ _ _ (Act.put _ (some 35) _) _
              try simp only [Act.put, List.setIfInBounds_toArray, List.set_cons_zero, List.set_cons_succ]
              refine wpAnyH_take (i := 1) (v := ?v1z4) rfl (by kernel_rfl) (by kernel_rfl) (by kernel_rfl) (fun _ _ _ h => h) (Or.inl ⟨by rfl, ?hy1z4⟩) (by assumption) ?rest1z4
              case hy1z4 => intro w hSw; (try dsimp only at hSw); go_simp; try with_reducible rfl
              change wpAnyH _ _ _ _ _ _ _ (Act.put _ (some 36) _) _
              try simp only [Act.put, List.setIfInBounds_toArray, List.set_cons_zero, List.set_cons_succ]
              refine wpAnyH_take (i := 2) (v := ?v2z4) rfl (by kernel_rfl) (by kernel_rfl) (by kernel_rfl) (fun _ _ _ h => h) (Or.inl ⟨by rfl, ?hy2z4⟩) (by assumption) ?rest2z4
              case hy2z4 => intro w hSw; (try dsimp only at hSw); go_simp; try with_reducible rfl
              change wpAnyH _ _ _ _ _ _ _ (Act.put _ (some 37) _) _
              try simp only [Act.put, List.setIfInBounds_toArray, List.set_cons_zero, List.set_cons_succ]
              refine wpAnyH_take (i := 3) (v := ?v3z4) rfl (by kernel_rfl) (by kernel_rfl) (by kernel_rfl) (fun _ _ _ h => h) (Or.inl ⟨by rfl, ?hy3z4⟩) (by assumption) ?rest3z4
              case hy3z4 => intro w hSw; (try dsimp only at hSw); go_simp; try with_reducible rfl
              change wpAnyH _ _ _ _ _ _ _ (Act.put _ (some 38) _) _
              try simp only [Act.put, List.setIfInBounds_toArray, List.set_cons_zero, List.set_cons_succ]
              refine wpAnyH_take (i := 4) (v := ?v4z4) rfl (by kernel_rfl) (by kernel_rfl) (by kernel_rfl) (fun _ _ _ h => h) (Or.inl ⟨by rfl, ?hy4z4⟩) (by assumption) ?rest4z4
              case hy4z4 => intro w hSw; (try dsimp only at hSw); go_simp; try with_reducible rfl
              change wpAnyH _ _ _ _ _ _ _ (Act.put _ (some 39) _) _
              try simp only [Act.put, List.setIfInBounds_toArray, List.set_cons_zero, List.set_cons_succ]
              refine wpAnyH_take (i := 5) (v := ?v5z4) rfl (by kernel_rfl) (by kernel_rfl) (by kernel_rfl) (fun _ _ _ h => h) (Or.inl ⟨by rfl, ?hy5z4⟩) (by assumption) ?rest5z4
              case hy5z4 => intro w hSw; (try dsimp only at hSw); go_simp; try with_reducible rfl
              change wpAnyH _ _ _ _ _ _ _ (Act.put _ (some 40) _) _
              try simp only [Act.put, List.setIfInBounds_toArray, List.set_cons_zero, List.set_cons_succ]
              refine wpAnyH_take (i := 6) (v := ?v6z4) rfl (by kernel_rfl) (by kernel_rfl) (by kernel_rfl) (fun _ _ _ h => h) (Or.inl ⟨by rfl, ?hy6z4⟩) (by assumption) ?rest6z4
              case hy6z4 => intro w hSw; (try dsimp only at hSw); go_simp; try with_reducible rfl
              change wpAnyH _ _ _ _ _ _ _ (Act.put _ (some 41) _) _
              try simp only [Act.put, List.setIfInBounds_toArray, List.set_cons_zero, List.set_cons_succ]
              refine wpAnyH_take (i := 10) (v := ?v10z4) rfl (by kernel_rfl) (by kernel_rfl) (by kernel_rfl) (fun _ _ _ h => h) (Or.inl ⟨by rfl, ?hy10z4⟩) (by assumption) ?rest10z4
              case hy10z4 => intro w hSw; (try dsimp only at hSw); go_simp; try with_reducible rfl
              change wpAnyH _ _ _ _ _ _ _ (Act.put _ (some 45) _) _
              try simp only [Act.put, List.setIfInBounds_toArray, List.set_cons_zero, List.set_cons_succ]
              refine wpAnyH_ready (rs := [7]) (by kernel_rfl) (by simp) ?_
              refine AllReadyH.cons rfl (fun K hK => ?_) AllReadyH.nil
              go_simp
              refine hK.out _ _ trivial (fun hHeld => ?_)
              clear hK K
              try simp only [Act.put, List.setIfInBounds_toArray, List.set_cons_zero, List.set_cons_succ]
              refine wpAnyH_ready (rs := [8]) (by kernel_rfl) (by simp) ?_
              refine AllReadyH.cons rfl (fun K hK => ?_) AllReadyH.nil
              go_simp
              refine hK.out _ _ trivial (fun hHeld => ?_)
              clear hK K
              try simp only [Act.put, List.setIfInBounds_toArray, List.set_cons_zero, List.set_cons_succ]
              refine wpAnyH_ready (rs := [9]) (by kernel_rfl) (by simp) ?_
              refine AllReadyH.cons rfl (fun K hK => ?_) AllReadyH.nil
              rw [if_pos (by rfl)]
              refine oper_run (.tmp 38) (.tmp 43) _ _ rfl rfl rfl r9 ?_
              refine hK.out _ _ trivial (fun hHeld => ?_)
              clear hK K
              try simp only [Act.put, List.setIfInBounds_toArray, List.set_cons_zero, List.set_cons_succ]
              refine wpAnyH_ready (rs := [11]) (by kernel_rfl) (by simp) ?_
              refine AllReadyH.cons rfl (fun K hK => ?_) AllReadyH.nil
              rw [if_pos (by rfl)]
              refine oper_run (.tmp 44) (.tmp 45) _ _ rfl rfl rfl r10 ?_
              refine hK.out _ _ trivial (fun hHeld => ?_)
              clear hK K
              try simp only [Act.put, List.setIfInBounds_toArray, List.set_cons_zero, List.set_cons_succ]
              refine wpAnyH_take (i := 12) (v := ?v12z4) rfl (by kernel_rfl) (by kernel_rfl) (by kernel_rfl) (fun _ _ _ h => h) (Or.inl ⟨by rfl, ?hy12z4⟩) (by assumption) ?rest12z4
              case hy12z4 => intro w hSw; (try dsimp only at hSw); go_simp; try with_reducible rfl
              change wpAnyH _ _ _ _ _ _ _ (Act.put _ (some 3) _) _
              try simp only [Act.put, List.setIfInBounds_toArray, List.set_cons_zero, List.set_cons_succ]
              refine wpAnyH_done (by kernel_rfl) ?_ _
              clear r9 r10
              go_wp2_with fail
              go_roundg g'
              case rel => exact ⟨k + 1, put1 D j (Z k), by go_num, by omega, PF⟩
              case measure => omega
            · obtain ⟨q, hq⟩ : ∃ q, j - 1 = q := ⟨_, rfl⟩
              have c2 : decide ((0 : Int) < (j : Int)) = true := decide_eq_true (by omega)
              have i3 : IntKind.i64.wrap ((j : Int) - 1) = (q : Int) := by rw [IntWalk.i64_in _ (by omega)]; omega
              have i4 : (0 : Int) ≤ (q : Int) := by omega
              have i5 : (q : Int) < (k : Int) := by omega
              have k0 := HC.out q (by omega)
              have HL1 := Lib.hid (fun w => refless_lt (Z k) (D q) w)
              generalize hb : lt (Z k) (D q) = b at HL1
              have Hb := Lib.hid hb
              have Hq := Lib.hid hq
              clear hb hq
              cases b
              · have HS : Hid (0 < j → lt (Z k) (D (j - 1)) = false) := fun _ => by rw [Hq.out]; exact Hb.out
                go_wp2_with fail
                go_quiet ((first | (go_at_call 17; with_reducible exact calm1 HL1.out)))
                have HBq : Hid (Below wo.heap.size wo (wr.drewN nq)) := sh_draws HB
                have HCq : Hid (∀ j, j < k → (wr.drewN nq).cell? ⟨g, j, none⟩ = some (.int .u64 ((D j).1 : Int))) := HC
                generalize wr.drewN nq = wq at *
                obtain ⟨vr, w1, r8, U8, B8⟩ := rest_run (B := 0) (k := k) (p := j) (D := D) (W := wq) (a := some ⟨g, j, none⟩) (c := c - j) (by omega) hjk (Nat.zero_le _) (.inr ⟨g, rfl, Nat.lt_of_lt_of_le hgl HBq.out.size, fun i h1 h2 => HCq.out i h2⟩)
                obtain ⟨v9, w3, r9, U9, B9⟩ := first_run (k := k) (D := D) (W := w1.drew) (a := (some ⟨g, 0, none⟩)) (p := j) (Z k) (by omega) (by omega) (.inr ⟨g, rfl, Nat.lt_of_lt_of_le hgl (Nat.le_trans HBq.out.size B8.size), fun i hi => (B8.cell (p := ⟨g, i, none⟩) (Nat.lt_of_lt_of_le hgl HBq.out.size)).trans (HCq.out i (by omega))⟩)
                have U8' := U8.below (C := w1.heap.size) (W' := w3) (undrew B9) (Nat.le_refl _)
                obtain ⟨v10, w4, r10, U10, B10⟩ := last_run U9 U8' (by omega) B9.size
                have lk1 := (HW.out.below (HP.out.bel.trans ((HBq.out.trans (B8.mono HBq.out.size)).mono HP.out.bel.size)) (Nat.le_refl _)).cell y rfl k hlt
                have lk2 := lk1
                have BF : Hid (Below W.heap.size W w4) := HP.out.bel.trans ((HBq.out.trans ((B8.trans ((undrew (B9.trans (B10.mono (Nat.le_refl _)))).mono B8.size)).mono HBq.out.size)).mono HP.out.bel.size)
                have BU : W.heap.size ≤ w1.drew.heap.size := Nat.le_trans HP.out.bel.size (Nat.le_trans HBq.out.size B8.size)
                have PF : Hid (Part W.heap.size v10 (k + 1) Z (put1 D j (Z k)) W w4) := ⟨(show j + 1 + (k - j) = k + 1 by omega) ▸ ((U10.congr (fun i _ => put1_eq D j (Z k) k i)).lower BU), put1_perm D Z k j (by omega) HP.out.perm, put1_sorted D (Z k) k j (by omega) HP.out.srt HL.out HS.out, BF.out⟩
                clear U8 B8 U9 B9 U8' U10 B10 BF BU lk1
                go_wp2_with (at_builtin; refine App.wpList_run rfl (.tmp 30) (.tmp 33) _ _ rfl rfl rfl r8 ?_)
                clear r8
                refine wp_region_held_drew (S := fun _ => True) (by kernel_rfl) trivial (fun hHeld => ?_)
                refine wpAnyH_take (i := 0) (v := ?v0z5) rfl (by kernel_rfl) (by kernel_rfl) (by kernel_rfl) (fun _ _ _ h => h) (Or.inl ⟨by rfl, ?hy0z5⟩) (by assumption) ?rest0z5
                case hy0z5 => intro w hSw; (try dsimp only at hSw); go_simp; try with_reducible rfl
                change wpAnyH _ _ _ _ _ _ _ (Act.put _ (some 35) _) _
                try simp only [Act.put, List.setIfInBounds_toArray, List.set_cons_zero, List.set_cons_succ]
                refine wpAnyH_take (i := 1) (v := ?v1z5) rfl (by kernel_rfl) (by kernel_rfl) (by kernel_rfl) (fun _ _ _ h => h) (Or.inl ⟨by rfl, ?hy1z5⟩) (by assumption) ?rest1z5
                case hy1z5 => intro w hSw; (try dsimp only at hSw); go_simp; try with_reducible rfl
                change wpAnyH _ _ _ _ _ _ _ (Act.put _ (some 36) _) _
                try simp only [Act.put, List.setIfInBounds_toArray, List.set_cons_zero, List.set_cons_succ]
                refine wpAnyH_take (i := 2) (v := ?v2z5) rfl (by kernel_rfl) (by kernel_rfl) (by kernel_rfl) (fun _ _ _ h => h) (Or.inl ⟨by rfl, ?hy2z5⟩) (by assumption) ?rest2z5
                case hy2z5 => intro w hSw; (try dsimp only at hSw); go_simp; try with_reducible rfl
                change wpAnyH _ _ _ _ _ _ _ (Act.put _ (some 37) _) _
                try simp only [Act.put, List.setIfInBounds_toArray, List.set_cons_zero, List.set_cons_succ]
                refine wpAnyH_take (i := 3) (v := ?v3z5) rfl (by kernel_rfl) (by kernel_rfl) (by kernel_rfl) (fun _ _ _ h => h) (Or.inl ⟨by rfl, ?hy3z5⟩) (by assumption) ?rest3z5
                case hy3z5 => intro w hSw; (try dsimp only at hSw); go_simp; try with_reducible rfl
                change wpAnyH _ _ _ _ _ _ _ (Act.put _ (some 38) _) _
                try simp only [Act.put, List.setIfInBounds_toArray, List.set_cons_zero, List.set_cons_succ]
                refine wpAnyH_take (i := 4) (v := ?v4z5) rfl (by kernel_rfl) (by kernel_rfl) (by kernel_rfl) (fun _ _ _ h => h) (Or.inl ⟨by rfl, ?hy4z5⟩) (by assumption) ?rest4z5
                case hy4z5 => intro w hSw; (try dsimp only at hSw); go_simp; try with_reducible rfl
                change wpAnyH _ _ _ _ _ _ _ (Act.put _ (some 39) _) _
                try simp only [Act.put, List.setIfInBounds_toArray, List.set_cons_zero, List.set_cons_succ]
                refine wpAnyH_take (i := 5) (v := ?v5z5) rfl (by kernel_rfl) (by kernel_rfl) (by kernel_rfl) (fun _ _ _ h => h) (Or.inl ⟨by rfl, ?hy5z5⟩) (by assumption) ?rest5z5
                case hy5z5 => intro w hSw; (try dsimp only at hSw); go_simp; try with_reducible rfl
                change wpAnyH _ _ _ _ _ _ _ (Act.put _ (some 40) _) _
                try simp only [Act.put, List.setIfInBounds_toArray, List.set_cons_zero, List.set_cons_succ]
                refine wpAnyH_take (i := 6) (v := ?v6z5) rfl (by kernel_rfl) (by kernel_rfl) (by kernel_rfl) (fun _ _ _ h => h) (Or.inl ⟨by rfl, ?hy6z5⟩) (by assumption) ?rest6z5
                case hy6z5 => intro w hSw; (try dsimp only at hSw); go_simp; try with_reducible rfl
                change wpAnyH _ _ _ _ _ _ _ (Act.put _ (some 41) _) _
                try simp only [Act.put, List.setIfInBounds_toArray, List.set_cons_zero, List.set_cons_succ]
                refine wpAnyH_take (i := 10) (v := ?v10z5) rfl (by kernel_rfl) (by kernel_rfl) (by kernel_rfl) (fun _ _ _ h => h) (Or.inl ⟨by rfl, ?hy10z5⟩) (by assumption) ?rest10z5
                case hy10z5 => intro w hSw; (try dsimp only at hSw); go_simp; try with_reducible rfl
                change wpAnyH _ _ _ _ _ _ _ (Act.put _ (some 45) _) _
                try simp only [Act.put, List.setIfInBounds_toArray, List.set_cons_zero, List.set_cons_succ]
                refine wpAnyH_ready (rs := [7]) (by kernel_rfl) (by simp) ?_
                refine AllReadyH.cons rfl (fun K hK => ?_) AllReadyH.nil
                go_simp
                refine hK.out _ _ trivial (fun hHeld => ?_)
                clear hK K
                try simp only [Act.put, List.setIfInBounds_toArray, List.set_cons_zero, List.set_cons_succ]
                refine wpAnyH_ready (rs := [8]) (by kernel_rfl) (by simp) ?_
                refine AllReadyH.cons rfl (fun K hK => ?_) AllReadyH.nil
                go_simp
                refine hK.out _ _ trivial (fun hHeld => ?_)
                clear hK K
                try simp only [Act.put, List.setIfInBounds_toArray, List.set_cons_zero, List.set_cons_succ]
                refine wpAnyH_ready (rs := [9]) (by kernel_rfl) (by simp) ?_
                refine AllReadyH.cons rfl (fun K hK => ?_) AllReadyH.nil
                rw [if_pos (by rfl)]
                refine oper_run (.tmp 38) (.tmp 43) _ _ rfl rfl rfl r9 ?_
                refine hK.out _ _ trivial (fun hHeld => ?_)
                clear hK K
                try simp only [Act.put, List.setIfInBounds_toArray, List.set_cons_zero, List.set_cons_succ]
                refine wpAnyH_ready (rs := [11]) (by kernel_rfl) (by simp) ?_
                refine AllReadyH.cons rfl (fun K hK => ?_) AllReadyH.nil
                rw [if_pos (by rfl)]
                refine oper_run (.tmp 44) (.tmp 45) _ _ rfl rfl rfl r10 ?_
                refine hK.out _ _ trivial (fun hHeld => ?_)
                clear hK K
                try simp only [Act.put, List.setIfInBounds_toArray, List.set_cons_zero, List.set_cons_succ]
                refine wpAnyH_take (i := 12) (v := ?v12z5) rfl (by kernel_rfl) (by kernel_rfl) (by kernel_rfl) (fun _ _ _ h => h) (Or.inl ⟨by rfl, ?hy12z5⟩) (by assumption) ?rest12z5
                case hy12z5 => intro w hSw; (try dsimp only at hSw); go_simp; try with_reducible rfl
                change wpAnyH _ _ _ _ _ _ _ (Act.put _ (some 3) _) _
                try simp only [Act.put, List.setIfInBounds_toArray, List.set_cons_zero, List.set_cons_succ]
                refine wpAnyH_done (by kernel_rfl) ?_ _
                clear r9 r10
                go_wp2_with fail
                go_roundg g'
                case rel => exact ⟨k + 1, put1 D j (Z k), by go_num, by omega, PF⟩
                case measure => omega
              · have HL2 : Hid (∀ i, q ≤ i → i < k → lt (Z k) (D i) = true) := fun i h1 h2 => by
                  by_cases e : i = q
                  · rw [e]; exact Hb.out
                  · exact HL.out i (by have := Hq.out; omega) h2
                go_wp2_with fail
                go_quiet ((first | (go_at_call 17; with_reducible exact calm1 HL1.out)))
                have HBq : Hid (Below wo.heap.size wo (wr.drewN nq)) := sh_draws HB
                generalize wr.drewN nq = wq at *
                go_wp2_with fail
                obtain ⟨gq, rfl⟩ : ∃ gq, gk = gq + 1 := ⟨gk - 1, by omega⟩
                go_roundg gq
                case rel => exact ⟨q, rfl, by have := Hq.out; omega, by omega, HL2, HBq⟩
                case measure => omega
    · obtain rfl : n = k := by omega
      have c1 : decide ((n : Int) < (n : Int)) = false := decide_eq_false (by omega)
      go_wp2_with fail
      go_ret
      exact ⟨_, D, rfl, HP.out⟩
end Sb
end Go.Proofs.Ytnljfhoibkeloaa
