/- The walk of the law PathSides. -/
import Derived.Test.YtjnpmabnnbngeaaDoorPathP
import Derived.Deep.LoopGhost
namespace Go.Proofs.YtjnpmabnnbngeaaDoor.pathSides
open Go.RowKit Go.Shelf
open _root_.Go.Proofs.YtjnpmabnnbngeaaDoor.Pa
set_option linter.unusedVariables false
set_option linter.unusedSimpArgs false

theorem toList_ne {X Y : ByteArray} (h : X ≠ Y) : X.toList ≠ Y.toList := fun e => h (by
  rw [ByteArray.toList_eq, ByteArray.toList_eq] at e
  exact ByteArray.ext (Array.toList_inj.1 e))
theorem digit : ∀ r : Nat, r < 16 → ∃ c : Nat, (∀ wx : World, (Instr.index 9 (.string ⟨#[48, 49, 50, 51, 52, 53, 54, 55, 56, 57, 97, 98, 99, 100, 101, 102]⟩) (.int .u16 r)).run Tryd.prog wx = .ok (.int .u8 c) wx) ∧ hexB (UInt8.ofNat c) = true ∧ c < 256
  | 0, _ => ⟨48, fun _ => by kernel_rfl, by decide, by decide⟩
  | 1, _ => ⟨49, fun _ => by kernel_rfl, by decide, by decide⟩
  | 2, _ => ⟨50, fun _ => by kernel_rfl, by decide, by decide⟩
  | 3, _ => ⟨51, fun _ => by kernel_rfl, by decide, by decide⟩
  | 4, _ => ⟨52, fun _ => by kernel_rfl, by decide, by decide⟩
  | 5, _ => ⟨53, fun _ => by kernel_rfl, by decide, by decide⟩
  | 6, _ => ⟨54, fun _ => by kernel_rfl, by decide, by decide⟩
  | 7, _ => ⟨55, fun _ => by kernel_rfl, by decide, by decide⟩
  | 8, _ => ⟨56, fun _ => by kernel_rfl, by decide, by decide⟩
  | 9, _ => ⟨57, fun _ => by kernel_rfl, by decide, by decide⟩
  | 10, _ => ⟨97, fun _ => by kernel_rfl, by decide, by decide⟩
  | 11, _ => ⟨98, fun _ => by kernel_rfl, by decide, by decide⟩
  | 12, _ => ⟨99, fun _ => by kernel_rfl, by decide, by decide⟩
  | 13, _ => ⟨100, fun _ => by kernel_rfl, by decide, by decide⟩
  | 14, _ => ⟨101, fun _ => by kernel_rfl, by decide, by decide⟩
  | 15, _ => ⟨102, fun _ => by kernel_rfl, by decide, by decide⟩
  | n + 16, h => absurd h (by omega)

set_option maxHeartbeats 1000000 in
theorem walk_early (s : ByteArray) (z : Int) (h1 : 300 < s.size) (w : World) :
    Calls Tryd.prog 8 #[.string s, .int .u16 z] w fun e w' => e = .returned (.bool true) ∧ Below w.heap.size w w' := by
  have H0 : Hid (Below w.heap.size w w) := Below.refl _ _
  have b1 : decide ((300 : Int) < (s.size : Int)) = true := decide_eq_true (by omega)
  clear h1
  go_enter Tryd.func8, Tryd.ntmps8
  go_wp2_with fail
  refine (awake_any _).mono ?_
  rintro e w1 ⟨rfl, hw1⟩
  have H1 := chain (n := w.heap.size) (w := w) H0 hw1
  clear hw1
  go_wp2_with fail
  refine (awake_any _).mono ?_
  rintro e w2 ⟨rfl, hw2⟩
  have H2 := chain (n := w.heap.size) (w := w) H1 hw2
  clear hw2
  go_wp2_with fail
  go_ret
  exact ⟨rfl, H2.out⟩

set_option maxHeartbeats 1000000 in
theorem walk_none (s : ByteArray) (hs : s.size ≤ 300) (z : Int) (hg : goodB (tl s) = false) (w : World) :
    Calls Tryd.prog 8 #[.string s, .int .u16 z] w fun e w' => e = .returned (.bool true) ∧ Below w.heap.size w w' := by
  have H0 : Hid (Below w.heap.size w w) := Below.refl _ _
  have b1 : decide ((300 : Int) < (s.size : Int)) = false := decide_eq_false (by omega)
  have c1 := fun w => temp_any s (by omega) w
  have c2 := fun w => side_any s (by omega) w
  have c3 := fun w => kind_any s (by omega) w
  have hk : kindN s = 0 := by
    rcases kind_zero s with ⟨_, h⟩ | ⟨h, _⟩
    · exact h
    · rw [hg] at h; cases h
  unfold TextPost withOk at c1 c2
  rw [hk] at c3
  simp only [hg, Bool.false_and, Bool.false_eq_true, if_false] at c1 c2
  have C1 := Lib.hid c1
  have C2 := Lib.hid c2
  have C3 := Lib.hid c3
  clear c1 c2 c3 hg hk
  go_enter Tryd.func8, Tryd.ntmps8
  go_wp2_with fail
  refine (awake_any _).mono ?_
  rintro e w1 ⟨rfl, hw1⟩
  have H1 := chain (n := w.heap.size) (w := w) H0 hw1
  clear hw1
  go_wp2_with fail
  refine (C1.out _).mono ?_
  rintro e w2 ⟨rfl, hw2⟩
  have H2 := chain (n := w.heap.size) (w := w) H1 hw2
  clear hw2
  go_wp2_with fail
  refine (C2.out _).mono ?_
  rintro e w3 ⟨rfl, hw3⟩
  have H3 := chain (n := w.heap.size) (w := w) H2 hw3
  clear hw3
  go_wp2_with fail
  refine (C3.out _).mono ?_
  rintro e w4 ⟨rfl, hw4⟩
  have H4 := chain (n := w.heap.size) (w := w) H3 hw4
  clear hw4
  go_wp2_with fail
  go_ret
  exact ⟨rfl, H4.out⟩

theorem rep_next {t S : ByteArray} {n : Nat} {b : UInt8} (h : tl t = List.replicate n b) (hS : (⟨#[b]⟩ : ByteArray) = S) : tl (t ++ S) = List.replicate (n + 1) b := by
  subst hS
  rw [tl_append, h, List.replicate_succ']
theorem sum_ok {z : Int} {t : ByteArray} {c : Nat} (hz : 0 ≤ z ∧ z ≤ 16383) (hs : t.size = 64) {n : Nat} (h : tl t = List.replicate n (UInt8.ofNat c)) (hh : hexB (UInt8.ofNat c) = true) : homeOk z t = true := by
  unfold homeOk
  rw [decide_eq_true (show 0 ≤ z by omega), decide_eq_true (show z ≤ 16384 by omega), decide_eq_true hs, h]
  simp [hh]

set_option maxHeartbeats 4000000 in
set_option maxRecDepth 100000 in
theorem walk_some_false_false (s : ByteArray) (hs : s.size ≤ 300) (z : Int) (hz : 0 ≤ z ∧ z ≤ 65535) (hg : goodB (tl s) = true) (hT : withOk s TMP = false) (hP : withOk s PAR = false) (w : World) (htab : Tab w) :
    Calls Tryd.prog 8 #[.string s, .int .u16 z] w fun e w' => e = .returned (.bool true) ∧ Below w.heap.size w w' := by
  have H0 : Hid (Below w.heap.size w w) := Below.refl _ _
  have HT := Lib.hid (Lib.tabBelow_of_tabIs htab)
  have HG := Lib.hid hg
  clear htab
  obtain ⟨c, hix, hhx, hc⟩ := digit (z % 16).toNat (by omega)
  rw [show (((z % 16).toNat : Nat) : Int) = z % 16 by omega] at hix
  have e16 : z.tmod 16 = z % 16 := Int.tmod_eq_emod_of_nonneg hz.1
  have e16k : z.tmod 16384 = z % 16384 := Int.tmod_eq_emod_of_nonneg hz.1
  obtain ⟨S, hS⟩ : ∃ S, (⟨#[UInt8.ofNat c]⟩ : ByteArray) = S := ⟨_, rfl⟩
  have hcv := fun W : World => conv_at (W.alloc (.cells #[.int .u8 c] 5)) W.heap.size c S ⟨by omega, by omega⟩ hS (Boxed.new W 5 (.int .u8 c)).cell
  have HSS : Hid (S.size = 1) := by rw [← hS]; rfl
  have hss := HSS.out
  have HSC := Lib.hid hS
  have HHX := Lib.hid hhx
  have FZ : Hid (0 ≤ z % 16384 ∧ z % 16384 ≤ 16383) := Lib.hid (by omega)
  clear hS hhx
  have b1 : decide ((300 : Int) < (s.size : Int)) = false := decide_eq_false (by omega)
  have c1 := fun w => temp_any s (by omega) w
  have c2 := fun w => side_any s (by omega) w
  have c3 := fun w => kind_any s (by omega) w
  have cd := fun w => dir_any s (by omega) w
  have hk : kindN s ≠ 0 := by
    rcases kind_zero s with ⟨h, _⟩ | ⟨_, h⟩
    · rw [hg] at h; cases h
    · exact h
  have b2 : ((kindN s : Int) == 0) = false := by rw [beq_eq_false_iff_ne]; omega
  unfold TextPost at c1 c2
  simp only [hT, Bool.false_eq_true, if_false, if_true] at c1
  simp only [hP, Bool.false_eq_true, if_false, if_true] at c2
  generalize kindN s = ks at *
  generalize dirB s = D at *
  have C1 := Lib.hid c1
  have C2 := Lib.hid c2
  have C3 := Lib.hid c3
  have CD := Lib.hid cd
  clear c1 c2 c3 cd hk hT hP hg
  go_enter Tryd.func8, Tryd.ntmps8
  go_wp2_with fail
  refine (awake_any _).mono ?_
  rintro e w1 ⟨rfl, hw1⟩
  have H1 := chain (n := w.heap.size) (w := w) H0 hw1
  clear hw1
  go_wp2_with fail
  refine (C1.out _).mono ?_
  rintro e w2 ⟨rfl, hw2⟩
  have H2 := chain (n := w.heap.size) (w := w) H1 hw2
  clear hw2
  go_wp2_with fail
  refine (C2.out _).mono ?_
  rintro e w3 ⟨rfl, hw3⟩
  have H3 := chain (n := w.heap.size) (w := w) H2 hw3
  clear hw3
  go_wp2_with fail
  refine (C3.out _).mono ?_
  rintro e w4 ⟨rfl, hw4⟩
  have H4 := chain (n := w.heap.size) (w := w) H3 hw4
  clear hw4
  go_wp2_with fail
  go_loopg [9, 94] 64 (fun gf o i wx => ∃ (n : Nat) (t : ByteArray), o = .string t ∧ i = .int .i64 n ∧ n + gf = 64 ∧ t.size = n ∧ Hid (tl t = List.replicate n (UInt8.ofNat c)) ∧ Hid (Below w.heap.size w wx))
  case atStart => exact ⟨0, ⟨#[]⟩, rfl, rfl, rfl, rfl, rfl, H4⟩
  case round =>
    obtain ⟨n, t, rfl, rfl, hg2, hts, HTL, HB⟩ := hrel
    by_cases hn : n < 64
    · have b3 : decide ((n : Int) < 64) = true := decide_eq_true (by omega)
      have b4 : decide (n < 64) = true := decide_eq_true (by omega)
      obtain ⟨g', rfl⟩ : ∃ g', gk = g' + 1 := ⟨gk - 1, by omega⟩
      go_wp2_with fail
      go_roundg g'
      case measure => omega
      case rel => exact ⟨n + 1, t ++ S, rfl, rfl, by omega, by rw [ByteArray.size_append, HSS.out, hts], rep_next HTL.out HSC.out, alloc_hid HB _⟩
    · have hn64 : n = 64 := by omega
      have b3 : decide ((n : Int) < 64) = false := decide_eq_false (by omega)
      have b4 : decide (n < 64) = false := decide_eq_false (by omega)
      have hok : homeOk (z % 16384) t = true := sum_ok FZ.out (hts.trans hn64) HTL.out HHX.out
      have c5 := fun (w : World) (h : Tab w) => copy_any s (by omega) (z % 16384) t (by omega) w h
      have c6 := fun (w : World) (h : Tab w) => home_any (z % 16384) t (by omega) w h
      unfold CopyPost at c5
      unfold HomePost at c6
      rw [hok] at c6
      simp only [if_true] at c6
      have hhs := home_size (z % 16384) t hok
      rcases copy_cases s (z % 16384) t with ⟨k1, _, _⟩ | ⟨_, k2, _, _⟩ | ⟨_, _, k3, k4, k5⟩ | ⟨_, _, k3, k4, k5⟩
      · rw [HG.out] at k1; cases k1
      · rw [hok] at k2; cases k2
      · have c7 := fun w => good_any (longT s (z % 16384) t) w
        rw [k4, k5] at c5
        rw [k3] at c7
        unfold longT at c5 c7
        generalize homeT (z % 16384) t = T at *
        have hne : s ++ ⟨#[46]⟩ ++ T ≠ T := fun e => by
          have := congrArg ByteArray.size e
          simp only [ByteArray.size_append] at this
          have h1 : (⟨#[46]⟩ : ByteArray).size = 1 := rfl
          omega
        have q1 := toList_ne hne
        have q2 : ((s ++ ⟨#[46]⟩ ++ T).toList == T.toList) = false := beq_eq_false_iff_ne.2 q1
        have q3 : (s ++ ⟨#[46]⟩ ++ T).size ≤ 1000 := by
          simp only [ByteArray.size_append]
          have h1 : (⟨#[46]⟩ : ByteArray).size = 1 := rfl
          omega
        have C5 := Lib.hid c5
        have C6 := Lib.hid c6
        have C7 := Lib.hid c7
        clear c5 c6 c7 k3 k4 k5 hok hne
        go_wp2_with fail
        refine (C5.out _ (HT.out _ HB.out)).mono ?_
        rintro e v1 ⟨rfl, hv1⟩
        have V1 := chain (n := w.heap.size) (w := w) HB hv1
        clear hv1
        go_wp2_with fail
        refine (C6.out _ (HT.out _ V1.out)).mono ?_
        rintro e v2 ⟨rfl, hv2⟩
        have V2 := chain (n := w.heap.size) (w := w) V1 hv2
        clear hv2
        go_wp2_with fail
        refine (C7.out _).mono ?_
        rintro e v3 ⟨rfl, hv3⟩
        have V3 := chain (n := w.heap.size) (w := w) V2 hv3
        clear hv3
        go_wp2_with fail
        go_ret
        exact ⟨rfl, V3.out⟩
      · have c7 := fun w => good_any (homeT (z % 16384) t) w
        rw [good_home _ _ hok] at c7
        rw [k4, k5] at c5
        generalize homeT (z % 16384) t = T at *
        have C5 := Lib.hid c5
        have C6 := Lib.hid c6
        have C7 := Lib.hid c7
        clear c5 c6 c7 k3 k4 k5 hok
        go_wp2_with fail
        refine (C5.out _ (HT.out _ HB.out)).mono ?_
        rintro e v1 ⟨rfl, hv1⟩
        have V1 := chain (n := w.heap.size) (w := w) HB hv1
        clear hv1
        go_wp2_with fail
        refine (C6.out _ (HT.out _ V1.out)).mono ?_
        rintro e v2 ⟨rfl, hv2⟩
        have V2 := chain (n := w.heap.size) (w := w) V1 hv2
        clear hv2
        go_wp2_with fail
        refine (C7.out _).mono ?_
        rintro e v3 ⟨rfl, hv3⟩
        have V3 := chain (n := w.heap.size) (w := w) V2 hv3
        clear hv3
        go_wp2_with fail
        go_ret
        exact ⟨rfl, V3.out⟩

set_option maxHeartbeats 4000000 in
set_option maxRecDepth 100000 in
theorem walk_some_false_true (s : ByteArray) (hs : s.size ≤ 300) (z : Int) (hz : 0 ≤ z ∧ z ≤ 65535) (hg : goodB (tl s) = true) (hT : withOk s TMP = false) (hP : withOk s PAR = true) (w : World) (htab : Tab w) :
    Calls Tryd.prog 8 #[.string s, .int .u16 z] w fun e w' => e = .returned (.bool true) ∧ Below w.heap.size w w' := by
  have H0 : Hid (Below w.heap.size w w) := Below.refl _ _
  have HT := Lib.hid (Lib.tabBelow_of_tabIs htab)
  have HG := Lib.hid hg
  clear htab
  obtain ⟨c, hix, hhx, hc⟩ := digit (z % 16).toNat (by omega)
  rw [show (((z % 16).toNat : Nat) : Int) = z % 16 by omega] at hix
  have e16 : z.tmod 16 = z % 16 := Int.tmod_eq_emod_of_nonneg hz.1
  have e16k : z.tmod 16384 = z % 16384 := Int.tmod_eq_emod_of_nonneg hz.1
  obtain ⟨S, hS⟩ : ∃ S, (⟨#[UInt8.ofNat c]⟩ : ByteArray) = S := ⟨_, rfl⟩
  have hcv := fun W : World => conv_at (W.alloc (.cells #[.int .u8 c] 5)) W.heap.size c S ⟨by omega, by omega⟩ hS (Boxed.new W 5 (.int .u8 c)).cell
  have HSS : Hid (S.size = 1) := by rw [← hS]; rfl
  have hss := HSS.out
  have HSC := Lib.hid hS
  have HHX := Lib.hid hhx
  have FZ : Hid (0 ≤ z % 16384 ∧ z % 16384 ≤ 16383) := Lib.hid (by omega)
  clear hS hhx
  have b1 : decide ((300 : Int) < (s.size : Int)) = false := decide_eq_false (by omega)
  have c1 := fun w => temp_any s (by omega) w
  have c2 := fun w => side_any s (by omega) w
  have c3 := fun w => kind_any s (by omega) w
  have cd := fun w => dir_any s (by omega) w
  have hk : kindN s ≠ 0 := by
    rcases kind_zero s with ⟨h, _⟩ | ⟨_, h⟩
    · rw [hg] at h; cases h
    · exact h
  have b2 : ((kindN s : Int) == 0) = false := by rw [beq_eq_false_iff_ne]; omega
  unfold TextPost at c1 c2
  simp only [hT, Bool.false_eq_true, if_false, if_true] at c1
  simp only [hP, Bool.false_eq_true, if_false, if_true] at c2
  have gP : goodB (tl (withB s PAR)) = true := by unfold withOk at hP; rw [Bool.and_eq_true] at hP; exact hP.2
  have sP : (withB s PAR).size ≤ 1000 := by
    unfold goodB at gP
    rw [Bool.and_eq_true, decide_eq_true_eq, len_tl] at gP
    omega
  have ckP := fun w => kind_any (withB s PAR) (by omega) w
  rw [kind_par s gP] at ckP
  have cdP := fun w => dir_any (withB s PAR) (by omega) w
  rw [with_dir s PAR no47.2] at cdP
  have nP := with_ne s PAR (by decide)
  generalize kindN s = ks at *
  generalize dirB s = D at *
  generalize withB s PAR = B at *
  have q3 := toList_ne nP
  have q4 : (B.toList == s.toList) = false := beq_eq_false_iff_ne.2 q3
  have CKP := Lib.hid ckP
  have CDP := Lib.hid cdP
  have C1 := Lib.hid c1
  have C2 := Lib.hid c2
  have C3 := Lib.hid c3
  have CD := Lib.hid cd
  clear c1 c2 c3 cd hk hT hP hg ckP cdP nP gP
  go_enter Tryd.func8, Tryd.ntmps8
  go_wp2_with fail
  refine (awake_any _).mono ?_
  rintro e w1 ⟨rfl, hw1⟩
  have H1 := chain (n := w.heap.size) (w := w) H0 hw1
  clear hw1
  go_wp2_with fail
  refine (C1.out _).mono ?_
  rintro e w2 ⟨rfl, hw2⟩
  have H2 := chain (n := w.heap.size) (w := w) H1 hw2
  clear hw2
  go_wp2_with fail
  refine (C2.out _).mono ?_
  rintro e w3 ⟨rfl, hw3⟩
  have H3 := chain (n := w.heap.size) (w := w) H2 hw3
  clear hw3
  go_wp2_with fail
  refine (C3.out _).mono ?_
  rintro e w4 ⟨rfl, hw4⟩
  have H4 := chain (n := w.heap.size) (w := w) H3 hw4
  clear hw4
  go_wp2_with fail
  refine (CKP.out _).mono ?_
  rintro e w5 ⟨rfl, hw5⟩
  have H5 := chain (n := w.heap.size) (w := w) H4 hw5
  clear hw5
  go_wp2_with fail
  refine (CDP.out _).mono ?_
  rintro e w' ⟨rfl, rfl⟩
  go_wp2_with fail
  refine (CD.out _).mono ?_
  rintro e w' ⟨rfl, rfl⟩
  go_wp2_with fail
  go_loopg [9, 94] 64 (fun gf o i wx => ∃ (n : Nat) (t : ByteArray), o = .string t ∧ i = .int .i64 n ∧ n + gf = 64 ∧ t.size = n ∧ Hid (tl t = List.replicate n (UInt8.ofNat c)) ∧ Hid (Below w.heap.size w wx))
  case atStart => exact ⟨0, ⟨#[]⟩, rfl, rfl, rfl, rfl, rfl, H5⟩
  case round =>
    obtain ⟨n, t, rfl, rfl, hg2, hts, HTL, HB⟩ := hrel
    by_cases hn : n < 64
    · have b3 : decide ((n : Int) < 64) = true := decide_eq_true (by omega)
      have b4 : decide (n < 64) = true := decide_eq_true (by omega)
      obtain ⟨g', rfl⟩ : ∃ g', gk = g' + 1 := ⟨gk - 1, by omega⟩
      go_wp2_with fail
      go_roundg g'
      case measure => omega
      case rel => exact ⟨n + 1, t ++ S, rfl, rfl, by omega, by rw [ByteArray.size_append, HSS.out, hts], rep_next HTL.out HSC.out, alloc_hid HB _⟩
    · have hn64 : n = 64 := by omega
      have b3 : decide ((n : Int) < 64) = false := decide_eq_false (by omega)
      have b4 : decide (n < 64) = false := decide_eq_false (by omega)
      have hok : homeOk (z % 16384) t = true := sum_ok FZ.out (hts.trans hn64) HTL.out HHX.out
      have c5 := fun (w : World) (h : Tab w) => copy_any s (by omega) (z % 16384) t (by omega) w h
      have c6 := fun (w : World) (h : Tab w) => home_any (z % 16384) t (by omega) w h
      unfold CopyPost at c5
      unfold HomePost at c6
      rw [hok] at c6
      simp only [if_true] at c6
      have hhs := home_size (z % 16384) t hok
      rcases copy_cases s (z % 16384) t with ⟨k1, _, _⟩ | ⟨_, k2, _, _⟩ | ⟨_, _, k3, k4, k5⟩ | ⟨_, _, k3, k4, k5⟩
      · rw [HG.out] at k1; cases k1
      · rw [hok] at k2; cases k2
      · have c7 := fun w => good_any (longT s (z % 16384) t) w
        rw [k4, k5] at c5
        rw [k3] at c7
        unfold longT at c5 c7
        generalize homeT (z % 16384) t = T at *
        have hne : s ++ ⟨#[46]⟩ ++ T ≠ T := fun e => by
          have := congrArg ByteArray.size e
          simp only [ByteArray.size_append] at this
          have h1 : (⟨#[46]⟩ : ByteArray).size = 1 := rfl
          omega
        have q1 := toList_ne hne
        have q2 : ((s ++ ⟨#[46]⟩ ++ T).toList == T.toList) = false := beq_eq_false_iff_ne.2 q1
        have q3 : (s ++ ⟨#[46]⟩ ++ T).size ≤ 1000 := by
          simp only [ByteArray.size_append]
          have h1 : (⟨#[46]⟩ : ByteArray).size = 1 := rfl
          omega
        have C5 := Lib.hid c5
        have C6 := Lib.hid c6
        have C7 := Lib.hid c7
        clear c5 c6 c7 k3 k4 k5 hok hne
        go_wp2_with fail
        refine (C5.out _ (HT.out _ HB.out)).mono ?_
        rintro e v1 ⟨rfl, hv1⟩
        have V1 := chain (n := w.heap.size) (w := w) HB hv1
        clear hv1
        go_wp2_with fail
        refine (C6.out _ (HT.out _ V1.out)).mono ?_
        rintro e v2 ⟨rfl, hv2⟩
        have V2 := chain (n := w.heap.size) (w := w) V1 hv2
        clear hv2
        go_wp2_with fail
        refine (C7.out _).mono ?_
        rintro e v3 ⟨rfl, hv3⟩
        have V3 := chain (n := w.heap.size) (w := w) V2 hv3
        clear hv3
        go_wp2_with fail
        go_ret
        exact ⟨rfl, V3.out⟩
      · have c7 := fun w => good_any (homeT (z % 16384) t) w
        rw [good_home _ _ hok] at c7
        rw [k4, k5] at c5
        generalize homeT (z % 16384) t = T at *
        have C5 := Lib.hid c5
        have C6 := Lib.hid c6
        have C7 := Lib.hid c7
        clear c5 c6 c7 k3 k4 k5 hok
        go_wp2_with fail
        refine (C5.out _ (HT.out _ HB.out)).mono ?_
        rintro e v1 ⟨rfl, hv1⟩
        have V1 := chain (n := w.heap.size) (w := w) HB hv1
        clear hv1
        go_wp2_with fail
        refine (C6.out _ (HT.out _ V1.out)).mono ?_
        rintro e v2 ⟨rfl, hv2⟩
        have V2 := chain (n := w.heap.size) (w := w) V1 hv2
        clear hv2
        go_wp2_with fail
        refine (C7.out _).mono ?_
        rintro e v3 ⟨rfl, hv3⟩
        have V3 := chain (n := w.heap.size) (w := w) V2 hv3
        clear hv3
        go_wp2_with fail
        go_ret
        exact ⟨rfl, V3.out⟩

set_option maxHeartbeats 4000000 in
set_option maxRecDepth 100000 in
theorem walk_some_true_false (s : ByteArray) (hs : s.size ≤ 300) (z : Int) (hz : 0 ≤ z ∧ z ≤ 65535) (hg : goodB (tl s) = true) (hT : withOk s TMP = true) (hP : withOk s PAR = false) (w : World) (htab : Tab w) :
    Calls Tryd.prog 8 #[.string s, .int .u16 z] w fun e w' => e = .returned (.bool true) ∧ Below w.heap.size w w' := by
  have H0 : Hid (Below w.heap.size w w) := Below.refl _ _
  have HT := Lib.hid (Lib.tabBelow_of_tabIs htab)
  have HG := Lib.hid hg
  clear htab
  obtain ⟨c, hix, hhx, hc⟩ := digit (z % 16).toNat (by omega)
  rw [show (((z % 16).toNat : Nat) : Int) = z % 16 by omega] at hix
  have e16 : z.tmod 16 = z % 16 := Int.tmod_eq_emod_of_nonneg hz.1
  have e16k : z.tmod 16384 = z % 16384 := Int.tmod_eq_emod_of_nonneg hz.1
  obtain ⟨S, hS⟩ : ∃ S, (⟨#[UInt8.ofNat c]⟩ : ByteArray) = S := ⟨_, rfl⟩
  have hcv := fun W : World => conv_at (W.alloc (.cells #[.int .u8 c] 5)) W.heap.size c S ⟨by omega, by omega⟩ hS (Boxed.new W 5 (.int .u8 c)).cell
  have HSS : Hid (S.size = 1) := by rw [← hS]; rfl
  have hss := HSS.out
  have HSC := Lib.hid hS
  have HHX := Lib.hid hhx
  have FZ : Hid (0 ≤ z % 16384 ∧ z % 16384 ≤ 16383) := Lib.hid (by omega)
  clear hS hhx
  have b1 : decide ((300 : Int) < (s.size : Int)) = false := decide_eq_false (by omega)
  have c1 := fun w => temp_any s (by omega) w
  have c2 := fun w => side_any s (by omega) w
  have c3 := fun w => kind_any s (by omega) w
  have cd := fun w => dir_any s (by omega) w
  have hk : kindN s ≠ 0 := by
    rcases kind_zero s with ⟨h, _⟩ | ⟨_, h⟩
    · rw [hg] at h; cases h
    · exact h
  have b2 : ((kindN s : Int) == 0) = false := by rw [beq_eq_false_iff_ne]; omega
  unfold TextPost at c1 c2
  simp only [hT, Bool.false_eq_true, if_false, if_true] at c1
  simp only [hP, Bool.false_eq_true, if_false, if_true] at c2
  have gT : goodB (tl (withB s TMP)) = true := by unfold withOk at hT; rw [Bool.and_eq_true] at hT; exact hT.2
  have sT : (withB s TMP).size ≤ 1000 := by
    unfold goodB at gT
    rw [Bool.and_eq_true, decide_eq_true_eq, len_tl] at gT
    omega
  have ckT := fun w => kind_any (withB s TMP) (by omega) w
  rw [kind_tmp s gT] at ckT
  have cdT := fun w => dir_any (withB s TMP) (by omega) w
  rw [with_dir s TMP no47.1] at cdT
  have nT := with_ne s TMP (by decide)
  generalize kindN s = ks at *
  generalize dirB s = D at *
  generalize withB s TMP = A at *
  have q1 := toList_ne nT
  have q2 : (A.toList == s.toList) = false := beq_eq_false_iff_ne.2 q1
  have CKT := Lib.hid ckT
  have CDT := Lib.hid cdT
  have C1 := Lib.hid c1
  have C2 := Lib.hid c2
  have C3 := Lib.hid c3
  have CD := Lib.hid cd
  clear c1 c2 c3 cd hk hT hP hg ckT cdT nT gT
  go_enter Tryd.func8, Tryd.ntmps8
  go_wp2_with fail
  refine (awake_any _).mono ?_
  rintro e w1 ⟨rfl, hw1⟩
  have H1 := chain (n := w.heap.size) (w := w) H0 hw1
  clear hw1
  go_wp2_with fail
  refine (C1.out _).mono ?_
  rintro e w2 ⟨rfl, hw2⟩
  have H2 := chain (n := w.heap.size) (w := w) H1 hw2
  clear hw2
  go_wp2_with fail
  refine (C2.out _).mono ?_
  rintro e w3 ⟨rfl, hw3⟩
  have H3 := chain (n := w.heap.size) (w := w) H2 hw3
  clear hw3
  go_wp2_with fail
  refine (C3.out _).mono ?_
  rintro e w4 ⟨rfl, hw4⟩
  have H4 := chain (n := w.heap.size) (w := w) H3 hw4
  clear hw4
  go_wp2_with fail
  refine (CKT.out _).mono ?_
  rintro e w5 ⟨rfl, hw5⟩
  have H5 := chain (n := w.heap.size) (w := w) H4 hw5
  clear hw5
  go_wp2_with fail
  refine (CDT.out _).mono ?_
  rintro e w' ⟨rfl, rfl⟩
  go_wp2_with fail
  refine (CD.out _).mono ?_
  rintro e w' ⟨rfl, rfl⟩
  go_wp2_with fail
  go_loopg [9, 94] 64 (fun gf o i wx => ∃ (n : Nat) (t : ByteArray), o = .string t ∧ i = .int .i64 n ∧ n + gf = 64 ∧ t.size = n ∧ Hid (tl t = List.replicate n (UInt8.ofNat c)) ∧ Hid (Below w.heap.size w wx))
  case atStart => exact ⟨0, ⟨#[]⟩, rfl, rfl, rfl, rfl, rfl, H5⟩
  case round =>
    obtain ⟨n, t, rfl, rfl, hg2, hts, HTL, HB⟩ := hrel
    by_cases hn : n < 64
    · have b3 : decide ((n : Int) < 64) = true := decide_eq_true (by omega)
      have b4 : decide (n < 64) = true := decide_eq_true (by omega)
      obtain ⟨g', rfl⟩ : ∃ g', gk = g' + 1 := ⟨gk - 1, by omega⟩
      go_wp2_with fail
      go_roundg g'
      case measure => omega
      case rel => exact ⟨n + 1, t ++ S, rfl, rfl, by omega, by rw [ByteArray.size_append, HSS.out, hts], rep_next HTL.out HSC.out, alloc_hid HB _⟩
    · have hn64 : n = 64 := by omega
      have b3 : decide ((n : Int) < 64) = false := decide_eq_false (by omega)
      have b4 : decide (n < 64) = false := decide_eq_false (by omega)
      have hok : homeOk (z % 16384) t = true := sum_ok FZ.out (hts.trans hn64) HTL.out HHX.out
      have c5 := fun (w : World) (h : Tab w) => copy_any s (by omega) (z % 16384) t (by omega) w h
      have c6 := fun (w : World) (h : Tab w) => home_any (z % 16384) t (by omega) w h
      unfold CopyPost at c5
      unfold HomePost at c6
      rw [hok] at c6
      simp only [if_true] at c6
      have hhs := home_size (z % 16384) t hok
      rcases copy_cases s (z % 16384) t with ⟨k1, _, _⟩ | ⟨_, k2, _, _⟩ | ⟨_, _, k3, k4, k5⟩ | ⟨_, _, k3, k4, k5⟩
      · rw [HG.out] at k1; cases k1
      · rw [hok] at k2; cases k2
      · have c7 := fun w => good_any (longT s (z % 16384) t) w
        rw [k4, k5] at c5
        rw [k3] at c7
        unfold longT at c5 c7
        generalize homeT (z % 16384) t = T at *
        have hne : s ++ ⟨#[46]⟩ ++ T ≠ T := fun e => by
          have := congrArg ByteArray.size e
          simp only [ByteArray.size_append] at this
          have h1 : (⟨#[46]⟩ : ByteArray).size = 1 := rfl
          omega
        have q1 := toList_ne hne
        have q2 : ((s ++ ⟨#[46]⟩ ++ T).toList == T.toList) = false := beq_eq_false_iff_ne.2 q1
        have q3 : (s ++ ⟨#[46]⟩ ++ T).size ≤ 1000 := by
          simp only [ByteArray.size_append]
          have h1 : (⟨#[46]⟩ : ByteArray).size = 1 := rfl
          omega
        have C5 := Lib.hid c5
        have C6 := Lib.hid c6
        have C7 := Lib.hid c7
        clear c5 c6 c7 k3 k4 k5 hok hne
        go_wp2_with fail
        refine (C5.out _ (HT.out _ HB.out)).mono ?_
        rintro e v1 ⟨rfl, hv1⟩
        have V1 := chain (n := w.heap.size) (w := w) HB hv1
        clear hv1
        go_wp2_with fail
        refine (C6.out _ (HT.out _ V1.out)).mono ?_
        rintro e v2 ⟨rfl, hv2⟩
        have V2 := chain (n := w.heap.size) (w := w) V1 hv2
        clear hv2
        go_wp2_with fail
        refine (C7.out _).mono ?_
        rintro e v3 ⟨rfl, hv3⟩
        have V3 := chain (n := w.heap.size) (w := w) V2 hv3
        clear hv3
        go_wp2_with fail
        go_ret
        exact ⟨rfl, V3.out⟩
      · have c7 := fun w => good_any (homeT (z % 16384) t) w
        rw [good_home _ _ hok] at c7
        rw [k4, k5] at c5
        generalize homeT (z % 16384) t = T at *
        have C5 := Lib.hid c5
        have C6 := Lib.hid c6
        have C7 := Lib.hid c7
        clear c5 c6 c7 k3 k4 k5 hok
        go_wp2_with fail
        refine (C5.out _ (HT.out _ HB.out)).mono ?_
        rintro e v1 ⟨rfl, hv1⟩
        have V1 := chain (n := w.heap.size) (w := w) HB hv1
        clear hv1
        go_wp2_with fail
        refine (C6.out _ (HT.out _ V1.out)).mono ?_
        rintro e v2 ⟨rfl, hv2⟩
        have V2 := chain (n := w.heap.size) (w := w) V1 hv2
        clear hv2
        go_wp2_with fail
        refine (C7.out _).mono ?_
        rintro e v3 ⟨rfl, hv3⟩
        have V3 := chain (n := w.heap.size) (w := w) V2 hv3
        clear hv3
        go_wp2_with fail
        go_ret
        exact ⟨rfl, V3.out⟩

set_option maxHeartbeats 4000000 in
set_option maxRecDepth 100000 in
theorem walk_some_true_true (s : ByteArray) (hs : s.size ≤ 300) (z : Int) (hz : 0 ≤ z ∧ z ≤ 65535) (hg : goodB (tl s) = true) (hT : withOk s TMP = true) (hP : withOk s PAR = true) (w : World) (htab : Tab w) :
    Calls Tryd.prog 8 #[.string s, .int .u16 z] w fun e w' => e = .returned (.bool true) ∧ Below w.heap.size w w' := by
  have H0 : Hid (Below w.heap.size w w) := Below.refl _ _
  have HT := Lib.hid (Lib.tabBelow_of_tabIs htab)
  have HG := Lib.hid hg
  clear htab
  obtain ⟨c, hix, hhx, hc⟩ := digit (z % 16).toNat (by omega)
  rw [show (((z % 16).toNat : Nat) : Int) = z % 16 by omega] at hix
  have e16 : z.tmod 16 = z % 16 := Int.tmod_eq_emod_of_nonneg hz.1
  have e16k : z.tmod 16384 = z % 16384 := Int.tmod_eq_emod_of_nonneg hz.1
  obtain ⟨S, hS⟩ : ∃ S, (⟨#[UInt8.ofNat c]⟩ : ByteArray) = S := ⟨_, rfl⟩
  have hcv := fun W : World => conv_at (W.alloc (.cells #[.int .u8 c] 5)) W.heap.size c S ⟨by omega, by omega⟩ hS (Boxed.new W 5 (.int .u8 c)).cell
  have HSS : Hid (S.size = 1) := by rw [← hS]; rfl
  have hss := HSS.out
  have HSC := Lib.hid hS
  have HHX := Lib.hid hhx
  have FZ : Hid (0 ≤ z % 16384 ∧ z % 16384 ≤ 16383) := Lib.hid (by omega)
  clear hS hhx
  have b1 : decide ((300 : Int) < (s.size : Int)) = false := decide_eq_false (by omega)
  have c1 := fun w => temp_any s (by omega) w
  have c2 := fun w => side_any s (by omega) w
  have c3 := fun w => kind_any s (by omega) w
  have cd := fun w => dir_any s (by omega) w
  have hk : kindN s ≠ 0 := by
    rcases kind_zero s with ⟨h, _⟩ | ⟨_, h⟩
    · rw [hg] at h; cases h
    · exact h
  have b2 : ((kindN s : Int) == 0) = false := by rw [beq_eq_false_iff_ne]; omega
  unfold TextPost at c1 c2
  simp only [hT, Bool.false_eq_true, if_false, if_true] at c1
  simp only [hP, Bool.false_eq_true, if_false, if_true] at c2
  have gT : goodB (tl (withB s TMP)) = true := by unfold withOk at hT; rw [Bool.and_eq_true] at hT; exact hT.2
  have sT : (withB s TMP).size ≤ 1000 := by
    unfold goodB at gT
    rw [Bool.and_eq_true, decide_eq_true_eq, len_tl] at gT
    omega
  have ckT := fun w => kind_any (withB s TMP) (by omega) w
  rw [kind_tmp s gT] at ckT
  have cdT := fun w => dir_any (withB s TMP) (by omega) w
  rw [with_dir s TMP no47.1] at cdT
  have nT := with_ne s TMP (by decide)
  have gP : goodB (tl (withB s PAR)) = true := by unfold withOk at hP; rw [Bool.and_eq_true] at hP; exact hP.2
  have sP : (withB s PAR).size ≤ 1000 := by
    unfold goodB at gP
    rw [Bool.and_eq_true, decide_eq_true_eq, len_tl] at gP
    omega
  have ckP := fun w => kind_any (withB s PAR) (by omega) w
  rw [kind_par s gP] at ckP
  have cdP := fun w => dir_any (withB s PAR) (by omega) w
  rw [with_dir s PAR no47.2] at cdP
  have nP := with_ne s PAR (by decide)
  have nTP := two_ne s gT gP
  generalize kindN s = ks at *
  generalize dirB s = D at *
  generalize withB s TMP = A at *
  have q1 := toList_ne nT
  have q2 : (A.toList == s.toList) = false := beq_eq_false_iff_ne.2 q1
  have CKT := Lib.hid ckT
  have CDT := Lib.hid cdT
  generalize withB s PAR = B at *
  have q3 := toList_ne nP
  have q4 : (B.toList == s.toList) = false := beq_eq_false_iff_ne.2 q3
  have CKP := Lib.hid ckP
  have CDP := Lib.hid cdP
  have q5 := toList_ne nTP
  have q6 : (A.toList == B.toList) = false := beq_eq_false_iff_ne.2 q5
  have C1 := Lib.hid c1
  have C2 := Lib.hid c2
  have C3 := Lib.hid c3
  have CD := Lib.hid cd
  clear c1 c2 c3 cd hk hT hP hg ckT cdT nT gT ckP cdP nP gP nTP
  go_enter Tryd.func8, Tryd.ntmps8
  go_wp2_with fail
  refine (awake_any _).mono ?_
  rintro e w1 ⟨rfl, hw1⟩
  have H1 := chain (n := w.heap.size) (w := w) H0 hw1
  clear hw1
  go_wp2_with fail
  refine (C1.out _).mono ?_
  rintro e w2 ⟨rfl, hw2⟩
  have H2 := chain (n := w.heap.size) (w := w) H1 hw2
  clear hw2
  go_wp2_with fail
  refine (C2.out _).mono ?_
  rintro e w3 ⟨rfl, hw3⟩
  have H3 := chain (n := w.heap.size) (w := w) H2 hw3
  clear hw3
  go_wp2_with fail
  refine (C3.out _).mono ?_
  rintro e w4 ⟨rfl, hw4⟩
  have H4 := chain (n := w.heap.size) (w := w) H3 hw4
  clear hw4
  go_wp2_with fail
  refine (CKT.out _).mono ?_
  rintro e w5 ⟨rfl, hw5⟩
  have H5 := chain (n := w.heap.size) (w := w) H4 hw5
  clear hw5
  go_wp2_with fail
  refine (CDT.out _).mono ?_
  rintro e w' ⟨rfl, rfl⟩
  go_wp2_with fail
  refine (CD.out _).mono ?_
  rintro e w' ⟨rfl, rfl⟩
  go_wp2_with fail
  refine (CKP.out _).mono ?_
  rintro e w6 ⟨rfl, hw6⟩
  have H6 := chain (n := w.heap.size) (w := w) H5 hw6
  clear hw6
  go_wp2_with fail
  refine (CDP.out _).mono ?_
  rintro e w' ⟨rfl, rfl⟩
  go_wp2_with fail
  refine (CD.out _).mono ?_
  rintro e w' ⟨rfl, rfl⟩
  go_wp2_with fail
  go_loopg [9, 94] 64 (fun gf o i wx => ∃ (n : Nat) (t : ByteArray), o = .string t ∧ i = .int .i64 n ∧ n + gf = 64 ∧ t.size = n ∧ Hid (tl t = List.replicate n (UInt8.ofNat c)) ∧ Hid (Below w.heap.size w wx))
  case atStart => exact ⟨0, ⟨#[]⟩, rfl, rfl, rfl, rfl, rfl, H6⟩
  case round =>
    obtain ⟨n, t, rfl, rfl, hg2, hts, HTL, HB⟩ := hrel
    by_cases hn : n < 64
    · have b3 : decide ((n : Int) < 64) = true := decide_eq_true (by omega)
      have b4 : decide (n < 64) = true := decide_eq_true (by omega)
      obtain ⟨g', rfl⟩ : ∃ g', gk = g' + 1 := ⟨gk - 1, by omega⟩
      go_wp2_with fail
      go_roundg g'
      case measure => omega
      case rel => exact ⟨n + 1, t ++ S, rfl, rfl, by omega, by rw [ByteArray.size_append, HSS.out, hts], rep_next HTL.out HSC.out, alloc_hid HB _⟩
    · have hn64 : n = 64 := by omega
      have b3 : decide ((n : Int) < 64) = false := decide_eq_false (by omega)
      have b4 : decide (n < 64) = false := decide_eq_false (by omega)
      have hok : homeOk (z % 16384) t = true := sum_ok FZ.out (hts.trans hn64) HTL.out HHX.out
      have c5 := fun (w : World) (h : Tab w) => copy_any s (by omega) (z % 16384) t (by omega) w h
      have c6 := fun (w : World) (h : Tab w) => home_any (z % 16384) t (by omega) w h
      unfold CopyPost at c5
      unfold HomePost at c6
      rw [hok] at c6
      simp only [if_true] at c6
      have hhs := home_size (z % 16384) t hok
      rcases copy_cases s (z % 16384) t with ⟨k1, _, _⟩ | ⟨_, k2, _, _⟩ | ⟨_, _, k3, k4, k5⟩ | ⟨_, _, k3, k4, k5⟩
      · rw [HG.out] at k1; cases k1
      · rw [hok] at k2; cases k2
      · have c7 := fun w => good_any (longT s (z % 16384) t) w
        rw [k4, k5] at c5
        rw [k3] at c7
        unfold longT at c5 c7
        generalize homeT (z % 16384) t = T at *
        have hne : s ++ ⟨#[46]⟩ ++ T ≠ T := fun e => by
          have := congrArg ByteArray.size e
          simp only [ByteArray.size_append] at this
          have h1 : (⟨#[46]⟩ : ByteArray).size = 1 := rfl
          omega
        have q1 := toList_ne hne
        have q2 : ((s ++ ⟨#[46]⟩ ++ T).toList == T.toList) = false := beq_eq_false_iff_ne.2 q1
        have q3 : (s ++ ⟨#[46]⟩ ++ T).size ≤ 1000 := by
          simp only [ByteArray.size_append]
          have h1 : (⟨#[46]⟩ : ByteArray).size = 1 := rfl
          omega
        have C5 := Lib.hid c5
        have C6 := Lib.hid c6
        have C7 := Lib.hid c7
        clear c5 c6 c7 k3 k4 k5 hok hne
        go_wp2_with fail
        refine (C5.out _ (HT.out _ HB.out)).mono ?_
        rintro e v1 ⟨rfl, hv1⟩
        have V1 := chain (n := w.heap.size) (w := w) HB hv1
        clear hv1
        go_wp2_with fail
        refine (C6.out _ (HT.out _ V1.out)).mono ?_
        rintro e v2 ⟨rfl, hv2⟩
        have V2 := chain (n := w.heap.size) (w := w) V1 hv2
        clear hv2
        go_wp2_with fail
        refine (C7.out _).mono ?_
        rintro e v3 ⟨rfl, hv3⟩
        have V3 := chain (n := w.heap.size) (w := w) V2 hv3
        clear hv3
        go_wp2_with fail
        go_ret
        exact ⟨rfl, V3.out⟩
      · have c7 := fun w => good_any (homeT (z % 16384) t) w
        rw [good_home _ _ hok] at c7
        rw [k4, k5] at c5
        generalize homeT (z % 16384) t = T at *
        have C5 := Lib.hid c5
        have C6 := Lib.hid c6
        have C7 := Lib.hid c7
        clear c5 c6 c7 k3 k4 k5 hok
        go_wp2_with fail
        refine (C5.out _ (HT.out _ HB.out)).mono ?_
        rintro e v1 ⟨rfl, hv1⟩
        have V1 := chain (n := w.heap.size) (w := w) HB hv1
        clear hv1
        go_wp2_with fail
        refine (C6.out _ (HT.out _ V1.out)).mono ?_
        rintro e v2 ⟨rfl, hv2⟩
        have V2 := chain (n := w.heap.size) (w := w) V1 hv2
        clear hv2
        go_wp2_with fail
        refine (C7.out _).mono ?_
        rintro e v3 ⟨rfl, hv3⟩
        have V3 := chain (n := w.heap.size) (w := w) V2 hv3
        clear hv3
        go_wp2_with fail
        go_ret
        exact ⟨rfl, V3.out⟩

theorem u16_of {z : Int} (h : (Lit.int .u16 z).wf = true) : 0 ≤ z ∧ z ≤ 65535 := by
  unfold Lit.wf at h
  rw [Bool.and_eq_true, decide_eq_true_eq, decide_eq_true_eq] at h
  have e1 : IntKind.u16.min = 0 := by decide
  have e2 : IntKind.u16.max = 65535 := by decide
  rw [e1, e2] at h
  exact h
theorem walk (s : ByteArray) (hs : s.size ≤ maxLen) (z : Int) (hz : (Lit.int .u16 z).wf = true) (w : World) (htab : Tab w) :
    Calls Tryd.prog 8 #[.string s, .int .u16 z] w fun e w' => e = .returned (.bool true) ∧ Below w.heap.size w w' := by
  by_cases h : 300 < s.size
  · exact walk_early s z h w
  · cases hg : goodB (tl s) with
    | false => exact walk_none s (by omega) z hg w
    | true =>
      cases hT : withOk s TMP <;> cases hP : withOk s PAR
      · exact walk_some_false_false s (by omega) z (u16_of hz) hg hT hP w htab
      · exact walk_some_false_true s (by omega) z (u16_of hz) hg hT hP w htab
      · exact walk_some_true_false s (by omega) z (u16_of hz) hg hT hP w htab
      · exact walk_some_true_true s (by omega) z (u16_of hz) hg hT hP w htab
end Go.Proofs.YtjnpmabnnbngeaaDoor.pathSides
