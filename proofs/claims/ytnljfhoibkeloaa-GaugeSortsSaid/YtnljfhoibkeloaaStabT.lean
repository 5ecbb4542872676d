/- slices.symMergeCmpFunc whole, slices.stableCmpFunc and slices.SortStableFunc at float64 (at most 40 elements), the order gauge's. -/
import Derived.Test.YtnljfhoibkeloaaStabN
import Derived.Test.YtnljfhoibkeloaaStabO
import Derived.LoopN
namespace Go.Proofs.Ytnljfhoibkeloaa
open Go.RowKit Go.Sort Go.Lib
set_option linter.unusedVariables false
set_option linter.unusedSimpArgs false
namespace Sb
open St
theorem upto {blk off cap : Nat} {d0 : Array W64} {w0 : World} (R : Row1 enc w0 blk off d0) : ∀ N, Upto blk off cap d0 w0 N := by
  intro N
  induction N with
  | zero => intro a m b d w h _ _ h1 h2; omega
  | succ N ih =>
    intro a m b d w hN hs S h1 h2 hb hsz s1 s2
    by_cases c1 : m ≤ a + 1
    · exact merge_up blk off cap a m b d0 d w0 w R hs S h1 c1 h2 hb hsz s2
    · by_cases c2 : b ≤ m + 1
      · exact merge_down blk off cap a m b d0 d w0 w R hs S (by omega) h2 c2 hb hsz s1
      · by_cases c3 : (a + b) / 2 < m
        · exact merge_great blk off cap a m b d0 d w0 w R N ih hN hs S (by omega) (by omega) hb hsz s1 s2 _ rfl c3
        · exact merge_small blk off cap a m b d0 d w0 w R N ih hN hs S (by omega) (by omega) hb hsz s1 s2 _ rfl (by omega)
theorem sym_any (blk off cap a m b : Nat) (za zm zb : Int) (ha : za = a) (hm : zm = m) (hzb : zb = b) (d0 d : Array W64) (w0 w : World) (R : Row1 enc w0 blk off d0) (hs : d0.size = d.size) (S : SW enc w0 blk off d w) (h1 : a < m) (h2 : m < b) (hb : b ≤ d.size) (hsz : d.size ≤ 100000)
    (s1 : SortedIn lt a m d) (s2 : SortedIn lt m b d) :
    Calls Try.prog 42 #[.slice (some ⟨blk, off, none⟩) d.size cap, .int .i64 za, .int .i64 zm, .int .i64 zb, .func (.func 29) #[] #[]] w (MPost w0 blk off a b d) := by
  subst ha hm hzb
  exact upto R (b - a) a m b d w (Nat.le_refl _) hs S h1 h2 hb hsz s1 s2
theorem ins_any (blk off cap a b : Nat) (za zb : Int) (ha : za = a) (hzb : zb = b) (d0 d : Array W64) (w0 w : World) (R : Row1 enc w0 blk off d0) (hs : d0.size = d.size) (S : SW enc w0 blk off d w) (hab : a ≤ b) (hb : b ≤ d.size) (hsz : d.size ≤ 100000) :
    Calls Try.prog 41 #[.slice (some ⟨blk, off, none⟩) d.size cap, .int .i64 za, .int .i64 zb, .func (.func 29) #[] #[]] w (MPost w0 blk off a b d) := by
  subst ha hzb
  refine (Try.insertionSortCmpFunc_s enc cf 29 #[] blk off cap a b d0 d w0 w (enters_of Try.func29 (by kernel_rfl) rfl) (cmp_lays _ _ _ _) R hs S hab hb (by omega)).mono ?_
  rintro e w' ⟨rfl, hS⟩
  obtain ⟨hp, hq⟩ := insertionSort_holds (lt := ltOf cf) swo_lt d a b hab hb
  exact ⟨rfl, _, hp.1, hS, hp, hq⟩

theorem ins_n (blk off cap n a b : Nat) (za zb : Int) (ha : za = a) (hzb : zb = b) (d0 d : Array W64) (w0 w : World) (R : Row1 enc w0 blk off d0) (hs : d0.size = n) (hs2 : d.size = n) (S : SW enc w0 blk off d w) (hab : a ≤ b) (hb : b ≤ n) (hsz : n ≤ 100000) :
    Calls Try.prog 41 #[.slice (some ⟨blk, off, none⟩) n cap, .int .i64 za, .int .i64 zb, .func (.func 29) #[] #[]] w (MPost w0 blk off a b d) := by
  subst hs2
  exact ins_any blk off cap a b za zb ha hzb d0 d w0 w R hs S hab hb hsz
theorem sym_n (blk off cap n a m b : Nat) (za zm zb : Int) (ha : za = a) (hm : zm = m) (hzb : zb = b) (d0 d : Array W64) (w0 w : World) (R : Row1 enc w0 blk off d0) (hs : d0.size = n) (hs2 : d.size = n) (S : SW enc w0 blk off d w) (h1 : a < m) (h2 : m < b) (hb : b ≤ n) (hsz : n ≤ 100000)
    (s1 : SortedIn lt a m d) (s2 : SortedIn lt m b d) :
    Calls Try.prog 42 #[.slice (some ⟨blk, off, none⟩) n cap, .int .i64 za, .int .i64 zm, .int .i64 zb, .func (.func 29) #[] #[]] w (MPost w0 blk off a b d) := by
  subst hs2
  exact sym_any blk off cap a m b za zm zb ha hm hzb d0 d w0 w R hs S h1 h2 hb hsz s1 s2
set_option maxRecDepth 1000000 in
set_option maxHeartbeats 8000000 in
theorem stable_small (blk off cap n : Nat) (d : Array W64) (w0 w : World) (R : Row1 enc w0 blk off d) (S : SW enc w0 blk off d w) (hd : d.size = n) (hn : n < 20) :
    Calls Try.prog 38 #[.slice (some ⟨blk, off, none⟩) n cap, .int .i64 n, .func (.func 29) #[] #[]] w (MPost w0 blk off 0 n d) := by
  have b1 : decide ((20 : Int) ≤ (n : Int)) = false := decide_eq_false (by omega)
  have b2 : decide ((20 : Int) < (n : Int)) = false := decide_eq_false (by omega)
  have HS : Aside (SW enc w0 blk off d w) := S
  clear S
  go_enter Try.func38, Try.ntmps38
  go_wp2_with fail
  refine wp_loop_rounds 1 ?_
  rw [rounds_succ]
  go_wp2_with fail
  refine (ins_n blk off cap n 0 n _ _ rfl rfl d d w0 w R hd hd HS (by omega) (by omega) (by omega)).mono ?_
  rintro e1 w1 ⟨rfl, d1, hd1, S1, P1, Q1⟩
  go_wp2_with fail
  refine wp_loop_rounds 1 ?_
  rw [rounds_succ]
  go_wp2_with fail
  go_end0
  exact ⟨rfl, d1, hd1, S1, P1, Q1⟩
set_option maxRecDepth 1000000 in
set_option maxHeartbeats 8000000 in
theorem stable_20 (blk off cap : Nat) (d : Array W64) (w0 w : World) (R : Row1 enc w0 blk off d) (S : SW enc w0 blk off d w) (hd : d.size = 20) :
    Calls Try.prog 38 #[.slice (some ⟨blk, off, none⟩) 20 cap, .int .i64 20, .func (.func 29) #[] #[]] w (MPost w0 blk off 0 20 d) := by
  have HS : Aside (SW enc w0 blk off d w) := S
  clear S
  go_enter Try.func38, Try.ntmps38
  go_wp2_with fail
  refine wp_loop_rounds 2 ?_
  rw [rounds_succ]
  go_wp2_with fail
  refine (ins_n blk off cap 20 0 20 _ _ rfl rfl d d w0 w R hd hd HS (by omega) (by omega) (by omega)).mono ?_
  rintro e1 w1 ⟨rfl, d1, hd1, S1, P1, Q1⟩
  go_wp2_with fail
  rw [rounds_succ]
  go_wp2_with fail
  refine (ins_n blk off cap 20 20 20 _ _ rfl rfl d d1 w0 w1 R hd (by omega) S1 (by omega) (by omega) (by omega)).mono ?_
  rintro e2 w2 ⟨rfl, d2, hd2, S2, P2, Q2⟩
  go_wp2_with fail
  refine wp_loop_rounds 1 ?_
  rw [rounds_succ]
  go_wp2_with fail
  go_end0
  refine ⟨rfl, d2, by omega, S2, permIn_trans _ _ _ _ _ P1 (permIn_mono _ _ _ _ _ _ (by omega) (by omega) (by omega) P2), ?_⟩
  exact srt_congr Q1 fun p _ hp => P2.2.1 p (.inl hp)
set_option maxRecDepth 1000000 in
set_option maxHeartbeats 8000000 in
theorem stable_mid (blk off cap n : Nat) (d : Array W64) (w0 w : World) (R : Row1 enc w0 blk off d) (S : SW enc w0 blk off d w) (hd : d.size = n) (hn1 : 20 < n) (hn2 : n < 40) :
    Calls Try.prog 38 #[.slice (some ⟨blk, off, none⟩) n cap, .int .i64 n, .func (.func 29) #[] #[]] w (MPost w0 blk off 0 n d) := by
  have b1 : decide ((20 : Int) ≤ (n : Int)) = true := decide_eq_true (by omega)
  have b2 : decide ((40 : Int) ≤ (n : Int)) = false := decide_eq_false (by omega)
  have b3 : decide ((20 : Int) < (n : Int)) = true := decide_eq_true (by omega)
  have b4 : decide ((40 : Int) < (n : Int)) = false := decide_eq_false (by omega)
  have HS : Aside (SW enc w0 blk off d w) := S
  clear S
  go_enter Try.func38, Try.ntmps38
  go_wp2_with fail
  refine wp_loop_rounds 2 ?_
  rw [rounds_succ]
  go_wp2_with fail
  refine (ins_n blk off cap n 0 20 _ _ rfl rfl d d w0 w R hd hd HS (by omega) (by omega) (by omega)).mono ?_
  rintro e1 w1 ⟨rfl, d1, hd1, S1, P1, Q1⟩
  go_wp2_with fail
  rw [rounds_succ]
  go_wp2_with fail
  refine (ins_n blk off cap n 20 n _ _ rfl rfl d d1 w0 w1 R hd (by omega) S1 (by omega) (by omega) (by omega)).mono ?_
  rintro e2 w2 ⟨rfl, d2, hd2, S2, P2, Q2⟩
  go_wp2_with fail
  refine wp_loop_rounds 2 ?_
  rw [rounds_succ]
  go_wp2_with fail
  refine wp_loop_rounds 1 ?_
  rw [rounds_succ]
  go_wp2_with fail
  refine (sym_n blk off cap n 0 20 n _ _ _ rfl rfl rfl d d2 w0 w2 R hd (by omega) S2 (by omega) (by omega) (by omega) (by omega) (srt_congr Q1 fun p _ hp => P2.2.1 p (.inl hp)) Q2).mono ?_
  rintro e3 w3 ⟨rfl, d3, hd3, S3, P3, Q3⟩
  go_wp2_with fail
  rw [rounds_succ]
  go_wp2_with fail
  go_end0
  exact ⟨rfl, d3, by omega, S3, permIn_trans _ _ _ _ _ (permIn_mono _ _ _ _ _ _ (by omega) (by omega) (by omega) P1) (permIn_trans _ _ _ _ _ (permIn_mono _ _ _ _ _ _ (by omega) (by omega) (by omega) P2) P3), Q3⟩
set_option maxRecDepth 1000000 in
set_option maxHeartbeats 8000000 in
theorem stable_40 (blk off cap : Nat) (d : Array W64) (w0 w : World) (R : Row1 enc w0 blk off d) (S : SW enc w0 blk off d w) (hd : d.size = 40) :
    Calls Try.prog 38 #[.slice (some ⟨blk, off, none⟩) 40 cap, .int .i64 40, .func (.func 29) #[] #[]] w (MPost w0 blk off 0 40 d) := by
  have HS : Aside (SW enc w0 blk off d w) := S
  clear S
  go_enter Try.func38, Try.ntmps38
  go_wp2_with fail
  refine wp_loop_rounds 3 ?_
  rw [rounds_succ]
  go_wp2_with fail
  refine (ins_n blk off cap 40 0 20 _ _ rfl rfl d d w0 w R hd hd HS (by omega) (by omega) (by omega)).mono ?_
  rintro e1 w1 ⟨rfl, d1, hd1, S1, P1, Q1⟩
  go_wp2_with fail
  rw [rounds_succ]
  go_wp2_with fail
  refine (ins_n blk off cap 40 20 40 _ _ rfl rfl d d1 w0 w1 R hd (by omega) S1 (by omega) (by omega) (by omega)).mono ?_
  rintro e2 w2 ⟨rfl, d2, hd2, S2, P2, Q2⟩
  go_wp2_with fail
  rw [rounds_succ]
  go_wp2_with fail
  refine (ins_n blk off cap 40 40 40 _ _ rfl rfl d d2 w0 w2 R hd (by omega) S2 (by omega) (by omega) (by omega)).mono ?_
  rintro e3 w3 ⟨rfl, d3, hd3, S3, P3, Q3⟩
  go_wp2_with fail
  refine wp_loop_rounds 2 ?_
  rw [rounds_succ]
  go_wp2_with fail
  refine wp_loop_rounds 2 ?_
  rw [rounds_succ]
  go_wp2_with fail
  refine (sym_n blk off cap 40 0 20 40 _ _ _ rfl rfl rfl d d3 w0 w3 R hd (by omega) S3 (by omega) (by omega) (by omega) (by omega) (srt_congr Q1 fun p _ hp => (P3.2.1 p (.inl (by omega))).trans (P2.2.1 p (.inl hp))) (srt_congr Q2 fun p _ hp => P3.2.1 p (.inl hp))).mono ?_
  rintro e4 w4 ⟨rfl, d4, hd4, S4, P4, Q4⟩
  go_wp2_with fail
  rw [rounds_succ]
  go_wp2_with fail
  rw [rounds_succ]
  go_wp2_with fail
  go_end0
  exact ⟨rfl, d4, by omega, S4, permIn_trans _ _ _ _ _ (permIn_mono _ _ _ _ _ _ (by omega) (by omega) (by omega) P1) (permIn_trans _ _ _ _ _ (permIn_mono _ _ _ _ _ _ (by omega) (by omega) (by omega) P2) (permIn_trans _ _ _ _ _ (permIn_mono _ _ _ _ _ _ (by omega) (by omega) (by omega) P3) P4)), Q4⟩
theorem stable_any (blk off cap n : Nat) (d : Array W64) (w0 w : World) (R : Row1 enc w0 blk off d) (S : SW enc w0 blk off d w) (hd : d.size = n) (hn : n ≤ 40) :
    Calls Try.prog 38 #[.slice (some ⟨blk, off, none⟩) n cap, .int .i64 n, .func (.func 29) #[] #[]] w (MPost w0 blk off 0 n d) := by
  by_cases h1 : n < 20
  · exact stable_small blk off cap n d w0 w R S hd h1
  · by_cases h2 : n = 20
    · subst h2; exact stable_20 blk off cap d w0 w R S hd
    · by_cases h3 : n < 40
      · exact stable_mid blk off cap n d w0 w R S hd (by omega) h3
      · obtain rfl : n = 40 := by omega
        exact stable_40 blk off cap d w0 w R S hd
end Sb
end Go.Proofs.Ytnljfhoibkeloaa
