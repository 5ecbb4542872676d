/- The walks of slices.SortStableFunc's family at float64, the order gauge's. -/
import Derived.Test.YtnljfhoibkeloaaStab
import Derived.Test.YtnljfhoibkeloaaGauge
import Derived.Test.YtnljfhoibkeloaaShelf
import Derived.Shelf.SlSortCmp.Kit1
import Derived.Deep.LoopGhost
import Derived.BigRegion
import Derived.Outline
import Derived.WalkLawsBesides
import Derived.Laws.EntriesVeiled
import Derived.WalkKit
namespace Go.Proofs.Ytnljfhoibkeloaa
open Go.RowKit Go.Sort Go.Lib
set_option linter.unusedVariables false
set_option linter.unusedSimpArgs false
namespace Sb
open St
/-- A word of 64 bits. -/
def W64 : Type := { n : Nat // n < 18446744073709551616 }
instance : Inhabited W64 := ⟨⟨0, by omega⟩⟩
def enc (x : W64) : Value := .float .f64 x.1
def cf (x y : W64) : Int := Ga.ord x.1 y.1
abbrev lt : W64 → W64 → Bool := ltOf cf
def Done {P : Prop} (e : Ending) (h : P) : Prop := True
/-- What an exchange of two ranges leaves. -/
def RPost (w0 : World) (blk off a b n : Nat) (d : Array W64) (e : Ending) (w' : World) : Prop :=
  e = .returned (.tuple #[]) ∧ ∃ d', d'.size = d.size ∧ SW enc w0 blk off d' w' ∧ Ranges a b n d d' ∧ PermIn a (b + n) d d'
/-- What a rotation leaves. -/
def TPost (w0 : World) (blk off a m b : Nat) (d : Array W64) (e : Ending) (w' : World) : Prop :=
  e = .returned (.tuple #[]) ∧ ∃ d', d'.size = d.size ∧ SW enc w0 blk off d' w' ∧ Rot a m b d d'
/-- What a merge leaves. -/
def MPost (w0 : World) (blk off a b : Nat) (d : Array W64) (e : Ending) (w' : World) : Prop :=
  e = .returned (.tuple #[]) ∧ ∃ d', d'.size = d.size ∧ SW enc w0 blk off d' w' ∧ PermIn a b d d' ∧ SortedIn lt a b d'

set_option maxRecDepth 1000000 in
set_option maxHeartbeats 4000000 in
theorem swapRange_any (blk off cap a b n : Nat) (d0 d : Array W64) (w0 w : World) (R : Row1 enc w0 blk off d0) (hs : d0.size = d.size) (S : SW enc w0 blk off d w) (hab : a + n ≤ b) (hb : b + n ≤ d.size) (hsz : d.size ≤ 100000) :
    Calls Try.prog 44 #[.slice (some ⟨blk, off, none⟩) d.size cap, .int .i64 a, .int .i64 b, .int .i64 n, .func (.func 29) #[] #[]] w (RPost w0 blk off a b n d) := by
  have hcl0 := R.hO.cells
  simp only [Value.cells] at hcl0
  have hst := R.hO.store Try.prog
  have S0 : Aside (SW enc w0 blk off d w) := S
  clear S
  go_enter Try.func44, Try.ntmps44
  go_wp2_with fail
  go_loopg [10] n (fun gk i wr => ∃ (k : Nat) (dk : Array W64), i = .int .i64 (k : Int) ∧ k + gk = n ∧ dk.size = d.size ∧ Aside (SW enc w0 blk off dk wr) ∧ Aside (Ranges a b k d dk) ∧ Aside (PermIn a (b + n) d dk))
  case atStart => exact ⟨0, d, rfl, by omega, rfl, S0, Ranges.start _ _ _, permIn_refl _ _ _⟩
  case round =>
    clear S0
    obtain ⟨k, dk, rfl, hk, hdk, S1, HR, HP⟩ := hrel
    by_cases hlt : k < n
    · have b1 : decide ((k : Int) < (n : Int)) = true := decide_eq_true (by omega)
      obtain ⟨g', rfl⟩ : ∃ g', gk = g' + 1 := ⟨gk - 1, by omega⟩
      go_wp2_with fail
      obtain ⟨iN1, hiN1⟩ : ∃ q, q = a + k := ⟨_, rfl⟩
      obtain ⟨jN1, hjN1⟩ : ∃ q, q = b + k := ⟨_, rfl⟩
      have ea1 : ((a : Int) + (k : Int)).toNat = iN1 := by omega
      have pa1 : (0 : Int) ≤ (a : Int) + (k : Int) := by omega
      have ba1 : (a : Int) + (k : Int) < (d.size : Int) := by omega
      have ra1 : IntKind.i64.wrap ((a : Int) + (k : Int)) = (a : Int) + (k : Int) := by rw [IntKind.wrap_i64]; omega
      have ec1 : ((b : Int) + (k : Int)).toNat = jN1 := by omega
      have pc1 : (0 : Int) ≤ (b : Int) + (k : Int) := by omega
      have bc1 : (b : Int) + (k : Int) < (d.size : Int) := by omega
      have rc1 : IntKind.i64.wrap ((b : Int) + (k : Int)) = (b : Int) + (k : Int) := by rw [IntKind.wrap_i64]; omega
      obtain ⟨x1, hx1⟩ : ∃ x, x = dk[a + k]! := ⟨_, rfl⟩
      obtain ⟨y1, hy1⟩ : ∃ x, x = dk[b + k]! := ⟨_, rfl⟩
      have S2 : Aside (SW enc w0 blk off (swp dk (a + k) (b + k)) ((wr.setCell ⟨blk, off + iN1, none⟩ (enc y1)).setCell ⟨blk, off + jN1, none⟩ (enc x1)).drew) := by rw [hiN1, hjN1, hx1, hy1]; exact S1.out.swapped R (a + k) (b + k) (by omega) (by omega)
      have c1a := S1.out.c1 R (by omega) (a + k) (by omega)
      have c1b := S1.out.c1 R (by omega) (b + k) (by omega)
      have f1a := S1.out.f1 R (by omega) (a + k) (by omega)
      have f1b := S1.out.f1 R (by omega) (b + k) (by omega)
      obtain ⟨u1, c1c⟩ := S1.out.c2 R (by omega) (a + k) (b + k) (by omega) (by omega) (enc y1)
      rw [← hjN1, ← hiN1] at c1c
      rw [← hx1, ← hiN1] at c1a
      rw [← hy1, ← hjN1] at c1b
      rw [← hiN1] at f1a
      rw [← hjN1] at f1b
      clear S1 hx1 hy1 hiN1 hjN1
      go_wp2_with fail
      go_region
      clear c1a c1b c1c f1a f1b
      generalize ((wr.setCell ⟨blk, off + iN1, none⟩ (enc y1)).setCell ⟨blk, off + jN1, none⟩ (enc x1)).drew = w2 at S2 ⊢
      clear ea1 ec1
      go_wp2_with fail
      go_roundg g'
      case measure => omega
      case rel =>
        exact ⟨k + 1, swp dk (a + k) (b + k), by first | rfl | go_num | (congr 1; omega), by omega, by rw [size_swp]; exact hdk, S2, HR.out.step (by omega) (by omega),
          permIn_trans _ _ _ _ _ HP.out (swp_permIn _ _ _ _ _ (by omega) (by omega) (by omega) (by omega) (by omega))⟩
    · have b1 : decide ((k : Int) < (n : Int)) = false := decide_eq_false (by omega)
      obtain rfl : n = k := by omega
      go_wp2_with fail
      go_end0
      exact ⟨rfl, dk, hdk, S1.out, HR.out, HP.out⟩

set_option maxRecDepth 1000000 in
set_option maxHeartbeats 4000000 in
theorem rotate_any (blk off cap a m b : Nat) (d0 d : Array W64) (w0 w : World) (R : Row1 enc w0 blk off d0) (hs : d0.size = d.size) (S : SW enc w0 blk off d w) (ham : a < m) (hmb : m < b) (hb : b ≤ d.size) (hsz : d.size ≤ 100000) :
    Calls Try.prog 43 #[.slice (some ⟨blk, off, none⟩) d.size cap, .int .i64 a, .int .i64 m, .int .i64 b, .func (.func 29) #[] #[]] w (TPost w0 blk off a m b d) := by
  have S0 : Aside (SW enc w0 blk off d w) := S
  clear S
  have e1 : (m : Int) - (a : Int) = ((m - a : Nat) : Int) := by omega
  have e2 : (b : Int) - (m : Int) = ((b - m : Nat) : Int) := by omega
  go_enter Try.func43, Try.ntmps43
  go_wp2_with fail
  go_loopg [10, 11] (b - a) (fun gk si sj wr => ∃ (i j : Nat) (dk : Array W64), si = .int .i64 (i : Int) ∧ sj = .int .i64 (j : Int) ∧ 0 < i ∧ 0 < j ∧ a + i ≤ m ∧ m + j ≤ b ∧ i + j ≤ gk + 1 ∧ dk.size = d.size ∧ Aside (SW enc w0 blk off dk wr) ∧
    Aside (∀ k, view m i j dk k = view m (m - a) (b - m) d k) ∧ Aside (PermIn a b d dk))
  case atStart => exact ⟨m - a, b - m, d, by first | rfl | rw [e1], by first | rfl | rw [e2], by omega, by omega, by omega, by omega, by omega, rfl, S0, fun k => rfl, permIn_refl _ _ _⟩
  case round =>
    clear S0 e1 e2
    obtain ⟨i, j, dk, rfl, rfl, hi, hj, hai, hjb, hg, hdk, S1, HV, HP⟩ := hrel
    by_cases heq : i = j
    · subst heq
      have b1 : ((i : Int) != (i : Int)) = false := by simp
      have e3 : (m : Int) - (i : Int) = ((m - i : Nat) : Int) := by omega
      have hcall := swapRange_any blk off cap (m - i) m i d0 dk w0 wr R (by omega) S1.out (by omega) (by omega) (by omega)
      rw [hdk] at hcall
      clear S1
      go_wp2_with (go_at_call 44; (try rw [e3]); refine hcall.mono ?_; rintro e w1 ⟨rfl, d2, hd2, S2, HR2, HP2⟩)
      go_end0
      exact ⟨rfl, d2, by omega, S2, rot_of (by omega) (by omega) (permIn_trans _ _ _ _ _ HP.out (permIn_mono _ _ _ _ _ _ (by omega) (by omega) (by omega) HP2)) (fun k => (view_done (by omega) HR2 k).trans (HV.out k))⟩
    · have b1 : ((i : Int) != (j : Int)) = true := by rw [bne_iff_ne]; omega
      by_cases hgt : j < i
      · have b2 : decide ((j : Int) < (i : Int)) = true := decide_eq_true (by omega)
        have e3 : (m : Int) - (i : Int) = ((m - i : Nat) : Int) := by omega
        have e4 : (i : Int) - (j : Int) = ((i - j : Nat) : Int) := by omega
        have hcall := swapRange_any blk off cap (m - i) m j d0 dk w0 wr R (by omega) S1.out (by omega) (by omega) (by omega)
        rw [hdk] at hcall
        clear S1
        go_wp2_with (go_at_call 44; (try rw [e3]); refine hcall.mono ?_; rintro e w1 ⟨rfl, d2, hd2, S2, HR2, HP2⟩)
        go_roundg (gk - j)
        case measure => omega
        case rel =>
          exact ⟨i - j, j, d2, by first | rfl | rw [e4], rfl, by omega, by omega, by omega, by omega, by omega, by omega, S2, fun k => (view_left (by omega) (by omega) HR2 k).trans (HV.out k),
            permIn_trans _ _ _ _ _ HP.out (permIn_mono _ _ _ _ _ _ (by omega) (by omega) (by omega) HP2)⟩
      · have b2 : decide ((j : Int) < (i : Int)) = false := decide_eq_false (by omega)
        have e3 : (m : Int) - (i : Int) = ((m - i : Nat) : Int) := by omega
        have e4 : (j : Int) - (i : Int) = ((j - i : Nat) : Int) := by omega
        have e5 : (m : Int) + (j : Int) - (i : Int) = ((m + j - i : Nat) : Int) := by omega
        have hcall := swapRange_any blk off cap (m - i) (m + j - i) i d0 dk w0 wr R (by omega) S1.out (by omega) (by omega) (by omega)
        rw [hdk] at hcall
        clear S1
        go_wp2_with (go_at_call 44; (try rw [e3]); (try rw [e5]); refine hcall.mono ?_; rintro e w1 ⟨rfl, d2, hd2, S2, HR2, HP2⟩)
        go_roundg (gk - i)
        case measure => omega
        case rel =>
          exact ⟨i, j - i, d2, rfl, by first | rfl | rw [e4], by omega, by omega, by omega, by omega, by omega, by omega, S2, fun k => (view_right (by omega) (by omega) HR2 k).trans (HV.out k),
            permIn_trans _ _ _ _ _ HP.out (permIn_mono _ _ _ _ _ _ (by omega) (by omega) (by omega) HP2)⟩
end Sb
end Go.Proofs.Ytnljfhoibkeloaa
