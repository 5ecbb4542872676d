/- The walk of slices.symMergeCmpFunc at float64, the order gauge's. -/
import Derived.Test.YtnljfhoibkeloaaStabW
import Derived.Shelf.SlSortCmp.QuietGrown
namespace Go.Proofs.Ytnljfhoibkeloaa
open Go.RowKit Go.Sort Go.Lib
set_option linter.unusedVariables false
set_option linter.unusedSimpArgs false
namespace Sb
open St
theorem swo_lt : SWO lt := by
  have key : ∀ x y : W64, lt x y = true ↔ (Ga.cls x.1 < Ga.cls y.1 ∨ (Ga.cls x.1 = Ga.cls y.1 ∧ Ga.cls x.1 ≠ 6 ∧ Fl.key x.1 < Fl.key y.1)) := by
    intro x y
    show decide (Ga.ord x.1 y.1 < 0) = true ↔ _
    rw [decide_eq_true_eq]
    unfold Ga.ord Ga.cmpI
    generalize Ga.cls x.1 = p
    generalize Ga.cls y.1 = q
    generalize Fl.key x.1 = r
    generalize Fl.key y.1 = s
    constructor
    · intro h
      (repeat (first | omega | split at h))
    · intro h
      (repeat (first | omega | split))
  have keyf : ∀ x y : W64, lt x y = false ↔ ¬ (Ga.cls x.1 < Ga.cls y.1 ∨ (Ga.cls x.1 = Ga.cls y.1 ∧ Ga.cls x.1 ≠ 6 ∧ Fl.key x.1 < Fl.key y.1)) := by
    intro x y
    rw [← key x y]
    cases lt x y <;> simp
  refine ⟨fun x => (keyf x x).2 (by omega), fun x y z h1 h2 => ?_, fun x y z h1 h2 => ?_⟩
  · rw [key] at *
    omega
  · rw [keyf] at *
    omega
theorem cmp_lays (blk off size : Nat) (w : World) : CmpLays1 Try.prog 29 #[] enc cf blk off size w := by
  intro m os dk _ x y
  refine (Ga.order_any x.1 y.1 x.2 y.2 _).mono ?_
  rintro e w' ⟨rfl, rfl⟩
  exact ⟨rfl, 0, #[], (grow_empty _).symm⟩

set_option maxRecDepth 1000000 in
set_option maxHeartbeats 8000000 in
theorem merge_up (blk off cap a m b : Nat) (d0 d : Array W64) (w0 w : World) (R : Row1 enc w0 blk off d0) (hs : d0.size = d.size) (S : SW enc w0 blk off d w) (ham : a < m) (hm1 : m ≤ a + 1) (hmb : m < b) (hb : b ≤ d.size) (hsz : d.size ≤ 100000) (s2 : SortedIn lt m b d) :
    Calls Try.prog 42 #[.slice (some ⟨blk, off, none⟩) d.size cap, .int .i64 a, .int .i64 m, .int .i64 b, .func (.func 29) #[] #[]] w (MPost w0 blk off a b d) := by
  have hcl0 := R.hO.cells
  simp only [Value.cells] at hcl0
  have hst := R.hO.store Try.prog
  have mixed : Try.prog.follows .mixedOrders = true := by kernel_rfl
  have HC : Aside _ := cmp_lays blk off d0.size w0
  have S0 : Aside (SW enc w0 blk off d w) := S
  have HS2 : Aside (SortedIn lt m b d) := s2
  clear S s2
  have b0 : ((m : Int) - (a : Int) == 1) = true := by rw [beq_iff_eq]; omega
  go_enter Try.func42, Try.ntmps42
  go_wp2_with fail
  go_loopg [10, 11] (b - m) (fun gk si sj wr => ∃ (i j : Nat), si = .int .i64 (i : Int) ∧ sj = .int .i64 (j : Int) ∧ m ≤ i ∧ i ≤ j ∧ j ≤ b ∧ j - i ≤ gk ∧ Aside (SW enc w0 blk off d wr) ∧
    Aside (∀ x, m ≤ x → x < i → lt d[x]! d[a]! = true) ∧ Aside (∀ x, j ≤ x → x < b → lt d[x]! d[a]! = false))
  case atStart => exact ⟨m, b, rfl, rfl, by omega, by omega, by omega, by omega, S0, fun x h h' => by omega, fun x h h' => by omega⟩
  case round =>
    clear S0
    obtain ⟨i, j, rfl, rfl, hmi, hij, hjb, hg, S1, HN, HY⟩ := hrel
    by_cases hlt : i < j
    · have b1 : decide ((i : Int) < (j : Int)) = true := decide_eq_true (by omega)
      obtain ⟨h, hh⟩ : ∃ h, h = (i + j) / 2 := ⟨_, rfl⟩
      have h1 : i ≤ h := by omega
      have h2 : h < j := by omega
      have zh : ((i : Int) + (j : Int)) / 2 = (h : Int) := by omega
      clear hh
      cases hL : lt d[h]! d[a]! with
      | true =>
        obtain ⟨iN1, hiN1⟩ : ∃ q, q = h := ⟨_, rfl⟩
        obtain ⟨jN1, hjN1⟩ : ∃ q, q = a := ⟨_, rfl⟩
        have ea1 : ((h : Int)).toNat = iN1 := by omega
        have pa1 : (0 : Int) ≤ (h : Int) := by omega
        have ba1 : (h : Int) < (d.size : Int) := by omega
        have ra1 : IntKind.i64.wrap ((h : Int)) = (h : Int) := by rw [IntKind.wrap_i64]; omega
        have ec1 : ((a : Int)).toNat = jN1 := by omega
        have pc1 : (0 : Int) ≤ (a : Int) := by omega
        have bc1 : (a : Int) < (d.size : Int) := by omega
        have rc1 : IntKind.i64.wrap ((a : Int)) = (a : Int) := by rw [IntKind.wrap_i64]; omega
        obtain ⟨x1, hx1⟩ : ∃ x, x = d[h]! := ⟨_, rfl⟩
        obtain ⟨y1, hy1⟩ : ∃ x, x = d[a]! := ⟨_, rfl⟩
        have l1a := S1.out.cl R (by omega) (h) (by omega)
        have l1b := S1.out.cl R (by omega) (a) (by omega)
        rw [← hx1, ← hiN1] at l1a
        rw [← hy1, ← hjN1] at l1b
        have hc1 := S1.out.cmp HC.out (by omega) x1 y1
        have hv1 : cf x1 y1 < 0 := by rw [hx1, hy1]; exact of_decide_eq_true hL
        have hd1 : decide (cf x1 y1 < 0) = true := decide_eq_true hv1
        clear hx1 hy1 hiN1 hjN1
        simp only [Array.append_empty] at hc1
        go_wp2_with fail
        go_quiet_grown (first | (go_at_call 29; refine Calls.grown_of (hc1 _ _)))
        have S2 : Aside (SW enc w0 blk off d (grow (wr.drewN nq) osq)) := S1.out.grown nq osq
        clear l1a l1b hc1 S1
        generalize grow (wr.drewN nq) osq = w2 at S2 ⊢
        clear nq osq
        clear ea1 ec1
        go_wp2_with fail
        go_roundg (j - (h + 1))
        case measure => omega
        case rel =>
          refine ⟨h + 1, j, by first | rfl | go_num | (congr 1; omega), rfl, by omega, by omega, by omega, by omega, S2, ?_, HY⟩
          intro x hx hx'
          by_cases e : x = h
          · rw [e]; exact hL
          · cases hq : lt d[x]! d[a]! with
            | true => rfl
            | false =>
              have := swo_lt.ntrans _ _ _ (HS2 x h (by omega) (by omega) (by omega)) hq
              rw [hL] at this; cases this
      | false =>
        obtain ⟨iN2, hiN2⟩ : ∃ q, q = h := ⟨_, rfl⟩
        obtain ⟨jN2, hjN2⟩ : ∃ q, q = a := ⟨_, rfl⟩
        have ea2 : ((h : Int)).toNat = iN2 := by omega
        have pa2 : (0 : Int) ≤ (h : Int) := by omega
        have ba2 : (h : Int) < (d.size : Int) := by omega
        have ra2 : IntKind.i64.wrap ((h : Int)) = (h : Int) := by rw [IntKind.wrap_i64]; omega
        have ec2 : ((a : Int)).toNat = jN2 := by omega
        have pc2 : (0 : Int) ≤ (a : Int) := by omega
        have bc2 : (a : Int) < (d.size : Int) := by omega
        have rc2 : IntKind.i64.wrap ((a : Int)) = (a : Int) := by rw [IntKind.wrap_i64]; omega
        obtain ⟨x2, hx2⟩ : ∃ x, x = d[h]! := ⟨_, rfl⟩
        obtain ⟨y2, hy2⟩ : ∃ x, x = d[a]! := ⟨_, rfl⟩
        have l2a := S1.out.cl R (by omega) (h) (by omega)
        have l2b := S1.out.cl R (by omega) (a) (by omega)
        rw [← hx2, ← hiN2] at l2a
        rw [← hy2, ← hjN2] at l2b
        have hc2 := S1.out.cmp HC.out (by omega) x2 y2
        have hv2 : ¬ cf x2 y2 < 0 := by rw [hx2, hy2]; exact of_decide_eq_false hL
        have hd2 : decide (cf x2 y2 < 0) = false := decide_eq_false hv2
        clear hx2 hy2 hiN2 hjN2
        simp only [Array.append_empty] at hc2
        go_wp2_with fail
        go_quiet_grown (first | (go_at_call 29; refine Calls.grown_of (hc2 _ _)))
        have S2 : Aside (SW enc w0 blk off d (grow (wr.drewN nq) osq)) := S1.out.grown nq osq
        clear l2a l2b hc2 S1
        generalize grow (wr.drewN nq) osq = w2 at S2 ⊢
        clear nq osq
        clear ea2 ec2
        go_wp2_with fail
        go_roundg (h - i)
        case measure => omega
        case rel =>
          refine ⟨i, h, rfl, by first | rfl | go_num | (congr 1; omega), by omega, by omega, by omega, by omega, S2, HN, ?_⟩
          intro x hx hx'
          by_cases e : x = h
          · rw [e]; exact hL
          · exact swo_lt.ntrans _ _ _ (HS2 h x (by omega) (by omega) (by omega)) hL
    · have b1 : decide ((i : Int) < (j : Int)) = false := decide_eq_false (by omega)
      obtain rfl : i = j := by omega
      go_wp2_with fail
      go_loopg [13] (i - 1 - a) (fun gk sk wr2 => ∃ (k : Nat) (dk : Array W64), sk = .int .i64 (k : Int) ∧ a ≤ k ∧ k + gk = i - 1 ∧ dk.size = d.size ∧ Aside (SW enc w0 blk off dk wr2) ∧ Aside (Up a k d dk) ∧ Aside (PermIn a b d dk))
      case atStart => exact ⟨a, d, rfl, Nat.le_refl _, by omega, rfl, S1, Up.start _ _, permIn_refl _ _ _⟩
      case round =>
        clear S1
        obtain ⟨k, dk, rfl, hak, hk, hdk, S2, HU, HP⟩ := hrel
        by_cases hlk : k + 1 < i
        · have b2 : decide ((k : Int) < (i : Int) - 1) = true := decide_eq_true (by omega)
          obtain ⟨g', rfl⟩ : ∃ g', gk = g' + 1 := ⟨gk - 1, by omega⟩
          go_wp2_with fail
          obtain ⟨iN3, hiN3⟩ : ∃ q, q = k := ⟨_, rfl⟩
          obtain ⟨jN3, hjN3⟩ : ∃ q, q = k + 1 := ⟨_, rfl⟩
          have ea3 : ((k : Int)).toNat = iN3 := by omega
          have pa3 : (0 : Int) ≤ (k : Int) := by omega
          have ba3 : (k : Int) < (d.size : Int) := by omega
          have ra3 : IntKind.i64.wrap ((k : Int)) = (k : Int) := by rw [IntKind.wrap_i64]; omega
          have ec3 : ((k : Int) + 1).toNat = jN3 := by omega
          have pc3 : (0 : Int) ≤ (k : Int) + 1 := by omega
          have bc3 : (k : Int) + 1 < (d.size : Int) := by omega
          have rc3 : IntKind.i64.wrap ((k : Int) + 1) = (k : Int) + 1 := by rw [IntKind.wrap_i64]; omega
          obtain ⟨x3, hx3⟩ : ∃ x, x = dk[k]! := ⟨_, rfl⟩
          obtain ⟨y3, hy3⟩ : ∃ x, x = dk[k + 1]! := ⟨_, rfl⟩
          have S3 : Aside (SW enc w0 blk off (swp dk (k) (k + 1)) ((wr.setCell ⟨blk, off + iN3, none⟩ (enc y3)).setCell ⟨blk, off + jN3, none⟩ (enc x3)).drew) := by rw [hiN3, hjN3, hx3, hy3]; exact S2.out.swapped R (k) (k + 1) (by omega) (by omega)
          have c3a := S2.out.c1 R (by omega) (k) (by omega)
          have c3b := S2.out.c1 R (by omega) (k + 1) (by omega)
          have f3a := S2.out.f1 R (by omega) (k) (by omega)
          have f3b := S2.out.f1 R (by omega) (k + 1) (by omega)
          obtain ⟨u3, c3c⟩ := S2.out.c2 R (by omega) (k) (k + 1) (by omega) (by omega) (enc y3)
          rw [← hjN3, ← hiN3] at c3c
          rw [← hx3, ← hiN3] at c3a
          rw [← hy3, ← hjN3] at c3b
          rw [← hiN3] at f3a
          rw [← hjN3] at f3b
          clear S2 hx3 hy3 hiN3 hjN3
          go_wp2_with fail
          go_region
          clear c3a c3b c3c f3a f3b
          generalize ((wr.setCell ⟨blk, off + iN3, none⟩ (enc y3)).setCell ⟨blk, off + jN3, none⟩ (enc x3)).drew = w3 at S3 ⊢
          clear ea3 ec3
          go_wp2_with fail
          go_roundg g'
          case measure => omega
          case rel =>
            exact ⟨k + 1, swp dk k (k + 1), by first | rfl | go_num | (congr 1; omega), by omega, by omega, by rw [size_swp]; exact hdk, S3, HU.out.step hak (by omega),
              permIn_trans _ _ _ _ _ HP.out (swp_permIn _ _ _ _ _ (by omega) (by omega) (by omega) (by omega) (by omega))⟩
        · have b2 : decide ((k : Int) < (i : Int) - 1) = false := decide_eq_false (by omega)
          obtain rfl : k = i - 1 := by omega
          go_wp2_with fail
          (try simp only [Exit.inBlock, Exit.then])
          refine bodyPost_ret (results_none rfl _ _ _) rfl ?_
          refine ⟨rfl, dk, hdk, S2.out, HP.out, ?_⟩
          exact up_sorted swo_lt (srt_sub HS2.out (by omega) (Nat.le_refl _)) (by omega) (by omega) (fun x h h' => HN x (by omega) h') (fun x h h' => HY x h h') HU.out

set_option maxRecDepth 1000000 in
set_option maxHeartbeats 8000000 in
theorem merge_down (blk off cap a m b : Nat) (d0 d : Array W64) (w0 w : World) (R : Row1 enc w0 blk off d0) (hs : d0.size = d.size) (S : SW enc w0 blk off d w) (ham : a + 1 < m) (hmb : m < b) (hm1 : b ≤ m + 1) (hb : b ≤ d.size) (hsz : d.size ≤ 100000) (s1 : SortedIn lt a m d) :
    Calls Try.prog 42 #[.slice (some ⟨blk, off, none⟩) d.size cap, .int .i64 a, .int .i64 m, .int .i64 b, .func (.func 29) #[] #[]] w (MPost w0 blk off a b d) := by
  have hcl0 := R.hO.cells
  simp only [Value.cells] at hcl0
  have hst := R.hO.store Try.prog
  have mixed : Try.prog.follows .mixedOrders = true := by kernel_rfl
  have HC : Aside _ := cmp_lays blk off d0.size w0
  have S0 : Aside (SW enc w0 blk off d w) := S
  have HS1 : Aside (SortedIn lt a m d) := s1
  clear S s1
  have b0 : ((m : Int) - (a : Int) == 1) = false := by rw [beq_eq_false_iff_ne]; omega
  have b00 : ((b : Int) - (m : Int) == 1) = true := by rw [beq_iff_eq]; omega
  go_enter Try.func42, Try.ntmps42
  go_wp2_with fail
  go_loopg [14, 15] (m - a) (fun gk si sj wr => ∃ (i j : Nat), si = .int .i64 (i : Int) ∧ sj = .int .i64 (j : Int) ∧ a ≤ i ∧ i ≤ j ∧ j ≤ m ∧ j - i ≤ gk ∧ Aside (SW enc w0 blk off d wr) ∧
    Aside (∀ x, a ≤ x → x < i → lt d[m]! d[x]! = false) ∧ Aside (∀ x, j ≤ x → x < m → lt d[m]! d[x]! = true))
  case atStart => exact ⟨a, m, rfl, rfl, by omega, by omega, by omega, by omega, S0, fun x h h' => by omega, fun x h h' => by omega⟩
  case round =>
    clear S0
    obtain ⟨i, j, rfl, rfl, hmi, hij, hjb, hg, S1, HN, HY⟩ := hrel
    by_cases hlt : i < j
    · have b1 : decide ((i : Int) < (j : Int)) = true := decide_eq_true (by omega)
      obtain ⟨h, hh⟩ : ∃ h, h = (i + j) / 2 := ⟨_, rfl⟩
      have h1 : i ≤ h := by omega
      have h2 : h < j := by omega
      have zh : ((i : Int) + (j : Int)) / 2 = (h : Int) := by omega
      clear hh
      cases hL : lt d[m]! d[h]! with
      | true =>
        obtain ⟨iN4, hiN4⟩ : ∃ q, q = m := ⟨_, rfl⟩
        obtain ⟨jN4, hjN4⟩ : ∃ q, q = h := ⟨_, rfl⟩
        have ea4 : ((m : Int)).toNat = iN4 := by omega
        have pa4 : (0 : Int) ≤ (m : Int) := by omega
        have ba4 : (m : Int) < (d.size : Int) := by omega
        have ra4 : IntKind.i64.wrap ((m : Int)) = (m : Int) := by rw [IntKind.wrap_i64]; omega
        have ec4 : ((h : Int)).toNat = jN4 := by omega
        have pc4 : (0 : Int) ≤ (h : Int) := by omega
        have bc4 : (h : Int) < (d.size : Int) := by omega
        have rc4 : IntKind.i64.wrap ((h : Int)) = (h : Int) := by rw [IntKind.wrap_i64]; omega
        obtain ⟨x4, hx4⟩ : ∃ x, x = d[m]! := ⟨_, rfl⟩
        obtain ⟨y4, hy4⟩ : ∃ x, x = d[h]! := ⟨_, rfl⟩
        have l4a := S1.out.cl R (by omega) (m) (by omega)
        have l4b := S1.out.cl R (by omega) (h) (by omega)
        rw [← hx4, ← hiN4] at l4a
        rw [← hy4, ← hjN4] at l4b
        have hc4 := S1.out.cmp HC.out (by omega) x4 y4
        have hv4 : cf x4 y4 < 0 := by rw [hx4, hy4]; exact of_decide_eq_true hL
        have hd4 : decide (cf x4 y4 < 0) = true := decide_eq_true hv4
        clear hx4 hy4 hiN4 hjN4
        simp only [Array.append_empty] at hc4
        go_wp2_with fail
        go_quiet_grown (first | (go_at_call 29; refine Calls.grown_of (hc4 _ _)))
        have S2 : Aside (SW enc w0 blk off d (grow (wr.drewN nq) osq)) := S1.out.grown nq osq
        clear l4a l4b hc4 S1
        generalize grow (wr.drewN nq) osq = w2 at S2 ⊢
        clear nq osq
        clear ea4 ec4
        go_wp2_with fail
        go_roundg (h - i)
        case measure => omega
        case rel =>
          refine ⟨i, h, rfl, by first | rfl | go_num | (congr 1; omega), by omega, by omega, by omega, by omega, S2, HN, ?_⟩
          intro x hx hx'
          by_cases e : x = h
          · rw [e]; exact hL
          · cases hq : lt d[m]! d[x]! with
            | true => rfl
            | false =>
              have := swo_lt.ntrans _ _ _ hq (HS1 h x (by omega) (by omega) (by omega))
              rw [hL] at this; cases this
      | false =>
        obtain ⟨iN5, hiN5⟩ : ∃ q, q = m := ⟨_, rfl⟩
        obtain ⟨jN5, hjN5⟩ : ∃ q, q = h := ⟨_, rfl⟩
        have ea5 : ((m : Int)).toNat = iN5 := by omega
        have pa5 : (0 : Int) ≤ (m : Int) := by omega
        have ba5 : (m : Int) < (d.size : Int) := by omega
        have ra5 : IntKind.i64.wrap ((m : Int)) = (m : Int) := by rw [IntKind.wrap_i64]; omega
        have ec5 : ((h : Int)).toNat = jN5 := by omega
        have pc5 : (0 : Int) ≤ (h : Int) := by omega
        have bc5 : (h : Int) < (d.size : Int) := by omega
        have rc5 : IntKind.i64.wrap ((h : Int)) = (h : Int) := by rw [IntKind.wrap_i64]; omega
        obtain ⟨x5, hx5⟩ : ∃ x, x = d[m]! := ⟨_, rfl⟩
        obtain ⟨y5, hy5⟩ : ∃ x, x = d[h]! := ⟨_, rfl⟩
        have l5a := S1.out.cl R (by omega) (m) (by omega)
        have l5b := S1.out.cl R (by omega) (h) (by omega)
        rw [← hx5, ← hiN5] at l5a
        rw [← hy5, ← hjN5] at l5b
        have hc5 := S1.out.cmp HC.out (by omega) x5 y5
        have hv5 : ¬ cf x5 y5 < 0 := by rw [hx5, hy5]; exact of_decide_eq_false hL
        have hd5 : decide (cf x5 y5 < 0) = false := decide_eq_false hv5
        clear hx5 hy5 hiN5 hjN5
        simp only [Array.append_empty] at hc5
        go_wp2_with fail
        go_quiet_grown (first | (go_at_call 29; refine Calls.grown_of (hc5 _ _)))
        have S2 : Aside (SW enc w0 blk off d (grow (wr.drewN nq) osq)) := S1.out.grown nq osq
        clear l5a l5b hc5 S1
        generalize grow (wr.drewN nq) osq = w2 at S2 ⊢
        clear nq osq
        clear ea5 ec5
        go_wp2_with fail
        go_roundg (j - (h + 1))
        case measure => omega
        case rel =>
          refine ⟨h + 1, j, by first | rfl | go_num | (congr 1; omega), rfl, by omega, by omega, by omega, by omega, S2, ?_, HY⟩
          intro x hx hx'
          by_cases e : x = h
          · rw [e]; exact hL
          · exact swo_lt.ntrans _ _ _ hL (HS1 x h (by omega) (by omega) (by omega))
    · have b1 : decide ((i : Int) < (j : Int)) = false := decide_eq_false (by omega)
      obtain rfl : i = j := by omega
      go_wp2_with fail
      go_loopg [17] (m - i) (fun gk sk wr2 => ∃ (k : Nat) (dk : Array W64), sk = .int .i64 (k : Int) ∧ k ≤ m ∧ k ≤ i + gk ∧ i ≤ k ∧ dk.size = d.size ∧ Aside (SW enc w0 blk off dk wr2) ∧ Aside (Down m k d dk) ∧ Aside (PermIn a b d dk))
      case atStart => exact ⟨m, d, rfl, Nat.le_refl _, by omega, by omega, rfl, S1, Down.start _ _, permIn_refl _ _ _⟩
      case round =>
        clear S1
        obtain ⟨k, dk, rfl, hak, hk, hik, hdk, S2, HU, HP⟩ := hrel
        by_cases hlk : i < k
        · obtain ⟨kp, hkp⟩ : ∃ q, q + 1 = k := ⟨k - 1, by omega⟩
          have b2 : decide ((i : Int) < (kp : Int) + 1) = true := decide_eq_true (by omega)
          have zk : (k : Int) = (kp : Int) + 1 := by omega
          obtain ⟨g', rfl⟩ : ∃ g', gk = g' + 1 := ⟨gk - 1, by omega⟩
          go_wp2_with fail
          obtain ⟨iN6, hiN6⟩ : ∃ q, q = k := ⟨_, rfl⟩
          obtain ⟨jN6, hjN6⟩ : ∃ q, q = k - 1 := ⟨_, rfl⟩
          have ea6 : ((kp : Int) + 1).toNat = iN6 := by omega
          have pa6 : (0 : Int) ≤ (kp : Int) + 1 := by omega
          have ba6 : (kp : Int) + 1 < (d.size : Int) := by omega
          have ra6 : IntKind.i64.wrap ((kp : Int) + 1) = (kp : Int) + 1 := by rw [IntKind.wrap_i64]; omega
          have ec6 : ((kp : Int)).toNat = jN6 := by omega
          have pc6 : (0 : Int) ≤ (kp : Int) := by omega
          have bc6 : (kp : Int) < (d.size : Int) := by omega
          have rc6 : IntKind.i64.wrap ((kp : Int)) = (kp : Int) := by rw [IntKind.wrap_i64]; omega
          obtain ⟨x6, hx6⟩ : ∃ x, x = dk[k]! := ⟨_, rfl⟩
          obtain ⟨y6, hy6⟩ : ∃ x, x = dk[k - 1]! := ⟨_, rfl⟩
          have S3 : Aside (SW enc w0 blk off (swp dk (k) (k - 1)) ((wr.setCell ⟨blk, off + iN6, none⟩ (enc y6)).setCell ⟨blk, off + jN6, none⟩ (enc x6)).drew) := by rw [hiN6, hjN6, hx6, hy6]; exact S2.out.swapped R (k) (k - 1) (by omega) (by omega)
          have c6a := S2.out.c1 R (by omega) (k) (by omega)
          have c6b := S2.out.c1 R (by omega) (k - 1) (by omega)
          have f6a := S2.out.f1 R (by omega) (k) (by omega)
          have f6b := S2.out.f1 R (by omega) (k - 1) (by omega)
          obtain ⟨u6, c6c⟩ := S2.out.c2 R (by omega) (k) (k - 1) (by omega) (by omega) (enc y6)
          rw [← hjN6, ← hiN6] at c6c
          rw [← hx6, ← hiN6] at c6a
          rw [← hy6, ← hjN6] at c6b
          rw [← hiN6] at f6a
          rw [← hjN6] at f6b
          clear S2 hx6 hy6 hiN6 hjN6
          go_wp2_with fail
          go_region
          clear c6a c6b c6c f6a f6b
          generalize ((wr.setCell ⟨blk, off + iN6, none⟩ (enc y6)).setCell ⟨blk, off + jN6, none⟩ (enc x6)).drew = w3 at S3 ⊢
          clear ea6 ec6
          go_wp2_with fail
          go_roundg g'
          case measure => omega
          case rel =>
            have hU := HU.out
            rw [← hkp] at hU
            refine ⟨k - 1, swp dk k (k - 1), by first | rfl | go_num | (congr 1; omega), by omega, by omega, by omega, by rw [size_swp]; exact hdk, S3, ?_,
              permIn_trans _ _ _ _ _ HP.out (swp_permIn _ _ _ _ _ (by omega) (by omega) (by omega) (by omega) (by omega))⟩
            rw [← hkp, Nat.add_sub_cancel]
            exact hU.step (by omega) (by omega)
        · have b2 : decide ((i : Int) < (k : Int)) = false := decide_eq_false (by omega)
          obtain rfl : i = k := by omega
          go_wp2_with fail
          (try simp only [Exit.inBlock, Exit.then])
          refine bodyPost_ret (results_none rfl _ _ _) rfl ?_
          refine ⟨rfl, dk, hdk, S2.out, HP.out, ?_⟩
          obtain rfl : b = m + 1 := by omega
          exact down_sorted swo_lt HS1.out (by omega) (by omega) (fun x h h' => HN x h h') (fun x h h' => HY x h h') HU.out
end Sb
end Go.Proofs.Ytnljfhoibkeloaa
