/- The walk of slices.symMergeCmpFunc's recursion at float64, the order gauge's. -/
import Derived.Test.YtnljfhoibkeloaaStabU
import Derived.Deep.DeepCutAuto
namespace Go.Proofs.Ytnljfhoibkeloaa
open Go.RowKit Go.Sort Go.Lib
set_option linter.unusedVariables false
set_option linter.unusedSimpArgs false
namespace Sb
open St

set_option maxRecDepth 1000000 in
set_option maxHeartbeats 16000000 in
theorem merge_small (blk off cap a m b : Nat) (d0 d : Array W64) (w0 w : World) (R : Row1 enc w0 blk off d0) (N : Nat) (hI : Upto blk off cap d0 w0 N) (hN : b - a ≤ N + 1) (hs : d0.size = d.size) (S : SW enc w0 blk off d w) (ham : a + 1 < m) (hmb : m + 1 < b) (hb : b ≤ d.size) (hsz : d.size ≤ 100000)
    (s1 : SortedIn lt a m d) (s2 : SortedIn lt m b d) (mid : Nat) (hmid : mid = (a + b) / 2) (hc : m ≤ mid) :
    Calls Try.prog 42 #[.slice (some ⟨blk, off, none⟩) d.size cap, .int .i64 a, .int .i64 m, .int .i64 b, .func (.func 29) #[] #[]] w (MPost w0 blk off a b d) := by
  have hcl0 := R.hO.cells
  simp only [Value.cells] at hcl0
  have hst := R.hO.store Try.prog
  have mixed : Try.prog.follows .mixedOrders = true := by kernel_rfl
  have HC : Aside _ := cmp_lays blk off d0.size w0
  have S0 : Aside (SW enc w0 blk off d w) := S
  have HS1 : Aside (SortedIn lt a m d) := s1
  have HS2 : Aside (SortedIn lt m b d) := s2
  have HI : Aside (Upto blk off cap d0 w0 N) := hI
  clear S s1 s2 hI
  have b0 : ((m : Int) - (a : Int) == 1) = false := by rw [beq_eq_false_iff_ne]; omega
  have b00 : ((b : Int) - (m : Int) == 1) = false := by rw [beq_eq_false_iff_ne]; omega
  have zm : ((a : Int) + (b : Int)) / 2 = (mid : Int) := by omega
  have b000 : decide ((mid : Int) < (m : Int)) = false := decide_eq_false (by omega)
  have b001 : decide (mid < m) = false := decide_eq_false (by omega)
  have hmd1 : a + b ≤ 2 * mid + 1 := by omega
  have hmd2 : 2 * mid ≤ a + b := by omega
  have HM := Lib.hid hmid
  clear hmid
  go_enter Try.func42, Try.ntmps42
  go_wp2_with fail
  go_loopg [20, 21] (m - a) (fun gk si sr wr => ∃ (s r : Nat), si = .int .i64 (s : Int) ∧ sr = .int .i64 (r : Int) ∧ a ≤ s ∧ s ≤ r ∧ r ≤ m ∧ r - s ≤ gk ∧ Aside (SW enc w0 blk off d wr) ∧
    Aside (∀ x, a ≤ x → x < s → lt d[(a + b) / 2 + m - 1 - x]! d[x]! = false) ∧ Aside (∀ x, r ≤ x → x < m → lt d[(a + b) / 2 + m - 1 - x]! d[x]! = true))
  case atStart => exact ⟨a, m, by first | rfl | rw [zlo], rfl, by omega, by omega, by omega, by omega, S0, fun x h h' => by omega, fun x h h' => by omega⟩
  case round =>
    clear S0
    obtain ⟨s, r, rfl, rfl, hlo, hsr, hr, hg, S1, HN, HY⟩ := hrel
    by_cases hlt : s < r
    · have b1 : decide ((s : Int) < (r : Int)) = true := decide_eq_true (by omega)
      obtain ⟨c, hcc⟩ : ∃ c, c = (s + r) / 2 := ⟨_, rfl⟩
      have h1 : s ≤ c := by omega
      have h2 : c < r := by omega
      have zc : ((s : Int) + (r : Int)) / 2 = (c : Int) := by omega
      clear hcc
      obtain ⟨pc, hpc⟩ : ∃ q, q = (a + b) / 2 + m - 1 - c := ⟨_, rfl⟩
      have hMo := HM.out
      
      have zpc : (mid : Int) + (m : Int) - 1 - (c : Int) = (pc : Int) := by omega
      have zpw : IntKind.i64.wrap ((mid : Int) + (m : Int) - 1 - (c : Int)) = (pc : Int) := by rw [IntKind.wrap_i64]; omega
      have hpb : pc < b := by omega
      have hpn : (a + b) / 2 + m ≤ c + b := by omega
      have hpm : m + c + 1 ≤ (a + b) / 2 + m := by omega
      have HP := Lib.hid hpc
      clear hpc hMo 
      cases hL : lt d[pc]! d[c]! with
      | false =>
        as_aux_lemma =>
        obtain ⟨iN103, hiN103⟩ : ∃ q, q = pc := ⟨_, rfl⟩
        obtain ⟨jN103, hjN103⟩ : ∃ q, q = c := ⟨_, rfl⟩
        have ea103 : ((pc : Int)).toNat = iN103 := by omega
        have pa103 : (0 : Int) ≤ (pc : Int) := by omega
        have ba103 : (pc : Int) < (d.size : Int) := by omega
        have ra103 : IntKind.i64.wrap ((pc : Int)) = (pc : Int) := by rw [IntKind.wrap_i64]; omega
        have ec103 : ((c : Int)).toNat = jN103 := by omega
        have pc103 : (0 : Int) ≤ (c : Int) := by omega
        have bc103 : (c : Int) < (d.size : Int) := by omega
        have rc103 : IntKind.i64.wrap ((c : Int)) = (c : Int) := by rw [IntKind.wrap_i64]; omega
        obtain ⟨x103, hx103⟩ : ∃ x, x = d[pc]! := ⟨_, rfl⟩
        obtain ⟨y103, hy103⟩ : ∃ x, x = d[c]! := ⟨_, rfl⟩
        have l103a := S1.out.cl R (by omega) (pc) (by omega)
        have l103b := S1.out.cl R (by omega) (c) (by omega)
        rw [← hx103, ← hiN103] at l103a
        rw [← hy103, ← hjN103] at l103b
        have hc103 := S1.out.cmp HC.out (by omega) x103 y103
        have hv103 : ¬ cf x103 y103 < 0 := by rw [hx103, hy103]; exact of_decide_eq_false hL
        have hd103 : decide (cf x103 y103 < 0) = false := decide_eq_false hv103
        clear hx103 hy103 hiN103 hjN103
        simp only [Array.append_empty] at hc103
        go_wp2_with fail
        go_quiet_grown (first | (go_at_call 29; refine Calls.grown_of (hc103 _ _)))
        have S2 : Aside (SW enc w0 blk off d (grow (wr.drewN nq) osq)) := S1.out.grown nq osq
        clear l103a l103b hc103 S1
        generalize grow (wr.drewN nq) osq = w2 at S2 ⊢
        clear nq osq
        clear ea103 ec103
        go_wp2_with fail
        go_roundg (r - (c + 1))
        case measure => omega
        case rel =>
          refine ⟨c + 1, r, by first | rfl | go_num | (congr 1; omega), rfl, by omega, by omega, by omega, by omega, S2, ?_, HY⟩
          intro x hx hx'
          rw [HP.out] at hL hpb
          exact search_no swo_lt HS1.out HS2.out (by omega) hpb hL x (by omega) (by omega) (by omega) hpm
      | true =>
        as_aux_lemma =>
        obtain ⟨iN104, hiN104⟩ : ∃ q, q = pc := ⟨_, rfl⟩
        obtain ⟨jN104, hjN104⟩ : ∃ q, q = c := ⟨_, rfl⟩
        have ea104 : ((pc : Int)).toNat = iN104 := by omega
        have pa104 : (0 : Int) ≤ (pc : Int) := by omega
        have ba104 : (pc : Int) < (d.size : Int) := by omega
        have ra104 : IntKind.i64.wrap ((pc : Int)) = (pc : Int) := by rw [IntKind.wrap_i64]; omega
        have ec104 : ((c : Int)).toNat = jN104 := by omega
        have pc104 : (0 : Int) ≤ (c : Int) := by omega
        have bc104 : (c : Int) < (d.size : Int) := by omega
        have rc104 : IntKind.i64.wrap ((c : Int)) = (c : Int) := by rw [IntKind.wrap_i64]; omega
        obtain ⟨x104, hx104⟩ : ∃ x, x = d[pc]! := ⟨_, rfl⟩
        obtain ⟨y104, hy104⟩ : ∃ x, x = d[c]! := ⟨_, rfl⟩
        have l104a := S1.out.cl R (by omega) (pc) (by omega)
        have l104b := S1.out.cl R (by omega) (c) (by omega)
        rw [← hx104, ← hiN104] at l104a
        rw [← hy104, ← hjN104] at l104b
        have hc104 := S1.out.cmp HC.out (by omega) x104 y104
        have hv104 : cf x104 y104 < 0 := by rw [hx104, hy104]; exact of_decide_eq_true hL
        have hd104 : decide (cf x104 y104 < 0) = true := decide_eq_true hv104
        clear hx104 hy104 hiN104 hjN104
        simp only [Array.append_empty] at hc104
        go_wp2_with fail
        go_quiet_grown (first | (go_at_call 29; refine Calls.grown_of (hc104 _ _)))
        have S2 : Aside (SW enc w0 blk off d (grow (wr.drewN nq) osq)) := S1.out.grown nq osq
        clear l104a l104b hc104 S1
        generalize grow (wr.drewN nq) osq = w2 at S2 ⊢
        clear nq osq
        clear ea104 ec104
        go_wp2_with fail
        go_roundg (c - s)
        case measure => omega
        case rel =>
          refine ⟨s, c, rfl, by first | rfl | go_num | (congr 1; omega), by omega, by omega, by omega, by omega, S2, HN, ?_⟩
          intro x hx hx'
          rw [HP.out] at hL
          exact search_yes swo_lt HS1.out HS2.out (by omega) hL x hx (by omega) (by have := HM.out; omega) hpn
    · have b1 : decide ((s : Int) < (r : Int)) = false := decide_eq_false (by omega)
      obtain rfl : s = r := by omega
      have hrm : m ≤ m := by omega
      have hal : a ≤ a := by omega
      have hMo := HM.out
      
      have hl0 : a = a ∨ a + b = (a + b) / 2 + m := by omega
      have hr0 : m = m ∨ m + m = (a + b) / 2 + m := by omega
      have hlb : (a + b) / 2 + m ≤ a + b := by omega
      have hrb : m + m ≤ (a + b) / 2 + m := by omega
      obtain ⟨HC1, HC2⟩ := search_done swo_lt HS1.out HS2.out (by omega) (by omega) hlo hr hrm hal rfl hl0 hr0 hlb hrb HN.out HY.out
      obtain ⟨e, he⟩ : ∃ e, (a + b) / 2 + m - s = e := ⟨_, rfl⟩
      rw [he] at HC1 HC2
      have zen : (mid : Int) + (m : Int) - (s : Int) = (e : Int) := by omega
      have hes : e + s = mid + m := by omega
      have he1 : m ≤ e := by omega
      have he2 : e ≤ b := by omega
      have hs1 : a ≤ s := by omega
      have hs2 : s ≤ m := by omega
      have hsm : s ≤ mid := by omega
      have hme : mid ≤ e := by omega
      have hbd : a ≤ mid ∧ mid ≤ b := by omega
      clear he hl0 hr0 hlb hrb hMo
      have FIN := Lib.hid (fun (d1 : Array W64) (RR : Rot s m e d d1) => merge_cut HS1.out HS2.out hes hs1 hs2 he1 he2 HC1 HC2 swo_lt.irrefl RR)
      have HES := Lib.hid hes
      have HBD := Lib.hid hbd
      clear HC1 HC2 HN HY hes hbd hlt
      go_upto_region 39 with (fail)
      go_cut [185] (fun sb wx => sb = .bool (decide (s < m ∧ m < e)) ∧ wr = wx)
      case first =>
        as_aux_lemma =>
        by_cases q1 : s < m
        · have r1 : decide ((s : Int) < (m : Int)) = true := decide_eq_true (by omega)
          by_cases q2 : m < e
          · have r2 : decide ((m : Int) < (e : Int)) = true := decide_eq_true (by omega)
            have hq : decide (s < m ∧ m < e) = true := decide_eq_true ⟨q1, q2⟩
            go_wp2_with fail
            go_meet
            exact ⟨by first | rfl | rw [hq], rfl⟩
          · have r2 : decide ((m : Int) < (e : Int)) = false := decide_eq_false (by omega)
            have hq : decide (s < m ∧ m < e) = false := decide_eq_false (fun h => q2 h.2)
            go_wp2_with fail
            go_meet
            exact ⟨by first | rfl | rw [hq], rfl⟩
        · have r1 : decide ((s : Int) < (m : Int)) = false := decide_eq_false (by omega)
          have hq : decide (s < m ∧ m < e) = false := decide_eq_false (fun h => q1 h.1)
          go_wp2_with fail
          go_meet
          exact ⟨by first | rfl | rw [hq], rfl⟩
      case rest =>
        as_aux_lemma =>
        obtain ⟨rfl, rfl⟩ := hcut
        go_upto_if 185 with (fail)
        go_cut [] (fun wx => ∃ d1 : Array W64, Aside (SW enc w0 blk off d1 wx) ∧ d1.size = d.size ∧ Aside (Rot s m e d d1))
        case first =>
          as_aux_lemma =>
          by_cases q : s < m ∧ m < e
          · have hq : decide (s < m ∧ m < e) = true := decide_eq_true q
            have hcall := rotate_any blk off cap s m e d0 d w0 wr R hs S1.out q.1 q.2 (by omega) hsz
            clear S1
            go_wp2_with (go_at_call 43; refine hcall.mono ?_; rintro e1 w1 ⟨rfl, d1, hd1, S1, RR⟩)
            go_meet
            exact ⟨d1, S1, hd1, RR⟩
          · have hq : decide (s < m ∧ m < e) = false := decide_eq_false q
            go_wp2_with fail
            go_meet
            refine ⟨d, S1, rfl, ?_⟩
            by_cases q1 : s < m
            · obtain rfl : m = e := by omega
              exact Rot.refl_right _ _ _
            · obtain rfl : s = m := by omega
              exact Rot.refl_left _ _ _
        case rest =>
          as_aux_lemma =>
          clear S1
          obtain ⟨d1, S1, hd1, RR⟩ := hcut
          obtain ⟨t1, t2, t3, t4, tc⟩ := FIN.out d1 RR.out
          have TC := Lib.hid tc
          have T1 := Lib.hid t1
          have T2 := Lib.hid t2
          have T3 := Lib.hid t3
          have T4 := Lib.hid t4
          clear t1 t2 t3 t4 tc FIN
          obtain ⟨wa, rfl⟩ : ∃ wa : World, wa = wc := ⟨_, rfl⟩
          go_upto_region 41 with (fail)
          go_cut [199] (fun sb wx => sb = .bool (decide (a < s ∧ s < mid)) ∧ wa = wx)
          case first =>
            as_aux_lemma =>
            by_cases q1 : a < s
            · have r1 : decide ((a : Int) < (s : Int)) = true := decide_eq_true (by omega)
              by_cases q2 : s < mid
              · have r2 : decide ((s : Int) < (mid : Int)) = true := decide_eq_true (by omega)
                have hq : decide (a < s ∧ s < mid) = true := decide_eq_true ⟨q1, q2⟩
                go_wp2_with fail
                go_meet
                exact ⟨by first | rfl | rw [hq], rfl⟩
              · have r2 : decide ((s : Int) < (mid : Int)) = false := decide_eq_false (by omega)
                have hq : decide (a < s ∧ s < mid) = false := decide_eq_false (fun h => q2 h.2)
                go_wp2_with fail
                go_meet
                exact ⟨by first | rfl | rw [hq], rfl⟩
            · have r1 : decide ((a : Int) < (s : Int)) = false := decide_eq_false (by omega)
              have hq : decide (a < s ∧ s < mid) = false := decide_eq_false (fun h => q1 h.1)
              go_wp2_with fail
              go_meet
              exact ⟨by first | rfl | rw [hq], rfl⟩
          case rest =>
            as_aux_lemma =>
            obtain ⟨rfl, rfl⟩ := hcut
            go_upto_if 199 with (fail)
            go_cut [] (fun wx => ∃ d2 : Array W64, Aside (SW enc w0 blk off d2 wx) ∧ d2.size = d1.size ∧ Aside (PermIn a mid d1 d2) ∧ Aside (SortedIn lt a mid d2))
            case first =>
              as_aux_lemma =>
              by_cases q : a < s ∧ s < mid
              · have hq : decide (a < s ∧ s < mid) = true := decide_eq_true q
                have hcall := HI.out a s mid d1 wa (by have := HES.out; omega) (by omega) S1 q.1 q.2 (by have := HBD.out; omega) (by omega) T1.out T2.out
                rw [hd1] at hcall
                clear S1
                go_wp2_with (go_at_call 42; refine hcall.mono ?_; rintro e1 w2 ⟨rfl, d2, hd2, S2, P2, Q2⟩)
                go_meet
                exact ⟨d2, S2, hd2, P2, Q2⟩
              · have hq : decide (a < s ∧ s < mid) = false := decide_eq_false q
                go_wp2_with fail
                go_meet
                refine ⟨d1, S1, rfl, permIn_refl _ _ _, ?_⟩
                by_cases q1 : a < s
                · obtain rfl : s = mid := by omega
                  exact T1.out
                · obtain rfl : a = s := by omega
                  exact T2.out
            case rest =>
              as_aux_lemma =>
              clear S1
              obtain ⟨d2, S2, hd2, P2, Q2⟩ := hcut
              obtain ⟨wb, rfl⟩ : ∃ wb : World, wb = wc := ⟨_, rfl⟩
              have T3' : Aside (SortedIn lt mid e d2) := srt_congr T3.out fun p hp _ => P2.out.2.1 p (.inr hp)
              have T4' : Aside (SortedIn lt e b d2) := srt_congr T4.out fun p hp _ => P2.out.2.1 p (.inr (by omega))
              have hd : d2.size = d.size := by omega
              by_cases q1 : mid < e
              · have r1 : decide ((mid : Int) < (e : Int)) = true := decide_eq_true (by omega)
                by_cases q2 : e < b
                · have r2 : decide ((e : Int) < (b : Int)) = true := decide_eq_true (by omega)
                  have hcall := HI.out mid e b d2 wb (by have := HES.out; omega) (by omega) S2 q1 q2 (by omega) (by omega) T3'.out T4'.out
                  rw [hd] at hcall
                  clear S2
                  go_wp2_with (go_at_call 42; refine hcall.mono ?_; rintro e1 w3 ⟨rfl, d3, hd3, S3, P3, Q3⟩)
                  go_end0
                  have FF := fin hb (by omega) (by omega) HBD.out ⟨hs1, hs2⟩ ⟨he1, he2⟩ RR.out TC.out P2.out Q2.out P3 Q3
                  exact ⟨rfl, d3, by omega, S3, FF.1, FF.2⟩
                · have r2 : decide ((e : Int) < (b : Int)) = false := decide_eq_false (by omega)
                  go_wp2_with fail
                  go_end0
                  obtain rfl : e = b := by omega
                  have FF := fin hb (by omega) (by omega) HBD.out ⟨hs1, hs2⟩ ⟨he1, he2⟩ RR.out TC.out P2.out Q2.out (permIn_refl _ _ _) T3'.out
                  exact ⟨rfl, d2, hd, S2, FF.1, FF.2⟩
              · have r1 : decide ((mid : Int) < (e : Int)) = false := decide_eq_false (by omega)
                go_wp2_with fail
                go_end0
                obtain rfl : mid = e := by omega
                have FF := fin hb (by omega) (by omega) HBD.out ⟨hs1, hs2⟩ ⟨he1, he2⟩ RR.out TC.out P2.out Q2.out (permIn_refl _ _ _) T4'.out
                exact ⟨rfl, d2, hd, S2, FF.1, FF.2⟩
end Sb
end Go.Proofs.Ytnljfhoibkeloaa
