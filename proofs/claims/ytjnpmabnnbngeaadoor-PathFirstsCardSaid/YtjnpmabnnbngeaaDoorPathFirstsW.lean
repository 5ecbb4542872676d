/- The walk of the law PathFirsts. -/
import Derived.Test.YtjnpmabnnbngeaaDoorPathF
import Derived.Deep.QuietTactic
import Derived.BigQuiet
namespace Go.Proofs.YtjnpmabnnbngeaaDoor.pathFirsts
open Go.RowKit Go.Shelf
open _root_.Go.Proofs.YtjnpmabnnbngeaaDoor.Pa
set_option linter.unusedVariables false
set_option linter.unusedSimpArgs false

theorem refin_q (s d : ByteArray) (hs : s.size ≤ 1000000) (hd : d.size ≤ 1000000) (w : World) :
    Calls Tryd.prog 17 #[.string s, .string d] w fun e w' => e = .returned (.bool (inB (tl s) (tl d))) ∧ w' = w :=
  (refin_any s d hs hd w).mono fun _ _ h => ⟨h.1, h.2.symm⟩

theorem cell_at {w W : World} {p : Addr} {len : Nat} {Z : Nat → ByteArray} (hb : Below w.heap.size w W) (hz : ∀ i, i < len → w.cell? (p.add i) = some (.string (Z i)) ∧ (Z i).size ≤ maxLen) (hp : 0 < len → p.block < w.heap.size) (i : Nat) (hi : i < len) :
    W.cell? (p.add i) = some (.string (Z i)) := (hb.cell (p := p.add i) (by unfold Addr.add; split <;> exact hp (by omega))).trans (hz i hi).1
theorem lt_add {w W : World} {p : Addr} (hb : Below w.heap.size w W) (hp : p.block < w.heap.size) (i : Nat) : (p.add i).block < W.heap.size := by
  unfold Addr.add; split <;> exact Nat.lt_of_lt_of_le hp hb.size
theorem hit_false {X Y : ByteArray} (h : hitB X Y = false) : X ≠ Y ∧ inB (tl X) (tl Y) = false ∧ inB (tl Y) (tl X) = false := by
  have hne : X ≠ Y := fun e => by rw [e, hit_eq] at h; cases h
  rw [hit_ne hne, Bool.or_eq_false_iff] at h
  exact ⟨hne, h⟩

set_option maxHeartbeats 2000000 in
set_option maxRecDepth 100000 in
theorem walk_some (p : Addr) (len cap : Nat) (Z : Nat → ByteArray) (h1 : len ≤ 30) (h2 : len ≤ cap) (w : World) (hp : 0 < len → p.block < w.heap.size) (hz : ∀ i, i < len → w.cell? (p.add i) = some (.string (Z i)) ∧ (Z i).size ≤ maxLen) :
    Calls Tryd.prog 4 #[.slice (some p) len cap] w fun e w' => e = .returned (.bool true) ∧ Below w.heap.size w w' := by
  have b1 : decide ((30 : Int) < (len : Int)) = false := decide_eq_false (by omega)
  have HZ0 := Lib.hid hz
  clear hz
  go_enter Tryd.func4, Tryd.ntmps4
  go_wp2_with fail
  refine (awake_any _).mono ?_
  rintro e w1 ⟨rfl, hw1⟩
  have H1 := Lib.hid hw1
  clear hw1
  go_wp2_with fail
  go_loopg [20] len (fun gf o wx => ∃ j : Nat, o = .int .i64 j ∧ wx = w1 ∧ j + gf = len ∧ Hid (∀ i, i < j → (Z i).size ≤ 200))
  case atStart => exact ⟨0, rfl, rfl, by omega, fun _ h => absurd h (Nat.not_lt_zero _)⟩
  case round =>
    obtain ⟨j, rfl, rfl, hg, HS⟩ := hrel
    by_cases hj : j < len
    · have b1 : decide (j < len) = true := decide_eq_true hj
      obtain ⟨g', rfl⟩ : ∃ g', gk = g' + 1 := ⟨gk - 1, by omega⟩
      have hc := cell_at H1.out HZ0.out hp j hj
      obtain ⟨X, hX⟩ : ∃ X, Z j = X := ⟨_, rfl⟩
      rw [hX] at hc
      have HX := Lib.hid hX
      clear hX
      by_cases h200 : 200 < X.size
      · have b2 : decide ((200 : Int) < (X.size : Int)) = true := decide_eq_true (by omega)
        go_wp2_with fail
        go_ret
        exact ⟨rfl, H1.out⟩
      · have b2 : decide ((200 : Int) < (X.size : Int)) = false := decide_eq_false (by omega)
        go_wp2_with fail
        go_roundg g'
        case measure => omega
        case rel => exact ⟨j + 1, rfl, rfl, by omega, fun i h => by
          rcases Nat.lt_succ_iff_lt_or_eq.1 h with h' | rfl
          · exact HS.out i h'
          · rw [HX.out]; omega⟩
    · have b1 : decide (j < len) = false := decide_eq_false hj
      have HS' : Hid (∀ i, i < len → (Z i).size ≤ 200) := fun i hi => HS.out i (by omega)
      clear HS
      have HS := HS'
      clear HS'
      go_wp2_with fail
      refine (first_any p len cap Z h1 h2 _ (fun i hi => ⟨cell_at H1.out HZ0.out hp i hi, Nat.le_trans (HS.out i hi) (by omega)⟩)).mono ?_
      rintro e w' ⟨a, b, ok, rfl, hf, rfl⟩
      rcases hf with ⟨rfl, rfl, rfl, hno⟩ | ⟨rfl, k0, i0, hk0, hi0, rfl, rfl, hit, hno1, hno2⟩
      · have HNO := Lib.hid hno
        clear hno
        go_wp2_with fail
        go_loopg [36] len (fun gf o wx => ∃ k : Nat, o = .int .i64 k ∧ Hid (Below w.heap.size w wx) ∧ k + gf = len ∧ True)
        case atStart => exact ⟨0, rfl, H1, by omega, trivial⟩
        case round =>
          obtain ⟨k, rfl, HB, hg2, HK⟩ := hrel
          by_cases hk : k < len
          · have b3 : decide (k < len) = true := decide_eq_true hk
            obtain ⟨g2, rfl⟩ : ∃ g', gk = g' + 1 := ⟨gk - 1, by omega⟩
            go_wp2_with fail
            go_loopg [40] k (fun gf o wx => ∃ i : Nat, o = .int .i64 i ∧ Hid (Below w.heap.size w wx) ∧ i + gf = k ∧ True)
            case atStart => exact ⟨0, rfl, HB, by omega, trivial⟩
            case round =>
              clear HB
              obtain ⟨i, rfl, HB, hg3, HI⟩ := hrel
              by_cases hi : i < k
              · have b4 : decide (i < k) = true := decide_eq_true hi
                obtain ⟨g3, rfl⟩ : ∃ g', gk = g' + 1 := ⟨gk - 1, by omega⟩
                have hci := (cell_at HB.out HZ0.out hp i (by omega))
                have hck := (cell_at HB.out HZ0.out hp k hk)
                have f1 : (0 : Int) ≤ (i : Int) := by omega
                have f2 : (i : Int) < (len : Int) := by omega
                have f3 : (0 : Int) ≤ (k : Int) := by omega
                have f4 : (k : Int) < (len : Int) := by omega
                have HXs := Lib.hid (HS.out i (by omega))
                have HYs := Lib.hid (HS.out k hk)
                obtain ⟨X, hX⟩ : ∃ X, Z i = X := ⟨_, rfl⟩
                obtain ⟨Y, hY⟩ : ∃ Y, Z k = Y := ⟨_, rfl⟩
                rw [hX] at hci HXs
                rw [hY] at hck HYs
                have C1 := Lib.hid (fun w => refin_q X Y (Nat.le_trans HXs.out (by omega)) (Nat.le_trans HYs.out (by omega)) w)
                have C2 := Lib.hid (fun w => refin_q Y X (Nat.le_trans HYs.out (by omega)) (Nat.le_trans HXs.out (by omega)) w)
                have hh := HNO.out k i hk hi
                rw [hX, hY] at hh
                obtain ⟨hne, hin1, hin2⟩ := hit_false hh
                have HX := Lib.hid hX
                have HY := Lib.hid hY
                clear hX hY hh
                have q1 := toList_ne hne
                have q2 : (X.toList == Y.toList) = false := beq_eq_false_iff_ne.2 q1
                rw [hin1] at C1
                rw [hin2] at C2
                clear hin1 hin2 hne
                go_wp2_with fail
                go_quiet ((first | (go_at_call 17; (with_reducible exact Calls.quiet_of_same (C1.out _))) | (go_at_call 17; (with_reducible exact Calls.quiet_of_same (C2.out _)))))
                have hbq := below_drewNg wr nq
                generalize hwq : wr.drewN nq = wq at *
                have HBQ := Lib.hid hbq
                clear hwq hbq
                go_wp2_with fail
                go_roundg g3
                case measure => omega
                case rel => exact ⟨i + 1, rfl, HB.out.trans (HBQ.out.mono HB.out.size), by omega, trivial⟩
              · have b4 : decide (i < k) = false := decide_eq_false hi
                go_wp2_with fail
                go_roundg g2
                case measure => omega
                case rel => exact ⟨k + 1, rfl, HB, by omega, trivial⟩
          · have b3 : decide (k < len) = false := decide_eq_false hk
            go_wp2_with fail
            go_ret
            exact ⟨rfl, HB.out⟩

      · have HIT := Lib.hid hit
        have HN1 := Lib.hid hno1
        have HN2 := Lib.hid hno2
        clear hit hno1 hno2
        go_wp2_with fail
        go_loopg [36] len (fun gf o wx => ∃ k : Nat, o = .int .i64 k ∧ Hid (Below w.heap.size w wx) ∧ k + gf = len ∧ Hid (k ≤ k0))
        case atStart => exact ⟨0, rfl, H1, by omega, Nat.zero_le _⟩
        case round =>
          obtain ⟨k, rfl, HB, hg2, HK⟩ := hrel
          by_cases hk : k < len
          · have b3 : decide (k < len) = true := decide_eq_true hk
            obtain ⟨g2, rfl⟩ : ∃ g', gk = g' + 1 := ⟨gk - 1, by omega⟩
            go_wp2_with fail
            go_loopg [40] k (fun gf o wx => ∃ i : Nat, o = .int .i64 i ∧ Hid (Below w.heap.size w wx) ∧ i + gf = k ∧ Hid ((k < k0 ∧ i ≤ k) ∨ (k = k0 ∧ i ≤ i0)))
            case atStart => exact ⟨0, rfl, HB, by omega, by have := HK.out; by_cases h : k = k0; exact .inr ⟨h, Nat.zero_le _⟩; exact .inl ⟨by omega, Nat.zero_le _⟩⟩
            case round =>
              clear HB
              obtain ⟨i, rfl, HB, hg3, HI⟩ := hrel
              by_cases hi : i < k
              · have b4 : decide (i < k) = true := decide_eq_true hi
                obtain ⟨g3, rfl⟩ : ∃ g', gk = g' + 1 := ⟨gk - 1, by omega⟩
                have hci := (cell_at HB.out HZ0.out hp i (by omega))
                have hck := (cell_at HB.out HZ0.out hp k hk)
                have f1 : (0 : Int) ≤ (i : Int) := by omega
                have f2 : (i : Int) < (len : Int) := by omega
                have f3 : (0 : Int) ≤ (k : Int) := by omega
                have f4 : (k : Int) < (len : Int) := by omega
                have HXs := Lib.hid (HS.out i (by omega))
                have HYs := Lib.hid (HS.out k hk)
                obtain ⟨X, hX⟩ : ∃ X, Z i = X := ⟨_, rfl⟩
                obtain ⟨Y, hY⟩ : ∃ Y, Z k = Y := ⟨_, rfl⟩
                rw [hX] at hci HXs
                rw [hY] at hck HYs
                have C1 := Lib.hid (fun w => refin_q X Y (Nat.le_trans HXs.out (by omega)) (Nat.le_trans HYs.out (by omega)) w)
                have C2 := Lib.hid (fun w => refin_q Y X (Nat.le_trans HYs.out (by omega)) (Nat.le_trans HXs.out (by omega)) w)
                by_cases hq : k = k0 ∧ i = i0
                · obtain ⟨e1, e2⟩ := hq
                  subst e1 e2
                  have hh := HIT.out
                  rw [hX, hY] at hh
                  rw [hX, hY]
                  clear hX hY
                  by_cases hxy : X = Y
                  · subst hxy
                    clear hh
                    go_wp2_with fail
                    go_quiet ((first | (go_at_call 17; (with_reducible exact Calls.quiet_of_same (C1.out _))) | (go_at_call 17; (with_reducible exact Calls.quiet_of_same (C2.out _)))))
                    have hbq := below_drewNg wr nq
                    generalize hwq : wr.drewN nq = wq at *
                    have HBQ := Lib.hid hbq
                    clear hwq hbq
                    have hci2 : wq.cell? (p.add i) = some (.string X) := (HBQ.out.cell (p := p.add i) (lt_add HB.out (hp (by omega)) i)).trans hci
                    have hck2 : wq.cell? (p.add k) = some (.string X) := (HBQ.out.cell (p := p.add k) (lt_add HB.out (hp (by omega)) k)).trans hck
                    go_wp2_with fail
                    go_ret
                    refine ⟨ret_bool ?_, HB.out.trans (HBQ.out.mono HB.out.size)⟩
                    simp
                  · have hh2 := hit_ne hxy
                    rw [hh] at hh2
                    have q1 := toList_ne hxy
                    have q2 : (X.toList == Y.toList) = false := beq_eq_false_iff_ne.2 q1
                    clear hh
                    cases hin1 : inB (tl X) (tl Y) with
                    | true =>
                      rw [hin1] at C1
                      clear hh2 hin1 hxy
                      go_wp2_with fail
                      go_quiet ((first | (go_at_call 17; (with_reducible exact Calls.quiet_of_same (C1.out _))) | (go_at_call 17; (with_reducible exact Calls.quiet_of_same (C2.out _)))))
                      have hbq := below_drewNg wr nq
                      generalize hwq : wr.drewN nq = wq at *
                      have HBQ := Lib.hid hbq
                      clear hwq hbq
                      have hci2 : wq.cell? (p.add i) = some (.string X) := (HBQ.out.cell (p := p.add i) (lt_add HB.out (hp (by omega)) i)).trans hci
                      have hck2 : wq.cell? (p.add k) = some (.string Y) := (HBQ.out.cell (p := p.add k) (lt_add HB.out (hp (by omega)) k)).trans hck
                      go_wp2_with fail
                      go_ret
                      refine ⟨ret_bool ?_, HB.out.trans (HBQ.out.mono HB.out.size)⟩
                      simp
                    | false =>
                      rw [hin1] at C1
                      rw [hin1, Bool.false_or] at hh2
                      rw [← hh2] at C2
                      clear hh2 hin1 hxy
                      go_wp2_with fail
                      go_quiet ((first | (go_at_call 17; (with_reducible exact Calls.quiet_of_same (C1.out _))) | (go_at_call 17; (with_reducible exact Calls.quiet_of_same (C2.out _)))))
                      have hbq := below_drewNg wr nq
                      generalize hwq : wr.drewN nq = wq at *
                      have HBQ := Lib.hid hbq
                      clear hwq hbq
                      have hci2 : wq.cell? (p.add i) = some (.string X) := (HBQ.out.cell (p := p.add i) (lt_add HB.out (hp (by omega)) i)).trans hci
                      have hck2 : wq.cell? (p.add k) = some (.string Y) := (HBQ.out.cell (p := p.add k) (lt_add HB.out (hp (by omega)) k)).trans hck
                      go_wp2_with fail
                      go_ret
                      refine ⟨ret_bool ?_, HB.out.trans (HBQ.out.mono HB.out.size)⟩
                      simp
                · have hh : hitB (Z i) (Z k) = false := by
                    rcases HI.out with ⟨h, h'⟩ | ⟨h, h'⟩
                    · exact HN1.out k i h hi
                    · rw [h]; exact HN2.out i (by omega)
                  have HQ := Lib.hid hq
                  clear hq
                  rw [hX, hY] at hh
                  obtain ⟨hne, hin1, hin2⟩ := hit_false hh
                  have HX := Lib.hid hX
                  have HY := Lib.hid hY
                  clear hX hY hh
                  have q1 := toList_ne hne
                  have q2 : (X.toList == Y.toList) = false := beq_eq_false_iff_ne.2 q1
                  rw [hin1] at C1
                  rw [hin2] at C2
                  clear hin1 hin2 hne
                  go_wp2_with fail
                  go_quiet ((first | (go_at_call 17; (with_reducible exact Calls.quiet_of_same (C1.out _))) | (go_at_call 17; (with_reducible exact Calls.quiet_of_same (C2.out _)))))
                  have hbq := below_drewNg wr nq
                  generalize hwq : wr.drewN nq = wq at *
                  have HBQ := Lib.hid hbq
                  clear hwq hbq
                  go_wp2_with fail
                  go_roundg g3
                  case measure => omega
                  case rel => exact ⟨i + 1, rfl, HB.out.trans (HBQ.out.mono HB.out.size), by omega, by have h := HI.out; have h2 := HQ.out; rcases h with ⟨h, h'⟩ | ⟨h, h'⟩; exact .inl ⟨h, by omega⟩; exact .inr ⟨h, by omega⟩⟩

              · have b4 : decide (i < k) = false := decide_eq_false hi
                go_wp2_with fail
                go_roundg g2
                case measure => omega
                case rel => exact ⟨k + 1, rfl, HB, by omega, by have h := HI.out; rcases h with ⟨h, h'⟩ | ⟨h, h'⟩; exact h; exact absurd h' (by omega)⟩
          · have b3 : decide (k < len) = false := decide_eq_false hk
            exact absurd HK.out (by omega)


set_option maxHeartbeats 400000 in
theorem walk_none (w : World) :
    Calls Tryd.prog 4 #[.slice none 0 0] w fun e w' => e = .returned (.bool true) ∧ Below w.heap.size w w' := by
  go_enter Tryd.func4, Tryd.ntmps4
  go_wp2_with fail
  refine (awake_any _).mono ?_
  rintro e w1 ⟨rfl, hw1⟩
  have H1 := Lib.hid hw1
  clear hw1
  go_wp2_with fail
  refine wp_loop_once ?_
  go_wp2_with fail
  refine (first_none (fun _ => ⟨#[]⟩) _).mono ?_
  rintro e w' ⟨a, b, ok, rfl, hf, rfl⟩
  rcases hf with ⟨rfl, rfl, rfl, _⟩ | ⟨_, k0, i0, hk0, _⟩
  · go_wp2_with fail
    refine wp_loop_once ?_
    go_wp2_with fail
    go_ret
    exact ⟨rfl, H1.out⟩
  · exact absurd hk0 (Nat.not_lt_zero _)

set_option maxHeartbeats 400000 in
theorem walk_long (a : Option Addr) (len cap : Nat) (h1 : 30 < len) (w : World) :
    Calls Tryd.prog 4 #[.slice a len cap] w fun e w' => e = .returned (.bool true) ∧ Below w.heap.size w w' := by
  have b1 : decide ((30 : Int) < (len : Int)) = true := decide_eq_true (by omega)
  go_enter Tryd.func4, Tryd.ntmps4
  go_wp2_with fail
  refine (awake_any _).mono ?_
  rintro e w1 ⟨rfl, hw1⟩
  have H1 := Lib.hid hw1
  clear hw1
  go_wp2_with fail
  refine (awake_any _).mono ?_
  rintro e w2 ⟨rfl, hw2⟩
  have H2 := Lib.hid hw2
  clear hw2
  go_wp2_with fail
  go_ret
  exact ⟨rfl, H1.out.trans (H2.out.mono H1.out.size)⟩

theorem walk (a : Option Addr) (len cap : Nat) (Z : Nat → ByteArray) (w : World) (h : StrRow w a len cap Z) :
    Calls Tryd.prog 4 #[.slice a len cap] w fun e w' => e = .returned (.bool true) ∧ Below w.heap.size w w' := by
  by_cases h1 : 30 < len
  · exact walk_long a len cap h1 w
  · rcases h with ⟨rfl, rfl, rfl⟩ | ⟨p, rfl, h3, h4, _, h5⟩
    · exact walk_none w
    · exact walk_some p len cap Z (by omega) h4 w h3 h5
end Go.Proofs.YtjnpmabnnbngeaaDoor.pathFirsts
