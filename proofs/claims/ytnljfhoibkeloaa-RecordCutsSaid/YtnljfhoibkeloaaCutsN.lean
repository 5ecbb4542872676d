/- The walk of RecordCuts where the first slice is nil. -/
import Derived.Test.YtnljfhoibkeloaaCutsW
import Derived.BigQuiet
import Derived.Deep.QuietTactic
import Derived.IntWalk
import Derived.Outline
namespace Go.Proofs.Ytnljfhoibkeloaa
open Go.RowKit
set_option linter.unusedVariables false
set_option linter.unusedSimpArgs false
namespace Rc
open Bt
set_option maxRecDepth 100000 in
set_option maxHeartbeats 2000000 in
theorem walk_nil (b : Option Addr) (lb cb : Nat) (Zb : Nat → Int) (W : World) (hb : Bs W b lb cb Zb) (hlb : lb ≤ 1500) :
    Calls Try.prog 3 #[.slice none 0 0, .slice b lb cb] W fun e w' => e = .returned (.bool true) ∧ Below W.heap.size W w' := by
  have b2 : decide ((1500 : Int) < (lb : Int)) = false := decide_eq_false (by omega)
  have b4 : ¬ (1500 < lb) := by omega
  have f1 : (0 : Int).tdiv 256 = 0 := rfl
  have ha : ∀ w : World, Bs w none 0 0 (fun _ => 0) := fun w => ⟨.inl ⟨rfl, rfl, rfl⟩, (fun x h => by cases h), (fun x h => by cases h), fun i h => (by omega)⟩
  have HA := Lib.hid ha
  have HB := Lib.hid hb
  clear ha hb
  go_enter Try.func3, Try.ntmps3
  go_wp2_with fail
  refine (awake_any _).mono ?_
  rintro e w1 ⟨rfl, hw1⟩
  have HW1 := Lib.hid hw1
  clear hw1
  go_wp2_with fail
  clear f1 b2 b4
  refine (cut_any (HA.out _) (by omega)).mono ?_
  rintro e w2 ⟨v1, vs1, rfl, p1, p2, hb2⟩
  have C1 : Hid (Cutted w1.heap.size (fun _ => 0) 0 v1 vs1 w2) := ⟨p1, p2⟩
  have HW2 : Hid (Below W.heap.size W w2) := HW1.out.trans (hb2.mono HW1.out.size)
  clear p1 p2 hb2
  go_wp2_with fail
  refine (cut_any (HB.out.below HW2.out (Nat.le_refl _)) (by omega)).mono ?_
  rintro e w3 ⟨v2, vs2, rfl, q1, q2, hb3⟩
  have C2 : Hid (Cutted w2.heap.size Zb lb v2 vs2 w3) := ⟨q1, q2⟩
  have C1' : Hid (Cutted w1.heap.size (fun _ => 0) 0 v1 vs1 w3) := C1.out.below hb3
  have HW3 : Hid (Below W.heap.size W w3) := HW2.out.trans (hb3.mono HW2.out.size)
  clear q1 q2 hb3 C1
  obtain ⟨g1, c1, w4, g2, c2, w5, r1, r2, hbs, hb5⟩ := two (HA.out w3) (HB.out.below HW3.out (Nat.le_refl _)) (by omega) (by omega)
  rw [Nat.zero_add] at r2 hbs
  have HBS := Lib.hid hbs
  have HW5 : Hid (Below W.heap.size W w5) := HW3.out.trans (hb5.mono HW3.out.size)
  have C1'' : Hid (Cutted w1.heap.size (fun _ => 0) 0 v1 vs1 w5) := C1'.out.below hb5
  have C2' : Hid (Cutted w2.heap.size Zb lb v2 vs2 w5) := C2.out.below hb5
  clear hbs hb5 C1' C2
  go_wp2_with (first | (at_builtin; refine App.wpList_run rfl (.tmp 33) (.tmp 34) _ _ rfl rfl rfl r1 ?_) | (at_builtin; refine App.wpList_run rfl (.tmp 35) (.tmp 36) _ _ rfl rfl rfl r2 ?_))
  clear r1 r2
  refine (cut_any HBS.out (by omega)).mono ?_
  rintro e w6 ⟨v3, vs3, rfl, q1, q2, hb6⟩
  have D3 : Hid (Cutted w5.heap.size _ lb v3 vs3 w6) := ⟨q1, q2⟩
  have D1 : Hid (Cutted w1.heap.size (fun _ => 0) 0 v1 vs1 w6) := C1''.out.below hb6
  have D2 : Hid (Cutted w2.heap.size Zb lb v2 vs2 w6) := C2'.out.below hb6
  have HW6 : Hid (Below W.heap.size W w6) := HW5.out.trans (hb6.mono HW5.out.size)
  clear q1 q2 hb6 C1'' C2' HBS HW5 HW3 HW2 HW1
  obtain ⟨a1, k1, rfl⟩ := D1.out.form
  obtain ⟨a2, k2, rfl⟩ := D2.out.form
  obtain ⟨a3, k3, rfl⟩ := D3.out.form
  obtain ⟨n2, hn2'⟩ : ∃ n, cnt lb = n := ⟨_, rfl⟩
  have hb2 : n2 ≤ 10 := by rw [← hn2']; unfold cnt; omega
  obtain ⟨x1, y1, gg, cc, w7, r1, r2, o7, hb7⟩ := two_rows D1.out.1 D2.out.1 D1.out.ones D2.out.ones (by decide) (by omega)
  have HW7 : Hid (Below W.heap.size W w7) := HW6.out.trans (hb7.mono HW6.out.size)
  have E1 : Hid (Cutted w1.heap.size (fun _ => 0) 0 _ vs1 w7) := D1.out.below hb7
  have E2 : Hid (Cutted w2.heap.size Zb lb _ vs2 w7) := D2.out.below hb7
  have E3 : Hid (Cutted w5.heap.size _ lb _ vs3 w7) := D3.out.below hb7
  clear hb7 D1 D2 D3 HW6
  have hn0 : cnt 0 = 0 := rfl
  rw [hn0] at r1 r2 o7
  try rw [Nat.zero_add] at r2 o7
  rw [hn0, hn2']
  rw [hn2'] at r2 o7
  have HN2 := Lib.hid hn2'
  have O7 := Lib.hid o7
  clear hn2' o7 hn0
  go_wp2_with (first | (at_builtin; refine App.wpList_run rfl (.tmp 47) (.tmp 48) _ _ rfl rfl rfl r1 ?_) | (at_builtin; refine App.wpList_run rfl (.tmp 49) (.tmp 50) _ _ rfl rfl rfl r2 ?_))
  clear r1 r2
  go_loopw [8, 9, 53] (fun s8 s9 i wr => ∃ k : Nat, k ≤ n2 ∧ i = .int .i64 (k : Int) ∧ Hid (Below w7.heap.size w7 wr)) (fun _ _ i _ => n2 - (intOf i).toNat)
  case atStart => exact ⟨0, Nat.zero_le _, rfl, Below.refl _ _⟩
  case round =>
    obtain ⟨k, hk, rfl, HR⟩ := hrel
    by_cases hlt : k < n2
    · obtain ⟨g3, c3, he, hcell3⟩ := E3.out.cell (by rw [HN2.out]; omega)
      have hck : k < cnt 0 + cnt lb := by rw [HN2.out]; exact Nat.lt_of_lt_of_le hlt (Nat.le_add_left _ _)
      obtain ⟨g, c, g', c', m, S, e3, e12, cv3, cv12⟩ := same_piece (na := 0) rfl (fun i hi => absurd hi (by omega)) (fun i hi => HB.out.byte i hi) (E1.out.below (HR.out)) (E2.out.below HR.out) ((show Cutted _ _ (0 + lb) _ vs3 w7 by rw [Nat.zero_add]; exact E3.out).below HR.out) k hck
      have ha3 : a3 = some ⟨g3, 0, none⟩ := by injection he
      subst ha3
      have z1 := hcell3 k _ e3
      have z2 := O7.out.cells (g := gg) rfl k _ e12
      rw [own_add] at z2
      have z3 : wr.cell? ⟨g3, k, none⟩ = _ := (HR.out.cell (p := ⟨g3, k, none⟩) (cell_lt z1)).trans z1
      have z4 : wr.cell? ⟨gg, k, none⟩ = _ := (HR.out.cell (p := ⟨gg, k, none⟩) (cell_lt z2)).trans z2
      have cw3 := cv3 1
      have cw12 := cv12 1
      rw [show wr.drewN 1 = wr.drew from rfl] at cw3 cw12
      clear z1 z2 hcell3 e3 e12 he cv3 cv12 hck
      have b1 : decide ((k : Int) < (n2 : Int)) = true := decide_eq_true (by omega)
      have b2 : (0 : Int) ≤ (k : Int) := by omega
      have b3 : (k : Int) < (n2 : Int) := by omega
      go_wp2_with fail
      go_region
      clear cw3 cw12 z3 z4
      go_wp2_with fail
      go_roundw
      case rel => exact ⟨k + 1, by omega, by go_num, HR.out.drew⟩
      case measure => simp [intOf]; omega
    · obtain rfl : n2 = k := by omega
      have b1 : decide ((n2 : Int) < (n2 : Int)) = false := decide_eq_false (by omega)
      go_wp2_with fail
      go_ret
      exact ⟨rfl, HW7.out.trans (HR.out.mono HW7.out.size)⟩

end Rc
end Go.Proofs.Ytnljfhoibkeloaa
namespace Go.Proofs.Ytnljfhoibkeloaa.recordCuts
open Go.RowKit
theorem walk (a0 : Option Addr) (len0 cap0 : Nat) (z0 : List Int) (a1 : Option Addr) (len1 cap1 : Nat) (z1 : List Int) (W : World) (w0 : IsRow .u8 W a0 len0 cap0 z0) (w1 : IsRow .u8 W a1 len1 cap1 z1) :
    Calls Try.prog 3 #[.slice a0 len0 cap0, .slice a1 len1 cap1] W fun e w' => e = .returned (.bool true) ∧ Below W.heap.size W w' := by
  have h0 := Bt.Bs.of_row w0
  have h1 := Bt.Bs.of_row w1
  have m0 : ∀ {a : Option Addr} {len cap : Nat} {Z : Nat → Int}, Bt.Bs W a len cap Z → len ≤ 9223372036854775807 := by
    intro a len cap Z h
    rcases h.here with ⟨_, h2, _⟩ | ⟨_, _, h2, h3⟩
    · omega
    · unfold maxLen at h3; omega
  by_cases h : 1500 < len0 ∨ 1500 < len1
  · exact Rc.walk_great a0 a1 len0 cap0 len1 cap1 W h (m0 h0) (m0 h1)
  · rcases h0.here with ⟨rfl, rfl, rfl⟩ | ⟨x, rfl, _⟩
    · exact Rc.walk_nil a1 len1 cap1 _ W h1 (by omega)
    · exact Rc.walk_small x len0 cap0 _ a1 len1 cap1 _ W h0 h1 (by omega) (by omega)
end Go.Proofs.Ytnljfhoibkeloaa.recordCuts
