/- Contracts for the inner functions of package path: what a byte of a name may be. -/
import Derived.Test.YtjnpmabnnbngeaaDoorRows
import Derived.Test.YtjnpmabnnbngeaaDoorShelf
import Derived.WalkKit
import Derived.WalkSpells
import Derived.WalkLawsBesides
import Derived.Lib.Hide
import Derived.Lib.RuneBytes
import Derived.Deep.QuietTactic
import Derived.BigQuiet
namespace Go.Proofs.YtjnpmabnnbngeaaDoor
open Go.RowKit
set_option linter.unusedVariables false
set_option linter.unusedSimpArgs false
namespace Pa
/-- May a rune be in a name? -/
def signB (c : Nat) : Bool := decide (97 ≤ c ∧ c ≤ 122) || decide (65 ≤ c ∧ c ≤ 90) || decide (48 ≤ c ∧ c ≤ 57) || c == 45 || c == 95 || c == 46 || c == 126 || c == 43
def SIGNS : ByteArray := ⟨#[45, 95, 46, 126, 43]⟩

set_option maxHeartbeats 1000000 in
set_option maxRecDepth 100000 in
theorem indexRune_bad (r : Int) (h0 : 128 ≤ r) (h1 : r ≤ 1114111) (hv : 55296 ≤ r ∧ r ≤ 57343) (w : World) :
    Calls Tryd.prog 162 #[.string SIGNS, .int .i32 r] w fun e w' => e = .returned (.int .i64 (-1)) ∧ Below w.heap.size w w' := by
  have b1 : decide ((0 : Int) ≤ r) = true := decide_eq_true (by omega)
  have b2 : decide (r < (128 : Int)) = false := decide_eq_false (by omega)
  have b3 : (r == 65533) = false := beq_eq_false_iff_ne.2 (by omega)
  have b4 : Lib.validRune r = false := by unfold Lib.validRune; simp; omega
  have B4 := Lib.hid b4
  clear b4 hv
  go_enter Tryd.func162, Tryd.ntmps162
  go_wp2_with fail
  refine (Tryd.utf8_ValidRune _ _).mono ?_
  rintro e w' ⟨rfl, hw⟩
  subst hw
  rw [B4.out]
  go_wp2_with fail
  go_ret
  exact ⟨rfl, Below.refl _ _⟩

theorem signs_dec (pos : Nat) (h : pos < SIGNS.size) : ((Utf8.decode SIGNS pos).1 == 65533) = false ∧ 1 ≤ (Utf8.decode SIGNS pos).2 := by
  have : pos = 0 ∨ pos = 1 ∨ pos = 2 ∨ pos = 3 ∨ pos = 4 := by
    have : SIGNS.size = 5 := rfl
    omega
  rcases this with rfl | rfl | rfl | rfl | rfl <;> decide

set_option maxHeartbeats 1000000 in
set_option maxRecDepth 100000 in
theorem indexRune_err (w : World) :
    Calls Tryd.prog 162 #[.string SIGNS, .int .i32 65533] w fun e w' => e = .returned (.int .i64 (-1)) ∧ Below w.heap.size w w' := by
  obtain ⟨s, hs⟩ : ∃ s, SIGNS = s := ⟨_, rfl⟩
  have HS := Lib.hid hs
  rw [hs]
  clear hs
  go_enter Tryd.func162, Tryd.ntmps162
  go_wp2_with fail
  go_loopg [5, 6] s.size (fun gf _ _ wx => ∃ pos : Nat, wx.heap[w.heap.size]? = some (.stringIter s pos) ∧ Below w.heap.size w wx ∧ s.size ≤ pos + gf)
  case atStart => exact ⟨0, World.iter_heap w s 0, (Below.refl _ w).alloc (Nat.le_refl _) _, by omega⟩
  case round =>
    obtain ⟨pos, hit, hbw, hfu⟩ := hrel
    by_cases hps : pos < s.size
    · obtain ⟨g', rfl⟩ : ∃ g', gk = g' + 1 := ⟨gk - 1, by omega⟩
      have hnx : ∀ ty, (Instr.next (.pointer (some ⟨w.heap.size, 0, none⟩)) true ty).run Tryd.prog wr = _ := fun ty => Lib.run_next_any_at wr w.heap.size s pos ty hit hps
      have hd := signs_dec pos (by rw [HS.out]; exact hps)
      rw [HS.out] at hd
      obtain ⟨R, hR⟩ : ∃ R, (Utf8.decode s pos).1 = R := ⟨_, rfl⟩
      obtain ⟨K, hK⟩ : ∃ K, (Utf8.decode s pos).2 = K := ⟨_, rfl⟩
      rw [hR, hK] at hnx hd
      clear hR hK
      have hit2 := Lib.iterAt_heap wr w.heap.size s pos (pos + K) hit
      have hbw2 := Lib.below_iterAt hbw (k := w.heap.size) (Nat.le_refl _) s (pos + K)
      obtain ⟨W, hWd⟩ : ∃ W, wr.iterAt w.heap.size s (pos + K) = W := ⟨_, rfl⟩
      rw [hWd] at hnx hit2 hbw2
      clear hWd
      obtain ⟨hd1, hd2⟩ := hd
      have hd3 : ((R : Int) == 65533) = false := by
        rw [beq_eq_false_iff_ne] at hd1 ⊢; omega
      clear hd1
      go_wp2_with fail
      go_roundg g'
      case measure => omega
      case rel => exact ⟨pos + K, hit2, hbw2, by omega⟩
    · have hnx : ∀ ty, (Instr.next (.pointer (some ⟨w.heap.size, 0, none⟩)) true ty).run Tryd.prog wr = _ := fun ty => Lib.run_next_end_at wr w.heap.size s pos ty hit hps
      go_wp2_with fail
      go_ret
      exact ⟨rfl, hbw⟩

theorem indexByte_far : ∀ (l : List UInt8) (y : UInt8), (∀ b ∈ l, b < 128) → 128 ≤ y → Lib.indexByte l y = -1
  | [], y, _, _ => rfl
  | b :: l, y, h, hy => by
    have hb : b < 128 := h b (by simp)
    have ih := indexByte_far l y (fun c hc => h c (by simp [hc])) hy
    have hne : (b == y) = false := by
      rw [beq_eq_false_iff_ne]; rintro rfl
      exact absurd hy (by rw [UInt8.not_le]; exact hb)
    unfold Lib.indexByte
    simp [hne, ih]

set_option maxHeartbeats 1000000 in
set_option maxRecDepth 100000 in
theorem indexRune_two (r : Int) (h0 : 128 ≤ r) (h1 : r ≤ 1114111) (hv : r < 55296 ∨ 57343 < r) (h3 : r ≠ 65533) (x y : UInt8) (hy : 128 ≤ y) (he : Utf8.encode r = ⟨#[x, y]⟩) (w : World) :
    Calls Tryd.prog 162 #[.string SIGNS, .int .i32 r] w fun e w' => e = .returned (.int .i64 (-1)) ∧ Below w.heap.size w w' := by
  have b1 : decide ((0 : Int) ≤ r) = true := decide_eq_true (by omega)
  have b2 : decide (r < (128 : Int)) = false := decide_eq_false (by omega)
  have b3 : (r == 65533) = false := beq_eq_false_iff_ne.2 (by omega)
  have b4 : Lib.validRune r = true := by unfold Lib.validRune; simp; omega
  have B4 := Lib.hid b4
  have HY := Lib.hid hy
  clear b4 hv h3 hy
  unfold SIGNS
  go_enter Tryd.func162, Tryd.ntmps162
  go_wp2_with fail
  refine (Tryd.utf8_ValidRune _ _).mono ?_
  rintro e w' ⟨rfl, hw⟩
  subst hw
  rw [B4.out]
  go_wp2_with fail
  go_step3
  go_wp2_with fail
  refine wp_loop_once ?_
  go_wp2_with fail
  go_step3
  go_wp2_with fail
  have c1 : ((95 : Int) == (y.toNat : Int)) = false := by
    rw [beq_eq_false_iff_ne]; have := UInt8.le_iff_toNat_le.1 HY.out; simp at this; omega
  have c2 : ((95 : Int) != (y.toNat : Int)) = true := by rw [bne_iff_ne]; simpa using c1
  have hix : ∀ wx : World, (Instr.index 9 (.string ⟨#[x, y]⟩) (.int .i64 1)).run Tryd.prog wx = .ok (.int .u8 (y.toNat : Int)) wx := fun _ => by kernel_rfl
  have hix0 : ∀ wx : World, (Instr.index 9 (.string ⟨#[45, 95, 46, 126, 43]⟩) (.int .i64 1)).run Tryd.prog wx = .ok (.int .u8 95) wx := fun _ => by kernel_rfl
  go_quiet (fail)
  go_wp2_with fail
  have hws : IntKind.i64.wrap 2 = 2 := by decide
  have hws1 : IntKind.i64.wrap (1 + 1) = 2 := by decide
  have hsl2 : ∀ wx : World, (Instr.slice 9 (.string ⟨#[45, 95, 46, 126, 43]⟩) (some (.int .i64 2)) none none).run Tryd.prog wx = .ok (.string ⟨#[46, 126, 43]⟩) wx := fun _ => by kernel_rfl
  have hbq := below_drewNg w' nq
  generalize hwq : w'.drewN nq = wq at *
  have HBQ := Lib.hid hbq
  clear hwq hbq
  go_quiet ((go_at_call 187; exact Calls.quiet_of_same (Tryd.strings_IndexByte _ _ _)))
  have hib : Lib.indexByte [46, 126, 43] ((y.toNat : Int)).toNat.toUInt8 = -1 := by
    rw [Int.toNat_natCast]
    exact indexByte_far _ _ (by decide) (by simpa using HY.out)
  have hib2 : Lib.indexByte [46, 126, 43] y = -1 := indexByte_far _ _ (by decide) HY.out
  go_wp2_with fail

  simp (config := { zetaDelta := true }) only [Exit.noGoto, Exit.inBlock, Exit.then]
  go_ret
  exact ⟨rfl, HBQ.out.trans ((below_drewNg _ _).mono HBQ.out.size)⟩
set_option maxHeartbeats 1000000 in
set_option maxRecDepth 100000 in
theorem indexRune_three (r : Int) (h0 : 128 ≤ r) (h1 : r ≤ 1114111) (hv : r < 55296 ∨ 57343 < r) (h3 : r ≠ 65533) (z x y : UInt8) (hy : 128 ≤ y) (he : Utf8.encode r = ⟨#[z, x, y]⟩) (w : World) :
    Calls Tryd.prog 162 #[.string SIGNS, .int .i32 r] w fun e w' => e = .returned (.int .i64 (-1)) ∧ Below w.heap.size w w' := by
  have b1 : decide ((0 : Int) ≤ r) = true := decide_eq_true (by omega)
  have b2 : decide (r < (128 : Int)) = false := decide_eq_false (by omega)
  have b3 : (r == 65533) = false := beq_eq_false_iff_ne.2 (by omega)
  have b4 : Lib.validRune r = true := by unfold Lib.validRune; simp; omega
  have B4 := Lib.hid b4
  have HY := Lib.hid hy
  clear b4 hv h3 hy
  unfold SIGNS
  go_enter Tryd.func162, Tryd.ntmps162
  go_wp2_with fail
  refine (Tryd.utf8_ValidRune _ _).mono ?_
  rintro e w' ⟨rfl, hw⟩
  subst hw
  rw [B4.out]
  go_wp2_with fail
  go_step3
  go_wp2_with fail
  refine wp_loop_once ?_
  go_wp2_with fail
  go_step3
  go_wp2_with fail
  have c1 : ((46 : Int) == (y.toNat : Int)) = false := by
    rw [beq_eq_false_iff_ne]; have := UInt8.le_iff_toNat_le.1 HY.out; simp at this; omega
  have c2 : ((46 : Int) != (y.toNat : Int)) = true := by rw [bne_iff_ne]; simpa using c1
  have hix : ∀ wx : World, (Instr.index 9 (.string ⟨#[z, x, y]⟩) (.int .i64 2)).run Tryd.prog wx = .ok (.int .u8 (y.toNat : Int)) wx := fun _ => by kernel_rfl
  have hix0 : ∀ wx : World, (Instr.index 9 (.string ⟨#[45, 95, 46, 126, 43]⟩) (.int .i64 2)).run Tryd.prog wx = .ok (.int .u8 46) wx := fun _ => by kernel_rfl
  go_quiet (fail)
  go_wp2_with fail
  have hws : IntKind.i64.wrap 3 = 3 := by decide
  have hws1 : IntKind.i64.wrap (2 + 1) = 3 := by decide
  have hsl2 : ∀ wx : World, (Instr.slice 9 (.string ⟨#[45, 95, 46, 126, 43]⟩) (some (.int .i64 3)) none none).run Tryd.prog wx = .ok (.string ⟨#[126, 43]⟩) wx := fun _ => by kernel_rfl
  have hbq := below_drewNg w' nq
  generalize hwq : w'.drewN nq = wq at *
  have HBQ := Lib.hid hbq
  clear hwq hbq
  go_quiet ((go_at_call 187; exact Calls.quiet_of_same (Tryd.strings_IndexByte _ _ _)))
  have hib : Lib.indexByte [126, 43] ((y.toNat : Int)).toNat.toUInt8 = -1 := by
    rw [Int.toNat_natCast]
    exact indexByte_far _ _ (by decide) (by simpa using HY.out)
  have hib2 : Lib.indexByte [126, 43] y = -1 := indexByte_far _ _ (by decide) HY.out
  go_wp2_with fail

  simp (config := { zetaDelta := true }) only [Exit.noGoto, Exit.inBlock, Exit.then]
  go_ret
  exact ⟨rfl, HBQ.out.trans ((below_drewNg _ _).mono HBQ.out.size)⟩
set_option maxHeartbeats 1000000 in
set_option maxRecDepth 100000 in
theorem indexRune_four (r : Int) (h0 : 128 ≤ r) (h1 : r ≤ 1114111) (hv : r < 55296 ∨ 57343 < r) (h3 : r ≠ 65533) (u z x y : UInt8) (hy : 128 ≤ y) (he : Utf8.encode r = ⟨#[u, z, x, y]⟩) (w : World) :
    Calls Tryd.prog 162 #[.string SIGNS, .int .i32 r] w fun e w' => e = .returned (.int .i64 (-1)) ∧ Below w.heap.size w w' := by
  have b1 : decide ((0 : Int) ≤ r) = true := decide_eq_true (by omega)
  have b2 : decide (r < (128 : Int)) = false := decide_eq_false (by omega)
  have b3 : (r == 65533) = false := beq_eq_false_iff_ne.2 (by omega)
  have b4 : Lib.validRune r = true := by unfold Lib.validRune; simp; omega
  have B4 := Lib.hid b4
  have HY := Lib.hid hy
  clear b4 hv h3 hy
  unfold SIGNS
  go_enter Tryd.func162, Tryd.ntmps162
  go_wp2_with fail
  refine (Tryd.utf8_ValidRune _ _).mono ?_
  rintro e w' ⟨rfl, hw⟩
  subst hw
  rw [B4.out]
  go_wp2_with fail
  go_step3
  go_wp2_with fail
  refine wp_loop_once ?_
  go_wp2_with fail
  go_step3
  go_wp2_with fail
  have c1 : ((126 : Int) == (y.toNat : Int)) = false := by
    rw [beq_eq_false_iff_ne]; have := UInt8.le_iff_toNat_le.1 HY.out; simp at this; omega
  have c2 : ((126 : Int) != (y.toNat : Int)) = true := by rw [bne_iff_ne]; simpa using c1
  have hix : ∀ wx : World, (Instr.index 9 (.string ⟨#[u, z, x, y]⟩) (.int .i64 3)).run Tryd.prog wx = .ok (.int .u8 (y.toNat : Int)) wx := fun _ => by kernel_rfl
  have hix0 : ∀ wx : World, (Instr.index 9 (.string ⟨#[45, 95, 46, 126, 43]⟩) (.int .i64 3)).run Tryd.prog wx = .ok (.int .u8 126) wx := fun _ => by kernel_rfl
  go_quiet (fail)
  go_wp2_with fail
  have hws : IntKind.i64.wrap 4 = 4 := by decide
  have hws1 : IntKind.i64.wrap (3 + 1) = 4 := by decide
  have hsl2 : ∀ wx : World, (Instr.slice 9 (.string ⟨#[45, 95, 46, 126, 43]⟩) (some (.int .i64 4)) none none).run Tryd.prog wx = .ok (.string ⟨#[43]⟩) wx := fun _ => by kernel_rfl
  have hbq := below_drewNg w' nq
  generalize hwq : w'.drewN nq = wq at *
  have HBQ := Lib.hid hbq
  clear hwq hbq
  go_quiet ((go_at_call 187; exact Calls.quiet_of_same (Tryd.strings_IndexByte _ _ _)))
  have hib : Lib.indexByte [43] ((y.toNat : Int)).toNat.toUInt8 = -1 := by
    rw [Int.toNat_natCast]
    exact indexByte_far _ _ (by decide) (by simpa using HY.out)
  have hib2 : Lib.indexByte [43] y = -1 := indexByte_far _ _ (by decide) HY.out
  go_wp2_with fail

  simp (config := { zetaDelta := true }) only [Exit.noGoto, Exit.inBlock, Exit.then]
  go_ret
  exact ⟨rfl, HBQ.out.trans ((below_drewNg _ _).mono HBQ.out.size)⟩

theorem enc_far (r : Int) (h0 : 128 ≤ r) (h1 : r ≤ 1114111) (hv : r < 55296 ∨ 57343 < r) :
    (∃ x y : UInt8, 128 ≤ y ∧ Utf8.encode r = ⟨#[x, y]⟩) ∨ (∃ z x y : UInt8, 128 ≤ y ∧ Utf8.encode r = ⟨#[z, x, y]⟩) ∨ (∃ u z x y : UInt8, 128 ≤ y ∧ Utf8.encode r = ⟨#[u, z, x, y]⟩) := by
  have hval : Utf8.valid r = true := by unfold Utf8.valid; simp; omega
  have hy : ∀ c : Nat, (128 : UInt8) ≤ UInt8.ofNat (0x80 + c % 64) := by
    intro c
    rw [UInt8.le_iff_toNat_le, UInt8.toNat_ofNat']
    have e : (128 : UInt8).toNat = 128 := rfl
    rw [e]
    have : (0x80 + c % 64) % 2 ^ 8 = 0x80 + c % 64 := Nat.mod_eq_of_lt (by omega)
    rw [this]; omega
  unfold Utf8.encode
  simp only [hval, if_true]
  by_cases a : r.toNat < 2048
  · rw [if_neg (by omega), if_pos (by omega)]
    exact .inl ⟨_, _, hy _, rfl⟩
  · by_cases b : r.toNat < 65536
    · rw [if_neg (by omega), if_neg (by omega), if_pos (by omega)]
      exact .inr (.inl ⟨_, _, _, hy _, rfl⟩)
    · rw [if_neg (by omega), if_neg (by omega), if_neg (by omega)]
      exact .inr (.inr ⟨_, _, _, _, hy _, rfl⟩)

theorem indexRune_far (r : Int) (h0 : 128 ≤ r) (h1 : r ≤ 1114111) (w : World) :
    Calls Tryd.prog 162 #[.string SIGNS, .int .i32 r] w fun e w' => e = .returned (.int .i64 (-1)) ∧ Below w.heap.size w w' := by
  by_cases hv : 55296 ≤ r ∧ r ≤ 57343
  · exact indexRune_bad r h0 h1 hv w
  · by_cases h3 : r = 65533
    · subst h3; exact indexRune_err w
    · rcases enc_far r h0 h1 (by omega) with ⟨x, y, hy, he⟩ | ⟨z, x, y, hy, he⟩ | ⟨u, z, x, y, hy, he⟩
      · exact indexRune_two r h0 h1 (by omega) h3 x y hy he w
      · exact indexRune_three r h0 h1 (by omega) h3 z x y hy he w
      · exact indexRune_four r h0 h1 (by omega) h3 u z x y hy he w

set_option maxHeartbeats 400000 in
theorem containsRune_far (r : Int) (h0 : 128 ≤ r) (h1 : r ≤ 1114111) (w : World) :
    Calls Tryd.prog 141 #[.string SIGNS, .int .i32 r] w fun e w' => e = .returned (.bool false) ∧ Below w.heap.size w w' := by
  obtain ⟨s, hs⟩ : ∃ s, SIGNS = s := ⟨_, rfl⟩
  have c := indexRune_far r h0 h1 w
  rw [hs] at c ⊢
  have C := Lib.hid c
  clear c hs
  go_enter Tryd.func141, Tryd.ntmps141
  go_wp2_with fail
  refine C.out.mono ?_
  rintro e w' ⟨rfl, hb⟩
  go_wp2_with fail
  go_ret
  exact ⟨rfl, hb⟩

theorem signs_mem (c : Nat) (h : c < 128) : decide (0 ≤ Lib.indexByte SIGNS.data.toList ((c : Int)).toNat.toUInt8) = (c == 45 || c == 95 || c == 46 || c == 126 || c == 43) := by
  rw [Int.toNat_natCast]
  have : ∀ c : Fin 128, decide (0 ≤ Lib.indexByte SIGNS.data.toList (c.val).toUInt8) = (c.val == 45 || c.val == 95 || c.val == 46 || c.val == 126 || c.val == 43) := by decide +kernel
  exact this ⟨c, h⟩

theorem contains_sign (c : Nat) (h : c ≤ 1114111) (w : World) :
    Calls Tryd.prog 141 #[.string SIGNS, .int .i32 (c : Int)] w fun e w' => e = .returned (.bool (c == 45 || c == 95 || c == 46 || c == 126 || c == 43)) ∧ Below w.heap.size w w' := by
  by_cases hc : c < 128
  · refine (Tryd.strings_ContainsRune_ascii SIGNS (c : Int) w (by omega) (by omega)).mono ?_
    rintro e w' ⟨rfl, rfl⟩
    exact ⟨by rw [signs_mem c hc], Below.refl _ _⟩
  · refine (containsRune_far (c : Int) (by omega) (by omega) w).mono ?_
    rintro e w' ⟨rfl, hb⟩
    refine ⟨?_, hb⟩
    have : (c == 45 || c == 95 || c == 46 || c == 126 || c == 43) = false := by
      simp; omega
    rw [this]

set_option maxHeartbeats 1000000 in
theorem sign_any (c : Nat) (h : c ≤ 1114111) (w : World) :
    Calls Tryd.prog 111 #[.int .i32 (c : Int)] w fun e w' => e = .returned (.bool (signB c)) ∧ Below w.heap.size w w' := by
  obtain ⟨t, ht⟩ : ∃ t, (c == 45 || c == 95 || c == 46 || c == 126 || c == 43) = t := ⟨_, rfl⟩
  have cs := contains_sign c h
  rw [ht] at cs
  have CS := Lib.hid cs
  clear cs
  unfold SIGNS at CS
  have hs : signB c = (decide (97 ≤ c ∧ c ≤ 122) || decide (65 ≤ c ∧ c ≤ 90) || decide (48 ≤ c ∧ c ≤ 57) || t) := by
    rw [← ht]; unfold signB; simp only [Bool.or_assoc]
  rw [hs]
  have T := Lib.hid ht
  clear hs ht
  have cases5 : (97 ≤ c ∧ c ≤ 122) ∨ (65 ≤ c ∧ c ≤ 90) ∨ (48 ≤ c ∧ c ≤ 57) ∨ c < 48 ∨ (57 < c ∧ c < 65) ∨ (90 < c ∧ c < 97) ∨ 122 < c := by omega
  rcases cases5 with q | q | q | q | q | q | q
  · have b1 : decide ((97 : Int) ≤ (c : Int)) = true := decide_eq_true (by omega)
    have b2 : decide ((c : Int) ≤ 122) = true := decide_eq_true (by omega)
    have r1 : decide (97 ≤ c ∧ c ≤ 122) = true := decide_eq_true q
    rw [r1]
    clear r1 q
    go_enter Tryd.func111, Tryd.ntmps111
    go_wp2_with fail
    go_ret
    exact ⟨rfl, Below.refl _ _⟩
  · have b1 : decide ((97 : Int) ≤ (c : Int)) = false := decide_eq_false (by omega)
    have b2 : decide ((65 : Int) ≤ (c : Int)) = true := decide_eq_true (by omega)
    have b3 : decide ((c : Int) ≤ 90) = true := decide_eq_true (by omega)
    have r1 : decide (97 ≤ c ∧ c ≤ 122) = false := decide_eq_false (by omega)
    have r2 : decide (65 ≤ c ∧ c ≤ 90) = true := decide_eq_true q
    rw [r1, r2]
    clear r1 r2 q
    go_enter Tryd.func111, Tryd.ntmps111
    go_wp2_with fail
    go_ret
    exact ⟨rfl, Below.refl _ _⟩
  · have b1 : decide ((97 : Int) ≤ (c : Int)) = false := decide_eq_false (by omega)
    have b2 : decide ((65 : Int) ≤ (c : Int)) = false := decide_eq_false (by omega)
    have b3 : decide ((48 : Int) ≤ (c : Int)) = true := decide_eq_true (by omega)
    have b4 : decide ((c : Int) ≤ 57) = true := decide_eq_true (by omega)
    have r1 : decide (97 ≤ c ∧ c ≤ 122) = false := decide_eq_false (by omega)
    have r2 : decide (65 ≤ c ∧ c ≤ 90) = false := decide_eq_false (by omega)
    have r3 : decide (48 ≤ c ∧ c ≤ 57) = true := decide_eq_true q
    rw [r1, r2, r3]
    clear r1 r2 r3 q
    go_enter Tryd.func111, Tryd.ntmps111
    go_wp2_with fail
    go_ret
    exact ⟨rfl, Below.refl _ _⟩
  · have b0 : decide ((97 : Int) ≤ (c : Int)) = false := decide_eq_false (by omega)
    have b1 : decide ((65 : Int) ≤ (c : Int)) = false := decide_eq_false (by omega)
    have b2 : decide ((48 : Int) ≤ (c : Int)) = false := decide_eq_false (by omega)
    have r1 : decide (97 ≤ c ∧ c ≤ 122) = false := decide_eq_false (by omega)
    have r2 : decide (65 ≤ c ∧ c ≤ 90) = false := decide_eq_false (by omega)
    have r3 : decide (48 ≤ c ∧ c ≤ 57) = false := decide_eq_false (by omega)
    rw [r1, r2, r3]
    clear r1 r2 r3 q
    go_enter Tryd.func111, Tryd.ntmps111
    go_wp2_with fail
    refine (CS.out _).mono ?_
    rintro e w' ⟨rfl, hb⟩
    go_wp2_with fail
    go_ret
    exact ⟨rfl, hb⟩
  · have b0 : decide ((97 : Int) ≤ (c : Int)) = false := decide_eq_false (by omega)
    have b1 : decide ((65 : Int) ≤ (c : Int)) = false := decide_eq_false (by omega)
    have b2 : decide ((48 : Int) ≤ (c : Int)) = true := decide_eq_true (by omega)
    have b3 : decide ((c : Int) ≤ 57) = false := decide_eq_false (by omega)
    have r1 : decide (97 ≤ c ∧ c ≤ 122) = false := decide_eq_false (by omega)
    have r2 : decide (65 ≤ c ∧ c ≤ 90) = false := decide_eq_false (by omega)
    have r3 : decide (48 ≤ c ∧ c ≤ 57) = false := decide_eq_false (by omega)
    rw [r1, r2, r3]
    clear r1 r2 r3 q
    go_enter Tryd.func111, Tryd.ntmps111
    go_wp2_with fail
    refine (CS.out _).mono ?_
    rintro e w' ⟨rfl, hb⟩
    go_wp2_with fail
    go_ret
    exact ⟨rfl, hb⟩
  · have b0 : decide ((97 : Int) ≤ (c : Int)) = false := decide_eq_false (by omega)
    have b1 : decide ((65 : Int) ≤ (c : Int)) = true := decide_eq_true (by omega)
    have b2 : decide ((c : Int) ≤ 90) = false := decide_eq_false (by omega)
    have b3 : decide ((48 : Int) ≤ (c : Int)) = true := decide_eq_true (by omega)
    have b4 : decide ((c : Int) ≤ 57) = false := decide_eq_false (by omega)
    have r1 : decide (97 ≤ c ∧ c ≤ 122) = false := decide_eq_false (by omega)
    have r2 : decide (65 ≤ c ∧ c ≤ 90) = false := decide_eq_false (by omega)
    have r3 : decide (48 ≤ c ∧ c ≤ 57) = false := decide_eq_false (by omega)
    rw [r1, r2, r3]
    clear r1 r2 r3 q
    go_enter Tryd.func111, Tryd.ntmps111
    go_wp2_with fail
    refine (CS.out _).mono ?_
    rintro e w' ⟨rfl, hb⟩
    go_wp2_with fail
    go_ret
    exact ⟨rfl, hb⟩
  · have b0 : decide ((97 : Int) ≤ (c : Int)) = true := decide_eq_true (by omega)
    have b1 : decide ((c : Int) ≤ 122) = false := decide_eq_false (by omega)
    have b2 : decide ((65 : Int) ≤ (c : Int)) = true := decide_eq_true (by omega)
    have b3 : decide ((c : Int) ≤ 90) = false := decide_eq_false (by omega)
    have b4 : decide ((48 : Int) ≤ (c : Int)) = true := decide_eq_true (by omega)
    have b5 : decide ((c : Int) ≤ 57) = false := decide_eq_false (by omega)
    have r1 : decide (97 ≤ c ∧ c ≤ 122) = false := decide_eq_false (by omega)
    have r2 : decide (65 ≤ c ∧ c ≤ 90) = false := decide_eq_false (by omega)
    have r3 : decide (48 ≤ c ∧ c ≤ 57) = false := decide_eq_false (by omega)
    rw [r1, r2, r3]
    clear r1 r2 r3 q
    go_enter Tryd.func111, Tryd.ntmps111
    go_wp2_with fail
    refine (CS.out _).mono ?_
    rintro e w' ⟨rfl, hb⟩
    go_wp2_with fail
    go_ret
    exact ⟨rfl, hb⟩

theorem name1_any (c : Nat) (h : c ≤ 1114111) (w : World) :
    Calls Tryd.prog 110 #[.int .i32 (c : Int)] w fun e w' => e = .returned (.bool (!signB c)) ∧ Below w.heap.size w w' := by
  go_enter Tryd.func110, Tryd.ntmps110
  go_wp2_with fail
  refine (sign_any c h _).mono ?_
  rintro e w' ⟨rfl, hb⟩
  go_wp2_with fail
  go_ret
  exact ⟨rfl, hb⟩
end Pa
end Go.Proofs.YtjnpmabnnbngeaaDoor
