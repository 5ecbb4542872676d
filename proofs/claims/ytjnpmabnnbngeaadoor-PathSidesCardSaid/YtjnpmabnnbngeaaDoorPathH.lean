/- Contracts for Home and its reference. -/
import Derived.Test.YtjnpmabnnbngeaaDoorPathD
import Derived.Shelf.Strings.SlTrimAscii
import Derived.Lib.AppendIntMem
namespace Go.Proofs.YtjnpmabnnbngeaaDoor
open Go.RowKit Go.Shelf
set_option linter.unusedVariables false
set_option linter.unusedSimpArgs false
namespace Pa
def hexB (c : UInt8) : Bool := decide (48 ≤ c.toNat ∧ c.toNat ≤ 57) || decide (97 ≤ c.toNat ∧ c.toNat ≤ 102)
def HEXA : ByteArray := ⟨#[48, 49, 50, 51, 52, 53, 54, 55, 56, 57, 97, 98, 99, 100, 101, 102]⟩
theorem hexa_all : ∀ c : Fin 256, HEXA.data.toList.contains (UInt8.ofNat c.val) = hexB (UInt8.ofNat c.val) := by decide +kernel
theorem hexa_mem (c : UInt8) : HEXA.data.toList.contains c = hexB c := by
  have := hexa_all ⟨c.toNat, UInt8.toNat_lt c⟩
  simpa using this
def CONF : ByteArray := ⟨#[99, 111, 110, 102, 108, 105, 99, 116, 126]⟩
def homeOk (z : Int) (s : ByteArray) : Bool := decide (0 ≤ z) && decide (z ≤ 16384) && decide (s.size = 64) && (tl s).all hexB
def homeT (z : Int) (s : ByteArray) : ByteArray := CONF ++ ⟨(Lib.decDigits z.toNat).toArray⟩ ++ ⟨#[126]⟩ ++ s
theorem dropWhile_nil {p : UInt8 → Bool} : ∀ l : List UInt8, (l.dropWhile p = []) ↔ l.all p = true
  | [] => by simp
  | b :: l => by
    cases h : p b with
    | true => rw [List.dropWhile_cons_of_pos h, dropWhile_nil l]; simp [h]
    | false => simp [List.dropWhile_cons, h]
theorem dropWhile_head {p : UInt8 → Bool} : ∀ (l : List UInt8) (b : UInt8) (m : List UInt8), l.dropWhile p = b :: m → p b = false
  | [], b, m, h => by simp at h
  | c :: l, b, m, h => by
    cases hc : p c with
    | true => rw [List.dropWhile_cons_of_pos hc] at h; exact dropWhile_head l b m h
    | false => simp [List.dropWhile_cons, hc] at h; rw [← h.1]; exact hc
theorem trimS_nil (l cs : List UInt8) : Lib.trimS l cs = [] ↔ l.all (cs.contains ·) = true := by
  unfold Lib.trimS Lib.trimLeftS Lib.trimRightS
  rw [dropWhile_nil]
  cases h : l.reverse.dropWhile (cs.contains ·) with
  | nil =>
    rw [dropWhile_nil, List.all_reverse] at h
    rw [h]; simp
  | cons b m =>
    have hb := dropWhile_head _ _ _ h
    have hn : ¬ l.reverse.all (cs.contains ·) = true := by rw [← dropWhile_nil, h]; simp
    rw [List.all_reverse] at hn
    constructor
    · intro h2
      rw [List.all_reverse, List.all_cons, hb] at h2
      simp at h2
    · intro h2; exact absurd h2 hn
theorem trim_hex (s : ByteArray) : (Lib.trimS (tl s) (tl HEXA) = []) ↔ (tl s).all hexB = true := by
  rw [trimS_nil]
  have : (fun c : UInt8 => (tl HEXA).contains c) = hexB := funext hexa_mem
  rw [this]

theorem trim_any (s : ByteArray) (hs : s.size ≤ 1000000) (w : World) :
    Calls Tryd.prog 79 #[.string s, .string HEXA] w fun e w' => e = .returned (.string ⟨(Lib.trimS (tl s) (tl HEXA)).toArray⟩) ∧ Below w.heap.size w w' :=
  Any.strings_Trim_laid Tryd.lays160 (by kernel_rfl) s HEXA w (by omega) (by decide) (ascii_of_all (by decide +kernel))

set_option maxHeartbeats 1000000 in
theorem home_bad (z : Int) (s : ByteArray) (hs : s.size ≤ 1000000) (h : homeOk z s = false) (w : World) :
    Calls Tryd.prog 34 #[.int .i64 z, .string s] w fun e w' => e = .returned (.tuple #[.string ⟨#[]⟩, .int .i64 1]) ∧ Below w.heap.size w w' := by
  by_cases h1 : z < 0
  · have b1 : decide (z < 0) = true := decide_eq_true h1
    clear h1 h
    go_enter Tryd.func34, Tryd.ntmps34
    go_wp2_with fail
    refine bodyPost_ret (v := .tuple #[.string ⟨#[]⟩, .int .i64 1]) (by simp [results, Tryd.f34, go_sem]) rfl ⟨rfl, Below.refl _ _⟩
  · have b1 : decide (z < 0) = false := decide_eq_false h1
    by_cases h2 : 16384 < z
    · have b2 : decide (16384 < z) = true := decide_eq_true h2
      clear h1 h2 h
      go_enter Tryd.func34, Tryd.ntmps34
      go_wp2_with fail
      refine bodyPost_ret (v := .tuple #[.string ⟨#[]⟩, .int .i64 1]) (by simp [results, Tryd.f34, go_sem]) rfl ⟨rfl, Below.refl _ _⟩
    · have b2 : decide (16384 < z) = false := decide_eq_false h2
      by_cases h3 : s.size = 64
      · have b3 : ((s.size : Int) == 64) = true := by rw [beq_iff_eq]; omega
        have b4 : ((s.size : Int) != 64) = false := by rw [bne_eq_false_iff_eq]; omega
        have ha : (tl s).all hexB = false := by
          unfold homeOk at h
          rw [decide_eq_true (show 0 ≤ z by omega), decide_eq_true (show z ≤ 16384 by omega), decide_eq_true h3] at h
          simpa using h
        have hn : Lib.trimS (tl s) (tl HEXA) ≠ [] := fun e => by rw [trim_hex, ha] at e; cases e
        have ct := fun w => trim_any s hs w
        obtain ⟨T, hT⟩ : ∃ T, (⟨(Lib.trimS (tl s) (tl HEXA)).toArray⟩ : ByteArray) = T := ⟨_, rfl⟩
        rw [hT] at ct
        have q1 : T.toList ≠ [] := by rw [ByteArray.toList_eq, ← hT]; simpa using hn
        have q2 : (T.toList == []) = false := beq_eq_false_iff_ne.2 q1
        have q3 : T.toList.isEmpty = false := by cases hh : T.toList with | nil => exact absurd hh q1 | cons => rfl
        have CT := Lib.hid ct
        unfold HEXA at CT
        clear h1 h2 h3 h ha hn hT ct
        go_enter Tryd.func34, Tryd.ntmps34
        go_wp2_with fail
        refine (CT.out _).mono ?_
        rintro e w1 ⟨rfl, hw1⟩
        have H1 := Lib.hid hw1
        clear hw1
        go_wp2_with fail
        refine bodyPost_ret (v := .tuple #[.string ⟨#[]⟩, .int .i64 1]) (by simp [results, Tryd.f34, go_sem]) rfl ⟨rfl, H1.out⟩
      · have b3 : ((s.size : Int) == 64) = false := by rw [beq_eq_false_iff_ne]; omega
        have b4 : ((s.size : Int) != 64) = true := by rw [bne_iff_ne]; omega
        clear h1 h2 h3 h
        go_enter Tryd.func34, Tryd.ntmps34
        go_wp2_with fail
        refine bodyPost_ret (v := .tuple #[.string ⟨#[]⟩, .int .i64 1]) (by simp [results, Tryd.f34, go_sem]) rfl ⟨rfl, Below.refl _ _⟩

theorem homeOk_parts {z : Int} {s : ByteArray} (h : homeOk z s = true) : 0 ≤ z ∧ z ≤ 16384 ∧ s.size = 64 ∧ (tl s).all hexB = true := by
  unfold homeOk at h
  simp only [Bool.and_eq_true, decide_eq_true_eq] at h
  exact ⟨h.1.1.1, h.1.1.2, h.1.2, h.2⟩
def TAB : List Int := Lib.pow10Tab
abbrev Tab (w : World) : Prop := Lib.TabIs Tryd.prog w "internal/strconv.uint64pow10" .u64 Lib.pow10Tab

set_option maxHeartbeats 1000000 in
theorem home_good (z : Int) (s : ByteArray) (h : homeOk z s = true) (w : World) (htab : Tab w) :
    Calls Tryd.prog 34 #[.int .i64 z, .string s] w fun e w' => e = .returned (.tuple #[.string (homeT z s), .int .i64 0]) ∧ Below w.heap.size w w' := by
  obtain ⟨h1, h2, h3, h4⟩ := homeOk_parts h
  have b1 : decide (z < 0) = false := decide_eq_false (by omega)
  have b2 : decide (16384 < z) = false := decide_eq_false (by omega)
  have b3 : ((s.size : Int) == 64) = true := by rw [beq_iff_eq]; omega
  have b4 : ((s.size : Int) != 64) = false := by rw [bne_eq_false_iff_eq]; omega
  have ct := fun w => trim_any s (by omega) w
  rw [(trim_hex s).2 h4] at ct
  have CT := Lib.hid ct
  unfold HEXA at CT
  have HT := Lib.hid (Lib.tabBelow_of_tabIs htab)
  have ci := fun w => Tryd.strconv_Itoa z (by omega) (by omega) w
  have e1 : Lib.itoa z = Lib.decDigits z.toNat := by unfold Lib.itoa; rw [if_neg (by omega)]
  rw [e1] at ci
  unfold homeT CONF
  have hd : (Lib.decDigits z.toNat).length ≤ 20 := Nat.le_trans (dec_le 5 z.toNat (by omega)) (by omega)
  obtain ⟨D, hD⟩ : ∃ D, (⟨(Lib.decDigits z.toNat).toArray⟩ : ByteArray) = D := ⟨_, rfl⟩
  rw [hD] at ci ⊢
  have hDs : D.size ≤ 20 := by rw [← hD]; exact hd
  have CI := Lib.hid ci
  clear hd hD e1 ci ct h htab h1 h2 h4
  go_enter Tryd.func34, Tryd.ntmps34
  go_wp2_with fail
  refine (CT.out _).mono ?_
  rintro e w1 ⟨rfl, hw1⟩
  have H1 := Lib.hid hw1
  clear hw1
  go_wp2_with fail
  refine (CI.out _ (HT.out _ H1.out)).mono ?_
  rintro e w2 ⟨rfl, k, os, hw2⟩
  have H2 : Hid (Below w.heap.size w w2) := by rw [hw2]; exact H1.out.trans (Lib.below_grow _ _ H1.out.size _ _)
  clear hw2
  go_wp2_with fail
  refine bodyPost_ret (v := .tuple #[.string (⟨#[99, 111, 110, 102, 108, 105, 99, 116, 126]⟩ ++ D ++ ⟨#[126]⟩ ++ s), .int .i64 0]) (by simp [results, Tryd.f34, go_sem]) rfl ⟨rfl, H2.out⟩
end Pa
end Go.Proofs.YtjnpmabnnbngeaaDoor
