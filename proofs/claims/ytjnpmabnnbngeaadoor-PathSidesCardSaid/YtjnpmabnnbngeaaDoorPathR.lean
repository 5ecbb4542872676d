/- Contracts for the reference of layer 7: sign, Slash, Good. -/
import Derived.Test.YtjnpmabnnbngeaaDoorPathC
import Derived.Deep.LoopGhost
namespace Go.Proofs.YtjnpmabnnbngeaaDoor
open Go.RowKit Go.Shelf
set_option linter.unusedVariables false
set_option linter.unusedSimpArgs false
namespace Pa
def ALL : List UInt8 := [97, 98, 99, 100, 101, 102, 103, 104, 105, 106, 107, 108, 109, 110, 111, 112, 113, 114, 115, 116, 117, 118, 119, 120, 121, 122, 65, 66, 67, 68, 69, 70, 71, 72, 73, 74, 75, 76, 77, 78, 79, 80, 81, 82, 83, 84, 85, 86, 87, 88, 89, 90, 48, 49, 50, 51, 52, 53, 54, 55, 56, 57, 45, 95, 46, 126, 43]
theorem all_sign : ∀ c : Fin 256, (ALL.any fun b => b.toNat == c.val) = signB c.val := by decide +kernel
theorem at_tl {S : ByteArray} {l : List UInt8} (h : S.data.toList = l) (n : Nat) (hn : n < S.size) : l[n]? = some S[n] := by
  subst h
  rw [List.getElem?_eq_getElem (by simpa using hn)]
  rfl
theorem take_any {l : List UInt8} {n : Nat} {b : UInt8} (h : l[n]? = some b) (p : UInt8 → Bool) : (l.take (n + 1)).any p = ((l.take n).any p || p b) := by
  rw [List.take_add_one, h]; simp

set_option maxHeartbeats 1000000 in
theorem refsign_any (c : UInt8) (w : World) :
    Calls Tryd.prog 70 #[.int .u8 c.toNat] w fun e w' => e = .returned (.bool (signB c.toNat)) ∧ w = w' := by
  have hc := all_sign ⟨c.toNat, UInt8.toNat_lt c⟩
  obtain ⟨R, hR⟩ : ∃ R, signB c.toNat = R := ⟨_, rfl⟩
  simp only [] at hc
  rw [hR] at hc ⊢
  have HC := Lib.hid hc
  clear hc hR
  go_enter Tryd.func70, Tryd.ntmps70
  go_wp2_with fail
  generalize hS : ByteArray.mk _ = S
  have h1 : S.size = 67 := by rw [← hS]; rfl
  have h2 : S.data.toList = ALL := by rw [← hS]; rfl
  have H2 := Lib.hid h2
  clear hS h2
  go_loopg [4] 67 (fun gf i wx => ∃ n : Nat, i = .int .i64 n ∧ wx = w ∧ n + gf = 67 ∧ ((ALL.take n).any fun b => b.toNat == c.toNat) = false)
  case atStart => exact ⟨0, rfl, rfl, rfl, rfl⟩
  case round =>
    obtain ⟨n, rfl, rfl, hg, ha⟩ := hrel
    by_cases hlt : n < 67
    · have hb1 : decide ((n : Int) < (S.size : Int)) = true := decide_eq_true (by omega)
      have hls : n < S.size := by omega
      obtain ⟨g', rfl⟩ : ∃ g', gk = g' + 1 := ⟨gk - 1, by omega⟩
      have hat := at_tl H2.out n hls
      have hat2 := take_any hat (fun b => b.toNat == c.toNat)
      rw [ha, Bool.false_or] at hat2
      have HA := Lib.hid hat2
      have HT := Lib.hid hat
      clear ha hat hat2 h1
      by_cases hq : S[n].toNat = c.toNat
      · have hq1 : ((S[n].toNat : Int) == (c.toNat : Int)) = true := by rw [beq_iff_eq]; omega
        have HQ := Lib.hid hq
        clear hq
        go_wp2_with fail
        go_ret
        refine ⟨ret_bool ?_, rfl⟩
        rw [← HC.out]
        refine (List.any_eq_true.2 ⟨S[n], List.mem_of_getElem? HT.out, ?_⟩).symm
        rw [HQ.out]; simp
      · have hq1 : ((S[n].toNat : Int) == (c.toNat : Int)) = false := by rw [beq_eq_false_iff_ne]; omega
        have HQ := Lib.hid hq
        clear hq
        go_wp2_with fail
        go_roundg g'
        case measure => omega
        case rel => exact ⟨n + 1, rfl, rfl, by omega, HA.out.trans (by rw [beq_eq_false_iff_ne]; exact HQ.out)⟩
    · have hb1 : decide ((n : Int) < (S.size : Int)) = false := decide_eq_false (by omega)
      go_wp2_with fail
      go_ret
      have : n = 67 := by omega
      subst this
      refine ⟨ret_bool ?_, rfl⟩
      rw [← HC.out]
      exact ha.symm

theorem getB (s : ByteArray) (n : Nat) (h : n < s.size) : s.data[n]! = s[n] := by
  rw [getElem!_pos s.data n h]; rfl

set_option maxHeartbeats 1000000 in
theorem slash_any (s : ByteArray) (hs : s.size ≤ 1000000) (w : World) :
    Calls Tryd.prog 20 #[.string s] w fun e w' => e = .returned (.int .i64 (Lib.lastIndexByte s 47)) ∧ w = w' := by
  go_enter Tryd.func20, Tryd.ntmps20
  go_wp2_with fail
  go_loopg [3, 4] s.size (fun gf o i wx => ∃ n : Nat, i = .int .i64 n ∧ o = .int .i64 (Lib.lastIdx s 47 n) ∧ wx = w ∧ n + gf = s.size)
  case atStart => exact ⟨0, rfl, rfl, rfl, by omega⟩
  case round =>
    obtain ⟨n, rfl, rfl, rfl, hg⟩ := hrel
    by_cases hlt : n < s.size
    · have hb1 : decide (n < s.size) = true := decide_eq_true (by omega)
      obtain ⟨g', rfl⟩ : ∃ g', gk = g' + 1 := ⟨gk - 1, by omega⟩
      by_cases hq : s[n].toNat = 47
      · have hq1 : ((s[n].toNat : Int) == 47) = true := by rw [beq_iff_eq]; omega
        have e := Lib.lastIdx_hit s 47 n (by rw [getB s n hlt]; omega)
        have HE := Lib.hid e
        clear hq e
        go_wp2_with fail
        go_roundg g'
        case measure => omega
        case rel => exact ⟨n + 1, rfl, by rw [HE.out], rfl, by omega⟩
      · have hq1 : ((s[n].toNat : Int) == 47) = false := by rw [beq_eq_false_iff_ne]; omega
        have e := Lib.lastIdx_miss s 47 n (by rw [getB s n hlt]; omega)
        have HE := Lib.hid e
        clear hq e
        go_wp2_with fail
        go_roundg g'
        case measure => omega
        case rel => exact ⟨n + 1, rfl, by rw [HE.out], rfl, by omega⟩
    · have hb1 : decide (n < s.size) = false := decide_eq_false (by omega)
      go_wp2_with fail
      go_ret
      have : n = s.size := by omega
      subst this
      exact ⟨rfl, rfl⟩

/-- The parts of a text whose first letters have been read. -/
def glue (cur : List UInt8) : List (List UInt8) → List (List UInt8)
  | [] => [cur]
  | p :: ps => (cur ++ p) :: ps
theorem glue_name (cur : List UInt8) (b : UInt8) (l : List UInt8) (hb : b ≠ 47) : glue cur (parts (b :: l)) = glue (cur ++ [b]) (parts l) := by
  rw [parts_cons, if_neg hb]
  cases h : parts l with
  | nil => exact absurd h (parts_ne l)
  | cons p ps => simp [glue]
theorem glue_slash (cur : List UInt8) (l : List UInt8) : glue cur (parts (47 :: l)) = cur :: glue [] (parts l) := by
  rw [parts_cons, if_pos rfl]
  cases h : parts l with
  | nil => exact absurd h (parts_ne l)
  | cons p ps => simp [glue]
theorem glue_start (l : List UInt8) : glue [] (parts l) = parts l := by
  cases h : parts l with
  | nil => exact absurd h (parts_ne l)
  | cons p ps => simp [glue]
theorem glue_bad (cur : List UInt8) (b : UInt8) (l : List UInt8) (hb : signB b.toNat = false) (h47 : b ≠ 47) : (glue cur (parts (b :: l))).all nameB = false := by
  rw [glue_name _ _ _ h47]
  cases h : parts l with
  | nil => exact absurd h (parts_ne l)
  | cons p ps =>
    have : nameB (cur ++ [b] ++ p) = false := by
      unfold nameB; simp [hb]
    simp only [glue, List.all_cons, this, Bool.false_and]
theorem name_signs (cur : List UInt8) (h : cur.all (fun b => signB b.toNat) = true) : nameB cur = (!(cur == []) && !(cur == [46]) && !(cur == [46, 46])) := by
  unfold nameB; rw [h]; simp
end Pa
end Go.Proofs.YtjnpmabnnbngeaaDoor
