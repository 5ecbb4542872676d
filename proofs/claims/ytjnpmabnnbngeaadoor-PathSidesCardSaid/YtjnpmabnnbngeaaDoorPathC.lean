/- Contracts for package path and its reference: which text lies in which, and which clash. -/
import Derived.Test.YtjnpmabnnbngeaaDoorPathG
namespace Go.Proofs.YtjnpmabnnbngeaaDoor
open Go.RowKit Go.Shelf
set_option linter.unusedVariables false
set_option linter.unusedSimpArgs false
namespace Pa
theorem ret_bool {a b : Bool} (h : a = b) : Ending.returned (.bool a) = .returned (.bool b) := by rw [h]
/-- Does s lie in d? -/
def inB (s d : List UInt8) : Bool := decide (d.length + 1 < s.length) && (d ++ [47]).isPrefixOf s

set_option maxHeartbeats 400000 in
theorem in_any (s d : ByteArray) (hs : s.size ≤ 1000000) (hd : d.size ≤ 1000000) (w : World) :
    Calls Tryd.prog 16 #[.string s, .string d] w fun e w' => e = .returned (.bool (inB (tl s) (tl d))) ∧ w = w' := by
  by_cases h : d.size + 1 < s.size
  · have b1 : decide ((d.size : Int) + 1 < (s.size : Int)) = true := decide_eq_true (by omega)
    have e : inB (tl s) (tl d) = Lib.hasPrefix (tl s) (tl d ++ [47]) := by
      unfold inB; rw [decide_eq_true (by simpa using h)]; rfl
    rw [e]
    have E := Lib.hid e
    clear e h
    go_enter Tryd.func16, Tryd.ntmps16
    go_wp2_with fail
    refine (Tryd.strings_HasPrefix _ _ _).mono ?_
    rintro e w' ⟨rfl, hw⟩
    subst hw
    go_wp2_with fail
    go_ret
    refine ⟨ret_bool ?_, rfl⟩
    simp [tl]
  · have b1 : decide ((d.size : Int) + 1 < (s.size : Int)) = false := decide_eq_false (by omega)
    have e : inB (tl s) (tl d) = false := by
      unfold inB; rw [decide_eq_false (by simpa using h)]; rfl
    rw [e]
    clear e h
    go_enter Tryd.func16, Tryd.ntmps16
    go_wp2_with fail
    go_ret
    exact ⟨rfl, rfl⟩

theorem clash_any (a b : ByteArray) (ha : a.size ≤ 1000000) (hb : b.size ≤ 1000000) (w : World) :
    Calls Tryd.prog 18 #[.string a, .string b] w fun e w' => e = .returned (.bool (inB (tl a) (tl b) || inB (tl b) (tl a))) ∧ w = w' := by
  have c1 := in_any a b ha hb w
  have c2 := in_any b a hb ha w
  cases h : inB (tl a) (tl b) with
  | true =>
    rw [h] at c1
    have C1 := Lib.hid c1
    clear c1 c2 h
    go_enter Tryd.func18, Tryd.ntmps18
    go_wp2_with fail
    refine C1.out.mono ?_
    rintro e w' ⟨rfl, rfl⟩
    go_wp2_with fail
    go_ret
    exact ⟨rfl, rfl⟩
  | false =>
    rw [h] at c1
    have C1 := Lib.hid c1
    have C2 := Lib.hid c2
    clear c1 c2 h
    go_enter Tryd.func18, Tryd.ntmps18
    go_wp2_with fail
    refine C1.out.mono ?_
    rintro e w' ⟨rfl, rfl⟩
    go_wp2_with fail
    refine C2.out.mono ?_
    rintro e w' ⟨rfl, rfl⟩
    go_wp2_with fail
    go_ret
    exact ⟨ret_bool (by simp), rfl⟩

/-- Does s begin with p? -/
def startsB (s p : List UInt8) : Bool := decide (p.length ≤ s.length) && s.take p.length == p
theorem starts_prefix (s p : List UInt8) : startsB s p = p.isPrefixOf s := by
  unfold startsB
  rw [Bool.eq_iff_iff]
  simp only [Bool.and_eq_true, decide_eq_true_eq, beq_iff_eq, List.isPrefixOf_iff_prefix]
  constructor
  · rintro ⟨_, h⟩; rw [← h]; exact List.take_prefix _ _
  · intro h; exact ⟨h.length_le, (List.prefix_iff_eq_take.1 h).symm⟩

set_option maxHeartbeats 400000 in
theorem starts_any (s p : ByteArray) (w : World) :
    Calls Tryd.prog 67 #[.string s, .string p] w fun e w' => e = .returned (.bool ((tl p).isPrefixOf (tl s))) ∧ w = w' := by
  rw [← starts_prefix]
  by_cases h : p.size ≤ s.size
  · have b1 : decide ((p.size : Int) ≤ (s.size : Int)) = true := decide_eq_true (by omega)
    have e : startsB (tl s) (tl p) = ((tl s).take p.size == tl p) := by
      unfold startsB; rw [decide_eq_true (by simpa using h)]; simp [tl]
    rw [e]
    clear e
    go_enter Tryd.func67, Tryd.ntmps67
    go_wp2_with fail
    go_ret
    exact ⟨ret_bool (by rw [ByteArray.toList_eq, ByteArray.toList_eq]; simp [tl]), rfl⟩
  · have b1 : decide ((p.size : Int) ≤ (s.size : Int)) = false := decide_eq_false (by omega)
    have b2 : decide (p.size ≤ s.size) = false := decide_eq_false h
    have e : startsB (tl s) (tl p) = false := by
      unfold startsB; rw [decide_eq_false (by simpa using h)]; rfl
    rw [e]
    clear e h
    go_enter Tryd.func67, Tryd.ntmps67
    go_wp2_with fail
    go_ret
    exact ⟨rfl, rfl⟩

set_option maxHeartbeats 400000 in
theorem refin_any (s d : ByteArray) (hs : s.size ≤ 1000000) (hd : d.size ≤ 1000000) (w : World) :
    Calls Tryd.prog 17 #[.string s, .string d] w fun e w' => e = .returned (.bool (inB (tl s) (tl d))) ∧ w = w' := by
  by_cases h : d.size + 1 < s.size
  · have b1 : decide ((d.size : Int) + 1 < (s.size : Int)) = true := decide_eq_true (by omega)
    have e : inB (tl s) (tl d) = (tl d ++ [47]).isPrefixOf (tl s) := by
      unfold inB; rw [decide_eq_true (by simpa using h)]; rfl
    rw [e]
    have E := Lib.hid e
    clear e h
    go_enter Tryd.func17, Tryd.ntmps17
    go_wp2_with fail
    refine (starts_any _ _ _).mono ?_
    rintro e w' ⟨rfl, rfl⟩
    go_wp2_with fail
    go_ret
    refine ⟨ret_bool ?_, rfl⟩
    simp [tl]
  · have b1 : decide ((d.size : Int) + 1 < (s.size : Int)) = false := decide_eq_false (by omega)
    have e : inB (tl s) (tl d) = false := by
      unfold inB; rw [decide_eq_false (by simpa using h)]; rfl
    rw [e]
    clear e h
    go_enter Tryd.func17, Tryd.ntmps17
    go_wp2_with fail
    go_ret
    exact ⟨rfl, rfl⟩

theorem awake_any (w : World) :
    Calls Tryd.prog 15 #[] w fun e w' => e = .returned (.bool true) ∧ Below w.heap.size w w' := by
  have c1 := fun w => in_any ⟨#[97, 47, 98]⟩ ⟨#[97]⟩ (by decide) (by decide) w
  have c2 := fun w => good_any ⟨#[97, 47, 98]⟩ w
  have c3 := fun w => good_any ⟨#[]⟩ w
  have e1 : inB (tl ⟨#[97, 47, 98]⟩) (tl ⟨#[97]⟩) = true := by decide
  have e2 : goodB (tl ⟨#[97, 47, 98]⟩) = true := by decide
  have e3 : goodB (tl ⟨#[]⟩) = false := by decide
  rw [e1] at c1
  rw [e2] at c2
  rw [e3] at c3
  have C1 := Lib.hid c1
  have C2 := Lib.hid c2
  have C3 := Lib.hid c3
  clear c1 c2 c3 e1 e2 e3
  go_enter Tryd.func15, Tryd.ntmps15
  go_wp2_with fail
  refine (C1.out _).mono ?_
  rintro e w' ⟨rfl, rfl⟩
  go_wp2_with fail
  refine (C2.out _).mono ?_
  rintro e w2 ⟨rfl, h2⟩
  have H2 := Lib.hid h2
  clear h2
  go_wp2_with fail
  refine (C3.out _).mono ?_
  rintro e w3 ⟨rfl, h3⟩
  have H3 := Lib.hid h3
  clear h3
  go_wp2_with fail
  go_ret
  exact ⟨rfl, H2.out.trans (H3.out.mono H2.out.size)⟩
end Pa
end Go.Proofs.YtjnpmabnnbngeaaDoor
