/- Contracts for the parts and the kinds of paths, and their reference. -/
import Derived.Test.YtjnpmabnnbngeaaDoorPathR2
namespace Go.Proofs.YtjnpmabnnbngeaaDoor
open Go.RowKit Go.Shelf
set_option linter.unusedVariables false
set_option linter.unusedSimpArgs false
namespace Pa
set_option maxHeartbeats 400000 in
theorem refgood_any (s : ByteArray) (w : World) :
    Calls Tryd.prog 22 #[.string s] w fun e w' => e = .returned (.bool (goodB (tl s))) ∧ w = w' := by
  by_cases h : s.size ≤ 100
  · have e : goodB (tl s) = (parts (tl s)).all nameB := by
      unfold goodB; rw [decide_eq_true (by simpa using h)]; rfl
    rw [e]
    exact refgood_in s h w
  · have e : goodB (tl s) = false := by
      unfold goodB; rw [decide_eq_false (by simpa using h)]; rfl
    rw [e]
    have h1 : decide ((100 : Int) < (s.size : Int)) = true := decide_eq_true (by omega)
    go_enter Tryd.func22, Tryd.ntmps22
    go_wp2_with fail
    go_ret
    exact ⟨rfl, rfl⟩

/-- The last slash: none, or its place. -/
theorem last_slash (s : ByteArray) : Lib.lastIndexByte s 47 = -1 ∨ ∃ m : Nat, m < s.size ∧ Lib.lastIndexByte s 47 = (m : Int) := by
  rcases Lib.lastIndexByte_spec s 47 with ⟨h, _⟩ | ⟨i, h1, h2, _⟩
  · exact .inl h
  · exact .inr ⟨i, h1, h2⟩
/-- What is behind the last slash. -/
def lastB (s : ByteArray) : ByteArray := s.extract (Lib.lastIndexByte s 47 + 1).toNat s.size
/-- What is ahead of it. -/
def dirB (s : ByteArray) : ByteArray := s.extract 0 (Lib.lastIndexByte s 47).toNat

set_option maxHeartbeats 400000 in
theorem base_any (s : ByteArray) (hs : s.size ≤ 1000000) (w : World) :
    Calls Tryd.prog 26 #[.string s] w fun e w' => e = .returned (.string (lastB s)) ∧ w = w' := by
  unfold lastB
  have C := Lib.hid (fun w => Tryd.strings_LastIndexByte s 47 (by omega) w)
  rcases last_slash s with h | ⟨m, hm, h⟩
  · rw [h] at C ⊢
    clear h
    go_enter Tryd.func26, Tryd.ntmps26
    go_wp2_with fail
    refine (C.out _).mono ?_
    rintro e w' ⟨rfl, rfl⟩
    go_wp2_with fail
    go_ret
    exact ⟨congrArg (fun x => Ending.returned (Value.string x)) (ByteArray.ext (by simp)), rfl⟩
  · rw [h] at C ⊢
    clear h
    have hm1 : m + 1 ≤ s.size := hm
    have e1 : ((m : Int) + 1).toNat = m + 1 := by omega
    rw [e1]
    clear e1
    go_enter Tryd.func26, Tryd.ntmps26
    go_wp2_with fail
    refine (C.out _).mono ?_
    rintro e w' ⟨rfl, rfl⟩
    go_wp2_with fail
    go_ret
    exact ⟨rfl, rfl⟩

set_option maxHeartbeats 400000 in
theorem dir_any (s : ByteArray) (hs : s.size ≤ 1000000) (w : World) :
    Calls Tryd.prog 25 #[.string s] w fun e w' => e = .returned (.string (dirB s)) ∧ w = w' := by
  unfold dirB
  have C := Lib.hid (fun w => Tryd.strings_LastIndexByte s 47 (by omega) w)
  rcases last_slash s with h | ⟨m, hm, h⟩
  · rw [h] at C ⊢
    clear h
    go_enter Tryd.func25, Tryd.ntmps25
    go_wp2_with fail
    refine (C.out _).mono ?_
    rintro e w' ⟨rfl, rfl⟩
    go_wp2_with fail
    go_ret
    exact ⟨rfl, rfl⟩
  · rw [h] at C ⊢
    clear h
    have hm1 : m ≤ s.size := by omega
    rw [Int.toNat_natCast]
    go_enter Tryd.func25, Tryd.ntmps25
    go_wp2_with fail
    refine (C.out _).mono ?_
    rintro e w' ⟨rfl, rfl⟩
    go_wp2_with fail
    go_ret
    exact ⟨rfl, rfl⟩

def TMP : ByteArray := ⟨#[46, 116, 109, 112, 126]⟩
def PAR : ByteArray := ⟨#[46, 112, 97, 114, 126]⟩
/-- The kind of a path. -/
def kindN (s : ByteArray) : Nat :=
  if goodB (tl s) = false then 0 else if (tl TMP).isPrefixOf (tl (lastB s)) = true then 1 else if (tl PAR).isPrefixOf (tl (lastB s)) = true then 2 else 3
theorem kind_cases (s : ByteArray) : (goodB (tl s) = false ∧ kindN s = 0) ∨ (goodB (tl s) = true ∧ (tl TMP).isPrefixOf (tl (lastB s)) = true ∧ kindN s = 1) ∨
    (goodB (tl s) = true ∧ (tl TMP).isPrefixOf (tl (lastB s)) = false ∧ (tl PAR).isPrefixOf (tl (lastB s)) = true ∧ kindN s = 2) ∨
    (goodB (tl s) = true ∧ (tl TMP).isPrefixOf (tl (lastB s)) = false ∧ (tl PAR).isPrefixOf (tl (lastB s)) = false ∧ kindN s = 3) := by
  unfold kindN
  cases goodB (tl s) <;> cases (tl TMP).isPrefixOf (tl (lastB s)) <;> cases (tl PAR).isPrefixOf (tl (lastB s)) <;> simp

set_option maxHeartbeats 1000000 in
theorem kind_any (s : ByteArray) (hs : s.size ≤ 1000000) (w : World) :
    Calls Tryd.prog 23 #[.string s] w fun e w' => e = .returned (.int .i64 (kindN s)) ∧ Below w.heap.size w w' := by
  have CB := Lib.hid (fun w => base_any s hs w)
  have cg := fun w => good_any s w
  have c1 := fun w => Tryd.strings_HasPrefix (lastB s) TMP w
  have c2 := fun w => Tryd.strings_HasPrefix (lastB s) PAR w
  rw [show Lib.hasPrefix (lastB s).data.toList TMP.data.toList = (tl TMP).isPrefixOf (tl (lastB s)) from rfl] at c1
  rw [show Lib.hasPrefix (lastB s).data.toList PAR.data.toList = (tl PAR).isPrefixOf (tl (lastB s)) from rfl] at c2
  rcases kind_cases s with ⟨h1, h4⟩ | ⟨h1, h2, h4⟩ | ⟨h1, h2, h3, h4⟩ | ⟨h1, h2, h3, h4⟩
  all_goals
    rw [h4]
    rw [h1] at cg
    have CG := Lib.hid cg
    clear cg h1 h4 hs
  · go_enter Tryd.func23, Tryd.ntmps23
    go_wp2_with fail
    refine (CB.out _).mono ?_
    rintro e w' ⟨rfl, rfl⟩
    go_wp2_with fail
    refine (CG.out _).mono ?_
    rintro e w' ⟨rfl, hb⟩
    have HB := Lib.hid hb
    clear hb
    go_wp2_with fail
    go_ret
    exact ⟨rfl, HB.out⟩
  all_goals
    rw [h2] at c1
    have C1 := Lib.hid c1
    unfold TMP at C1
    clear c1 h2
  · go_enter Tryd.func23, Tryd.ntmps23
    go_wp2_with fail
    refine (CB.out _).mono ?_
    rintro e w' ⟨rfl, rfl⟩
    go_wp2_with fail
    refine (CG.out _).mono ?_
    rintro e w' ⟨rfl, hb⟩
    have HB := Lib.hid hb
    clear hb
    go_wp2_with fail
    refine (C1.out _).mono ?_
    rintro e w' ⟨rfl, rfl⟩
    go_wp2_with fail
    go_ret
    exact ⟨rfl, HB.out⟩
  all_goals
    rw [h3] at c2
    have C2 := Lib.hid c2
    unfold PAR at C2
    clear c2 h3
    go_enter Tryd.func23, Tryd.ntmps23
    go_wp2_with fail
    refine (CB.out _).mono ?_
    rintro e w' ⟨rfl, rfl⟩
    go_wp2_with fail
    refine (CG.out _).mono ?_
    rintro e w' ⟨rfl, hb⟩
    have HB := Lib.hid hb
    clear hb
    go_wp2_with fail
    refine (C1.out _).mono ?_
    rintro e w' ⟨rfl, rfl⟩
    go_wp2_with fail
    refine (C2.out _).mono ?_
    rintro e w' ⟨rfl, rfl⟩
    go_wp2_with fail
    go_ret
    exact ⟨rfl, HB.out⟩

set_option maxHeartbeats 1000000 in
theorem refkind_any (s : ByteArray) (hs : s.size ≤ 1000000) (w : World) :
    Calls Tryd.prog 24 #[.string s] w fun e w' => e = .returned (.int .i64 (kindN s)) ∧ w = w' := by
  have cb := fun w => slash_any s hs w
  have cg := fun w => refgood_any s w
  obtain ⟨m, hm, hm1, hm2⟩ : ∃ m : Nat, m ≤ s.size ∧ Lib.lastIndexByte s 47 = (m : Int) - 1 ∧ lastB s = s.extract m s.size := by
    unfold lastB
    rcases last_slash s with h | ⟨i, h1, h2⟩
    · exact ⟨0, by omega, by rw [h]; rfl, by rw [h]; rfl⟩
    · exact ⟨i + 1, h1, by omega, by rw [h2]; rfl⟩
  rw [hm1] at cb
  have c1 := fun w => starts_any (lastB s) TMP w
  have c2 := fun w => starts_any (lastB s) PAR w
  rcases kind_cases s with ⟨h1, h4⟩ | ⟨h1, h2, h4⟩ | ⟨h1, h2, h3, h4⟩ | ⟨h1, h2, h3, h4⟩
  all_goals
    rw [h4]
    rw [h1] at cg
    have CG := Lib.hid cg
    have CB := Lib.hid cb
    clear cg h1 h4 cb hm1
  · go_enter Tryd.func24, Tryd.ntmps24
    go_wp2_with fail
    refine (CG.out _).mono ?_
    rintro e w' ⟨rfl, rfl⟩
    go_wp2_with fail
    go_ret
    exact ⟨rfl, rfl⟩
  all_goals
    rw [h2] at c1
    rw [hm2] at c1 c2
    have C1 := Lib.hid c1
    unfold TMP at C1
    clear c1 h2
  · go_enter Tryd.func24, Tryd.ntmps24
    go_wp2_with fail
    refine (CG.out _).mono ?_
    rintro e w' ⟨rfl, rfl⟩
    go_wp2_with fail
    refine (CB.out _).mono ?_
    rintro e w' ⟨rfl, rfl⟩
    go_wp2_with fail
    refine (C1.out _).mono ?_
    rintro e w' ⟨rfl, rfl⟩
    go_wp2_with fail
    go_ret
    exact ⟨rfl, rfl⟩
  all_goals
    rw [← hm2, h3, hm2] at c2
    have C2 := Lib.hid c2
    unfold PAR at C2
    clear c2 h3
    go_enter Tryd.func24, Tryd.ntmps24
    go_wp2_with fail
    refine (CG.out _).mono ?_
    rintro e w' ⟨rfl, rfl⟩
    go_wp2_with fail
    refine (CB.out _).mono ?_
    rintro e w' ⟨rfl, rfl⟩
    go_wp2_with fail
    refine (C1.out _).mono ?_
    rintro e w' ⟨rfl, rfl⟩
    go_wp2_with fail
    refine (C2.out _).mono ?_
    rintro e w' ⟨rfl, rfl⟩
    go_wp2_with fail
    go_ret
    exact ⟨rfl, rfl⟩
end Pa
end Go.Proofs.YtjnpmabnnbngeaaDoor
