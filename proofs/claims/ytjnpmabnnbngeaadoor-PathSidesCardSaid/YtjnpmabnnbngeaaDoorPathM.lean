/- Contracts for Temp, Side, Copy and their reference. -/
import Derived.Test.YtjnpmabnnbngeaaDoorPathH2
import Derived.Deep.QuietTactic
import Derived.BigQuiet
namespace Go.Proofs.YtjnpmabnnbngeaaDoor
open Go.RowKit Go.Shelf
set_option linter.unusedVariables false
set_option linter.unusedSimpArgs false
namespace Pa
/-- A path whose last name has something ahead of it. -/
def withB (s a : ByteArray) : ByteArray := s.extract 0 (Lib.lastIndexByte s 47 + 1).toNat ++ a ++ lastB s
def withOk (s a : ByteArray) : Bool := goodB (tl s) && goodB (tl (withB s a))
def TextPost (ok : Bool) (t : ByteArray) (code : Int) (w : World) (e : Ending) (w' : World) : Prop :=
  e = .returned (.tuple #[.string (if ok then t else ⟨#[]⟩), .int .i64 (if ok then 0 else code)]) ∧ Below w.heap.size w w'
theorem last_k (s : ByteArray) : ∃ m : Nat, m ≤ s.size ∧ Lib.lastIndexByte s 47 = (m : Int) - 1 ∧ (Lib.lastIndexByte s 47 + 1).toNat = m ∧ lastB s = s.extract m s.size := by
  unfold lastB
  rcases last_slash s with h | ⟨i, h1, h2⟩
  · exact ⟨0, by omega, by rw [h]; rfl, by rw [h]; rfl, by rw [h]; rfl⟩
  · exact ⟨i + 1, h1, by omega, by rw [h2]; rfl, by rw [h2]; rfl⟩
theorem trim_last (s : ByteArray) (m : Nat) (hm : m ≤ s.size) : (⟨(Lib.trimSuffix (tl s) (tl (s.extract m s.size))).toArray⟩ : ByteArray) = s.extract 0 m := by
  have hl : (tl s).length = s.size := by simp [tl]
  have e1 : tl (s.extract m s.size) = (tl s).drop m := by
    rw [tl_extract, List.take_of_length_le (by omega)]
  rw [e1]
  unfold Lib.trimSuffix Lib.hasSuffix
  rw [if_pos (List.isSuffixOf_iff_suffix.2 (List.drop_suffix _ _))]
  apply ByteArray.ext
  apply Array.toList_inj.1
  rw [show (s.extract 0 m).data.toList = tl (s.extract 0 m) from rfl, extract_upto]
  show (tl s).take ((tl s).length - ((tl s).drop m).length) = _
  rw [List.length_drop, show (tl s).length - ((tl s).length - m) = m by omega]

set_option maxHeartbeats 1000000 in
theorem with_any (s a : ByteArray) (hs : s.size ≤ 1000000) (ha : a.size ≤ 1000) (w : World) :
    Calls Tryd.prog 82 #[.string s, .string a] w (TextPost (withOk s a) (withB s a) 7 w) := by
  obtain ⟨m, hm, hm1, hm2, hm3⟩ := last_k s
  have cb := fun w => base_any s hs w
  have ct := fun w => Tryd.strings_TrimSuffix s (s.extract m s.size) w (by omega)
  rw [show Lib.trimSuffix s.data.toList (s.extract m s.size).data.toList = Lib.trimSuffix (tl s) (tl (s.extract m s.size)) from rfl, trim_last s m hm] at ct
  have ew : withB s a = s.extract 0 m ++ a ++ s.extract m s.size := by unfold withB; rw [hm2, hm3]
  rw [hm3] at cb
  obtain ⟨P1, hP1⟩ : ∃ P1, s.extract 0 m = P1 := ⟨_, rfl⟩
  obtain ⟨P2, hP2⟩ : ∃ P2, s.extract m s.size = P2 := ⟨_, rfl⟩
  have z1 : P1.size ≤ 1000000 := by rw [← hP1]; simp; omega
  have z2 : P2.size ≤ 1000000 := by rw [← hP2]; simp; omega
  have g1 := fun w => good_any s w
  have g2 := fun w => good_any (withB s a) w
  rw [hP1] at ct ew
  rw [hP2] at ct ew cb
  unfold withOk
  rw [ew] at g2 ⊢
  have CB := Lib.hid cb
  have CT := Lib.hid ct
  clear cb ct ew hP1 hP2 hm hm1 hm2 hm3
  cases hg : goodB (tl s) with
  | false =>
    rw [hg] at g1
    have G1 := Lib.hid g1
    clear g1 g2 hg
    go_enter Tryd.func82, Tryd.ntmps82
    go_wp2_with fail
    refine (CB.out _).mono ?_
    rintro e w' ⟨rfl, rfl⟩
    go_wp2_with fail
    refine (CT.out _).mono ?_
    rintro e w' ⟨rfl, hw⟩
    subst hw
    go_wp2_with fail
    refine (CB.out _).mono ?_
    rintro e w' ⟨rfl, rfl⟩
    go_wp2_with fail
    refine (G1.out _).mono ?_
    rintro e w1 ⟨rfl, hw1⟩
    have H1 := Lib.hid hw1
    clear hw1
    go_wp2_with fail
    refine bodyPost_ret (v := .tuple #[.string ⟨#[]⟩, .int .i64 7]) (by simp [results, Tryd.f82, go_sem]) rfl ⟨rfl, H1.out⟩
  | true =>
    rw [hg] at g1
    have G1 := Lib.hid g1
    cases hg2 : goodB (tl (P1 ++ a ++ P2)) with
    | false =>
      rw [hg2] at g2
      have G2 := Lib.hid g2
      clear g1 g2 hg hg2
      go_enter Tryd.func82, Tryd.ntmps82
      go_wp2_with fail
      refine (CB.out _).mono ?_
      rintro e w' ⟨rfl, rfl⟩
      go_wp2_with fail
      refine (CT.out _).mono ?_
      rintro e w' ⟨rfl, hw⟩
      subst hw
      go_wp2_with fail
      refine (CB.out _).mono ?_
      rintro e w' ⟨rfl, rfl⟩
      go_wp2_with fail
      refine (G1.out _).mono ?_
      rintro e w1 ⟨rfl, hw1⟩
      have H1 := Lib.hid hw1
      clear hw1
      go_wp2_with fail
      refine (G2.out _).mono ?_
      rintro e w2 ⟨rfl, hw2⟩
      have H2 := Lib.hid hw2
      clear hw2
      go_wp2_with fail
      refine bodyPost_ret (v := .tuple #[.string ⟨#[]⟩, .int .i64 7]) (by simp [results, Tryd.f82, go_sem]) rfl ⟨rfl, H1.out.trans (H2.out.mono H1.out.size)⟩
    | true =>
      rw [hg2] at g2
      have G2 := Lib.hid g2
      clear g1 g2 hg hg2
      go_enter Tryd.func82, Tryd.ntmps82
      go_wp2_with fail
      refine (CB.out _).mono ?_
      rintro e w' ⟨rfl, rfl⟩
      go_wp2_with fail
      refine (CT.out _).mono ?_
      rintro e w' ⟨rfl, hw⟩
      subst hw
      go_wp2_with fail
      refine (CB.out _).mono ?_
      rintro e w' ⟨rfl, rfl⟩
      go_wp2_with fail
      refine (G1.out _).mono ?_
      rintro e w1 ⟨rfl, hw1⟩
      have H1 := Lib.hid hw1
      clear hw1
      go_wp2_with fail
      refine (G2.out _).mono ?_
      rintro e w2 ⟨rfl, hw2⟩
      have H2 := Lib.hid hw2
      clear hw2
      go_wp2_with fail
      refine bodyPost_ret (v := .tuple #[.string (P1 ++ a ++ P2), .int .i64 0]) (by simp [results, Tryd.f82, go_sem]) rfl ⟨rfl, H1.out.trans (H2.out.mono H1.out.size)⟩

set_option maxHeartbeats 1000000 in
theorem refwith_any (s a : ByteArray) (hs : s.size ≤ 1000000) (ha : a.size ≤ 1000) (w : World) :
    Calls Tryd.prog 39 #[.string s, .string a] w (TextPost (withOk s a) (withB s a) 7 w) := by
  obtain ⟨m, hm, hm1, hm2, hm3⟩ := last_k s
  have cb := fun w => slash_any s hs w
  rw [hm1] at cb
  have ew : withB s a = s.extract 0 m ++ a ++ s.extract m s.size := by unfold withB; rw [hm2, hm3]
  have z1 : (s.extract 0 m).size ≤ 1000000 := by simp; omega
  have z2 : (s.extract m s.size).size ≤ 1000000 := by simp; omega
  have g1 := fun w => refgood_any s w
  have g2 := fun w => refgood_any (withB s a) w
  unfold withOk
  rw [ew] at g2 ⊢
  have f1 : (0 : Int) ≤ (m : Int) := by omega
  have f2 : (m : Int) ≤ (s.size : Int) := by omega
  have CB := Lib.hid cb
  clear cb ew hm1 hm2 hm3
  cases hg : goodB (tl s) with
  | false =>
    rw [hg] at g1
    have G1 := Lib.hid g1
    clear g1 g2 hg
    go_enter Tryd.func39, Tryd.ntmps39
    go_wp2_with fail
    refine (CB.out _).mono ?_
    rintro e w' ⟨rfl, rfl⟩
    go_wp2_with fail
    go_quiet (fail)
    have hbq := below_drewNg w nq
    generalize hwq : w.drewN nq = wq at *
    have HBQ := Lib.hid hbq
    clear hwq hbq
    go_wp2_with fail
    refine (G1.out _).mono ?_
    rintro e w' ⟨rfl, rfl⟩
    go_wp2_with fail
    refine bodyPost_ret (v := .tuple #[.string ⟨#[]⟩, .int .i64 7]) (by simp [results, Tryd.f39, go_sem]) rfl ⟨rfl, HBQ.out⟩
  | true =>
    rw [hg] at g1
    have G1 := Lib.hid g1
    cases hg2 : goodB (tl (s.extract 0 m ++ a ++ s.extract m s.size)) with
    | false =>
      rw [hg2] at g2
      have G2 := Lib.hid g2
      clear g1 g2 hg hg2
      go_enter Tryd.func39, Tryd.ntmps39
      go_wp2_with fail
      refine (CB.out _).mono ?_
      rintro e w' ⟨rfl, rfl⟩
      go_wp2_with fail
      go_quiet (fail)
      have hbq := below_drewNg w nq
      generalize hwq : w.drewN nq = wq at *
      have HBQ := Lib.hid hbq
      clear hwq hbq
      go_wp2_with fail
      refine (G1.out _).mono ?_
      rintro e w' ⟨rfl, rfl⟩
      go_wp2_with fail
      refine (G2.out _).mono ?_
      rintro e w' ⟨rfl, rfl⟩
      go_wp2_with fail
      refine bodyPost_ret (v := .tuple #[.string ⟨#[]⟩, .int .i64 7]) (by simp [results, Tryd.f39, go_sem]) rfl ⟨rfl, HBQ.out⟩
    | true =>
      rw [hg2] at g2
      have G2 := Lib.hid g2
      clear g1 g2 hg hg2
      go_enter Tryd.func39, Tryd.ntmps39
      go_wp2_with fail
      refine (CB.out _).mono ?_
      rintro e w' ⟨rfl, rfl⟩
      go_wp2_with fail
      go_quiet (fail)
      have hbq := below_drewNg w nq
      generalize hwq : w.drewN nq = wq at *
      have HBQ := Lib.hid hbq
      clear hwq hbq
      go_wp2_with fail
      refine (G1.out _).mono ?_
      rintro e w' ⟨rfl, rfl⟩
      go_wp2_with fail
      refine (G2.out _).mono ?_
      rintro e w' ⟨rfl, rfl⟩
      go_wp2_with fail
      refine bodyPost_ret (v := .tuple #[.string (s.extract 0 m ++ a ++ s.extract m s.size), .int .i64 0]) (by simp [results, Tryd.f39, go_sem]) rfl ⟨rfl, HBQ.out⟩
end Pa
end Go.Proofs.YtjnpmabnnbngeaaDoor
