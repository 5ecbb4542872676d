/- The contract for the reference's Home. -/
import Derived.Test.YtjnpmabnnbngeaaDoorPathH
namespace Go.Proofs.YtjnpmabnnbngeaaDoor
open Go.RowKit Go.Shelf
set_option linter.unusedVariables false
set_option linter.unusedSimpArgs false
namespace Pa
set_option maxHeartbeats 1000000 in
theorem refhome_early (z : Int) (s : ByteArray) (h : z < 0 ∨ 16384 < z ∨ s.size ≠ 64) (w : World) :
    Calls Tryd.prog 35 #[.int .i64 z, .string s] w fun e w' => e = .returned (.tuple #[.string ⟨#[]⟩, .int .i64 1]) ∧ Below w.heap.size w w' := by
  by_cases h1 : z < 0
  · have b1 : decide (z < 0) = true := decide_eq_true h1
    clear h1 h
    go_enter Tryd.func35, Tryd.ntmps35
    go_wp2_with fail
    refine bodyPost_ret (v := .tuple #[.string ⟨#[]⟩, .int .i64 1]) (by simp [results, Tryd.f35, go_sem]) rfl ⟨rfl, Below.refl _ _⟩
  · have b1 : decide (z < 0) = false := decide_eq_false h1
    by_cases h2 : 16384 < z
    · have b2 : decide (16384 < z) = true := decide_eq_true h2
      clear h1 h2 h
      go_enter Tryd.func35, Tryd.ntmps35
      go_wp2_with fail
      refine bodyPost_ret (v := .tuple #[.string ⟨#[]⟩, .int .i64 1]) (by simp [results, Tryd.f35, go_sem]) rfl ⟨rfl, Below.refl _ _⟩
    · have b2 : decide (16384 < z) = false := decide_eq_false h2
      have h3 : s.size ≠ 64 := by omega
      have b3 : ((s.size : Int) == 64) = false := by rw [beq_eq_false_iff_ne]; omega
      have b4 : ((s.size : Int) != 64) = true := by rw [bne_iff_ne]; omega
      clear h1 h2 h3 h
      go_enter Tryd.func35, Tryd.ntmps35
      go_wp2_with fail
      refine bodyPost_ret (v := .tuple #[.string ⟨#[]⟩, .int .i64 1]) (by simp [results, Tryd.f35, go_sem]) rfl ⟨rfl, Below.refl _ _⟩

def HomePost (ok : Bool) (z : Int) (s : ByteArray) (w : World) (e : Ending) (w' : World) : Prop :=
  e = .returned (.tuple #[.string (if ok then homeT z s else ⟨#[]⟩), .int .i64 (if ok then 0 else 1)]) ∧ Below w.heap.size w w'

theorem take_all {l : List UInt8} {n : Nat} {b : UInt8} (h : l[n]? = some b) (p : UInt8 → Bool) : (l.take (n + 1)).all p = ((l.take n).all p && p b) := by
  rw [List.take_add_one, h]; simp
theorem hex_cases (c : UInt8) : (48 ≤ c.toNat ∧ c.toNat ≤ 57 ∧ hexB c = true) ∨ (c.toNat < 48 ∧ hexB c = false) ∨ (48 ≤ c.toNat ∧ 57 < c.toNat ∧ 97 ≤ c.toNat ∧ c.toNat ≤ 102 ∧ hexB c = true) ∨ (57 < c.toNat ∧ c.toNat < 97 ∧ hexB c = false) ∨ (102 < c.toNat ∧ hexB c = false) := by
  unfold hexB
  by_cases h1 : c.toNat < 48
  · right; left; refine ⟨h1, ?_⟩; simp; omega
  · by_cases h2 : c.toNat ≤ 57
    · left; refine ⟨by omega, h2, ?_⟩; simp; omega
    · by_cases h3 : c.toNat < 97
      · right; right; right; left; refine ⟨by omega, h3, ?_⟩; simp; omega
      · by_cases h4 : c.toNat ≤ 102
        · right; right; left; refine ⟨by omega, by omega, by omega, h4, ?_⟩; simp; omega
        · right; right; right; right; refine ⟨by omega, ?_⟩; simp; omega

theorem all_take_false {l : List UInt8} {n : Nat} {p : UInt8 → Bool} (h : (l.take n).all p = false) : l.all p = false := by
  cases hl : l.all p with
  | false => rfl
  | true =>
    rw [List.all_eq_true] at hl
    have : (l.take n).all p = true := List.all_eq_true.2 fun x hx => hl x (List.mem_of_mem_take hx)
    rw [h] at this; cases this
set_option maxHeartbeats 2000000 in
theorem refhome_loop (z : Int) (s : ByteArray) (h1 : 0 ≤ z) (h2 : z ≤ 16384) (h3 : s.size = 64) (w : World) :
    Calls Tryd.prog 35 #[.int .i64 z, .string s] w (HomePost ((tl s).all hexB) z s w) := by
  obtain ⟨R, hR⟩ : ∃ R, (tl s).all hexB = R := ⟨_, rfl⟩
  rw [hR]
  have HR := Lib.hid hR
  clear hR
  have b1 : decide (z < 0) = false := decide_eq_false (by omega)
  have b2 : decide (16384 < z) = false := decide_eq_false (by omega)
  have b3 : ((s.size : Int) == 64) = true := by rw [beq_iff_eq]; omega
  have b4 : ((s.size : Int) != 64) = false := by rw [bne_eq_false_iff_eq]; omega
  have HT : Hid (homeT z s = ⟨#[99, 111, 110, 102, 108, 105, 99, 116, 126]⟩ ++ ⟨(Lib.decDigits z.toNat).toArray⟩ ++ ⟨#[126]⟩ ++ s) := Lib.hid rfl
  have ci := fun w => decimal_any 16384 z.toNat (by omega) (by omega) w
  have hd : (Lib.decDigits z.toNat).length ≤ 20 := Nat.le_trans (dec_le 5 z.toNat (by omega)) (by omega)
  obtain ⟨D, hD⟩ : ∃ D, (⟨(Lib.decDigits z.toNat).toArray⟩ : ByteArray) = D := ⟨_, rfl⟩
  rw [hD] at ci HT
  rw [show ((z.toNat : Nat) : Int) = z by omega] at ci
  have hDs : D.size ≤ 20 := by rw [← hD]; exact hd
  have CI := Lib.hid ci
  clear hd hD ci h1 h2
  go_enter Tryd.func35, Tryd.ntmps35
  go_wp2_with fail
  go_loopg [6] 64 (fun gf o wx => ∃ n : Nat, o = .int .i64 n ∧ wx = w ∧ n + gf = 64 ∧ Hid (((tl s).take n).all hexB = true))
  case atStart => exact ⟨0, rfl, rfl, rfl, rfl⟩
  case round =>
    obtain ⟨n, rfl, rfl, hg, HA⟩ := hrel
    by_cases hlt : n < 64
    · have hb1 : decide (n < s.size) = true := decide_eq_true (by omega)
      have hb0 : decide ((n : Int) < 64) = true := decide_eq_true (by omega)
      have hls : n < s.size := by omega
      obtain ⟨g', rfl⟩ : ∃ g', gk = g' + 1 := ⟨gk - 1, by omega⟩
      have hat := at_tl (S := s) rfl n hls
      have hat2 := take_all hat hexB
      rw [HA.out, Bool.true_and] at hat2
      rcases hex_cases s[n] with ⟨c1, c2, c3⟩ | ⟨c1, c3⟩ | ⟨c1, c2, c4, c5, c3⟩ | ⟨c1, c2, c3⟩ | ⟨c1, c3⟩
      · have t0 : decide ((48 : Int) ≤ (s[n].toNat : Int)) = true := decide_eq_true (by omega)
        have t1 : decide ((s[n].toNat : Int) ≤ 57) = true := decide_eq_true (by omega)
        have t2 : decide ((97 : Int) ≤ (s[n].toNat : Int)) = false := decide_eq_false (by omega)
        have t3 : decide ((s[n].toNat : Int) ≤ 102) = true := decide_eq_true (by omega)
        rw [c3] at hat2
        have HA2 := Lib.hid hat2
        clear hat hat2 c1 c3 c2
        go_wp2_with fail
        go_roundg g'
        case measure => omega
        case rel => exact ⟨n + 1, rfl, rfl, by omega, HA2.out⟩
      · have t0 : decide ((48 : Int) ≤ (s[n].toNat : Int)) = false := decide_eq_false (by omega)
        have t1 : decide ((s[n].toNat : Int) ≤ 57) = true := decide_eq_true (by omega)
        have t2 : decide ((97 : Int) ≤ (s[n].toNat : Int)) = false := decide_eq_false (by omega)
        have t3 : decide ((s[n].toNat : Int) ≤ 102) = true := decide_eq_true (by omega)
        rw [c3] at hat2
        have HA2 := Lib.hid hat2
        clear hat hat2 c1 c3
        go_wp2_with fail
        have HR2 : R = false := by
          rw [← HR.out]
          exact all_take_false HA2.out
        subst HR2
        refine bodyPost_ret (v := .tuple #[.string ⟨#[]⟩, .int .i64 1]) (by simp [results, Tryd.f35, go_sem]) rfl ⟨rfl, Below.refl _ _⟩
      · have t0 : decide ((48 : Int) ≤ (s[n].toNat : Int)) = true := decide_eq_true (by omega)
        have t1 : decide ((s[n].toNat : Int) ≤ 57) = false := decide_eq_false (by omega)
        have t2 : decide ((97 : Int) ≤ (s[n].toNat : Int)) = true := decide_eq_true (by omega)
        have t3 : decide ((s[n].toNat : Int) ≤ 102) = true := decide_eq_true (by omega)
        rw [c3] at hat2
        have HA2 := Lib.hid hat2
        clear hat hat2 c1 c3 c2 c4 c5
        go_wp2_with fail
        go_roundg g'
        case measure => omega
        case rel => exact ⟨n + 1, rfl, rfl, by omega, HA2.out⟩
      · have t0 : decide ((48 : Int) ≤ (s[n].toNat : Int)) = true := decide_eq_true (by omega)
        have t1 : decide ((s[n].toNat : Int) ≤ 57) = false := decide_eq_false (by omega)
        have t2 : decide ((97 : Int) ≤ (s[n].toNat : Int)) = false := decide_eq_false (by omega)
        have t3 : decide ((s[n].toNat : Int) ≤ 102) = true := decide_eq_true (by omega)
        rw [c3] at hat2
        have HA2 := Lib.hid hat2
        clear hat hat2 c1 c3 c2
        go_wp2_with fail
        have HR2 : R = false := by
          rw [← HR.out]
          exact all_take_false HA2.out
        subst HR2
        refine bodyPost_ret (v := .tuple #[.string ⟨#[]⟩, .int .i64 1]) (by simp [results, Tryd.f35, go_sem]) rfl ⟨rfl, Below.refl _ _⟩
      · have t0 : decide ((48 : Int) ≤ (s[n].toNat : Int)) = true := decide_eq_true (by omega)
        have t1 : decide ((s[n].toNat : Int) ≤ 57) = false := decide_eq_false (by omega)
        have t2 : decide ((97 : Int) ≤ (s[n].toNat : Int)) = true := decide_eq_true (by omega)
        have t3 : decide ((s[n].toNat : Int) ≤ 102) = false := decide_eq_false (by omega)
        rw [c3] at hat2
        have HA2 := Lib.hid hat2
        clear hat hat2 c1 c3
        go_wp2_with fail
        have HR2 : R = false := by
          rw [← HR.out]
          exact all_take_false HA2.out
        subst HR2
        refine bodyPost_ret (v := .tuple #[.string ⟨#[]⟩, .int .i64 1]) (by simp [results, Tryd.f35, go_sem]) rfl ⟨rfl, Below.refl _ _⟩
    · have hn : n = 64 := by omega
      have hb1 : decide (n < s.size) = false := decide_eq_false (by omega)
      have hb0 : decide ((n : Int) < 64) = false := decide_eq_false (by omega)
      have HR2 : R = true := by
        rw [← HR.out, ← HA.out, List.take_of_length_le (by simp; omega)]
      subst HR2
      go_wp2_with fail
      refine (CI.out _).mono ?_
      rintro e w2 ⟨rfl, hw2⟩
      have H2 := Lib.hid hw2
      clear hw2
      go_wp2_with fail
      refine bodyPost_ret (v := .tuple #[.string (⟨#[99, 111, 110, 102, 108, 105, 99, 116, 126]⟩ ++ D ++ ⟨#[126]⟩ ++ s), .int .i64 0]) (by simp [results, Tryd.f35, go_sem]) rfl ⟨?_, H2.out⟩
      rw [if_pos rfl, if_pos rfl, HT.out]
theorem refhome_any (z : Int) (s : ByteArray) (w : World) :
    Calls Tryd.prog 35 #[.int .i64 z, .string s] w (HomePost (homeOk z s) z s w) := by
  by_cases h : z < 0 ∨ 16384 < z ∨ s.size ≠ 64
  · have e : homeOk z s = false := by
      unfold homeOk
      simp only [Bool.and_eq_false_iff, decide_eq_false_iff_not]
      omega
    rw [e]
    exact refhome_early z s h w
  · have e : homeOk z s = (tl s).all hexB := by
      unfold homeOk
      rw [decide_eq_true (show 0 ≤ z by omega), decide_eq_true (show z ≤ 16384 by omega), decide_eq_true (show s.size = 64 by omega)]
      simp
    rw [e]
    exact refhome_loop z s (by omega) (by omega) (by omega) w

theorem home_any (z : Int) (s : ByteArray) (hs : s.size ≤ 1000000) (w : World) (htab : Tab w) :
    Calls Tryd.prog 34 #[.int .i64 z, .string s] w (HomePost (homeOk z s) z s w) := by
  cases h : homeOk z s with
  | true => exact home_good z s h w htab
  | false => exact home_bad z s hs h w
end Pa
end Go.Proofs.YtjnpmabnnbngeaaDoor
