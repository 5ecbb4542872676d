/- Contracts for Temp, Side, Copy; a home is a path. -/
import Derived.Test.YtjnpmabnnbngeaaDoorPathM
namespace Go.Proofs.YtjnpmabnnbngeaaDoor
open Go.RowKit Go.Shelf
set_option linter.unusedVariables false
set_option linter.unusedSimpArgs false
namespace Pa
theorem parts_one : ∀ l : List UInt8, l.all (fun b => signB b.toNat) = true → parts l = [l]
  | [], _ => rfl
  | b :: l, h => by
    rw [List.all_cons, Bool.and_eq_true] at h
    have ih := parts_one l h.2
    have hb : b ≠ 47 := by rintro rfl; exact absurd h.1 (by decide)
    rw [parts_cons, if_neg hb, ih]
theorem dec_all : ∀ (m n : Nat), n ≤ m → (Lib.decDigits n).all (fun b => signB b.toNat) = true := by
  have hd : ∀ k : Fin 10, signB (UInt8.ofNat (48 + k.val)).toNat = true := by decide
  intro m
  induction m with
  | zero => intro n hn; rw [dec_small n (by omega), List.all_cons, hd ⟨n, by omega⟩]; rfl
  | succ m ih =>
    intro n hn
    by_cases h : n < 10
    · rw [dec_small n h, List.all_cons, hd ⟨n, h⟩]; rfl
    · rw [dec_more n h, List.all_append, ih (n / 10) (by omega), List.all_cons, hd ⟨n % 10, by omega⟩]; rfl
theorem hex_sign (c : UInt8) (h : hexB c = true) : signB c.toNat = true := by
  unfold hexB at h
  unfold signB
  simp only [Bool.or_eq_true, decide_eq_true_eq] at h
  rcases h with h | h
  · rw [decide_eq_true (show 48 ≤ c.toNat ∧ c.toNat ≤ 57 from h)]; simp
  · rw [decide_eq_true (show 97 ≤ c.toNat ∧ c.toNat ≤ 122 by omega)]; simp
theorem tl_append (a b : ByteArray) : tl (a ++ b) = tl a ++ tl b := by simp [tl]
theorem home_tl (z : Int) (s : ByteArray) : tl (homeT z s) = tl CONF ++ Lib.decDigits z.toNat ++ [126] ++ tl s := by
  unfold homeT
  rw [tl_append, tl_append, tl_append]
theorem good_home (z : Int) (s : ByteArray) (h : homeOk z s = true) : goodB (tl (homeT z s)) = true := by
  obtain ⟨h1, h2, h3, h4⟩ := homeOk_parts h
  have hc : tl CONF = [99, 111, 110, 102, 108, 105, 99, 116, 126] := rfl
  have hs : (tl s).all (fun b => signB b.toNat) = true := by
    rw [List.all_eq_true] at h4 ⊢
    exact fun b hb => hex_sign b (h4 b hb)
  have ha : (tl (homeT z s)).all (fun b => signB b.toNat) = true := by
    rw [home_tl, List.all_append, List.all_append, List.all_append, dec_all _ _ (Nat.le_refl _), hs, hc]
    decide
  have hl : (tl (homeT z s)).length = 10 + (Lib.decDigits z.toNat).length + 64 := by
    have : (tl s).length = 64 := by simpa [tl] using h3
    rw [home_tl, List.length_append, List.length_append, List.length_append, hc, this]
    simp; omega
  have hd := dec_le 5 z.toNat (by omega)
  unfold goodB
  rw [parts_one _ ha, decide_eq_true (by omega)]
  simp only [List.all_cons, List.all_nil, Bool.and_true, Bool.true_and]
  rw [name_signs _ ha]
  have n0 : ∀ k : List UInt8, k.length ≤ 2 → (tl (homeT z s) == k) = false := fun k hk => beq_eq_false_iff_ne.2 (fun e => by rw [e] at hl; omega)
  rw [n0 _ (by decide), n0 _ (by decide), n0 _ (by decide)]
  rfl

set_option maxHeartbeats 400000 in
theorem temp_any (s : ByteArray) (hs : s.size ≤ 1000000) (w : World) :
    Calls Tryd.prog 36 #[.string s] w (TextPost (withOk s TMP) (withB s TMP) 7 w) := by
  have C := Lib.hid (fun w => with_any s TMP hs (by decide) w)
  generalize withB s TMP = T at *
  generalize withOk s TMP = K at *
  unfold TMP at C
  go_enter Tryd.func36, Tryd.ntmps36
  go_wp2_with fail
  refine (C.out _).mono ?_
  rintro e w1 ⟨rfl, hw1⟩
  have H1 := Lib.hid hw1
  clear hw1
  cases K
  · go_wp2_with fail
    refine bodyPost_ret (v := .tuple #[.string ⟨#[]⟩, .int .i64 7]) (by simp [results, Tryd.f36, go_sem]) rfl ⟨rfl, H1.out⟩
  · go_wp2_with fail
    refine bodyPost_ret (v := .tuple #[.string T, .int .i64 0]) (by simp [results, Tryd.f36, go_sem]) rfl ⟨rfl, H1.out⟩
set_option maxHeartbeats 400000 in
theorem side_any (s : ByteArray) (hs : s.size ≤ 1000000) (w : World) :
    Calls Tryd.prog 37 #[.string s] w (TextPost (withOk s PAR) (withB s PAR) 7 w) := by
  have C := Lib.hid (fun w => with_any s PAR hs (by decide) w)
  generalize withB s PAR = T at *
  generalize withOk s PAR = K at *
  unfold PAR at C
  go_enter Tryd.func37, Tryd.ntmps37
  go_wp2_with fail
  refine (C.out _).mono ?_
  rintro e w1 ⟨rfl, hw1⟩
  have H1 := Lib.hid hw1
  clear hw1
  cases K
  · go_wp2_with fail
    refine bodyPost_ret (v := .tuple #[.string ⟨#[]⟩, .int .i64 7]) (by simp [results, Tryd.f37, go_sem]) rfl ⟨rfl, H1.out⟩
  · go_wp2_with fail
    refine bodyPost_ret (v := .tuple #[.string T, .int .i64 0]) (by simp [results, Tryd.f37, go_sem]) rfl ⟨rfl, H1.out⟩

/-- A conflict copy's path beside the home. -/
def longT (s : ByteArray) (z : Int) (u : ByteArray) : ByteArray := s ++ ⟨#[46]⟩ ++ homeT z u
def copyT (s : ByteArray) (z : Int) (u : ByteArray) : ByteArray :=
  if goodB (tl s) = false then ⟨#[]⟩ else if homeOk z u = false then ⟨#[]⟩ else if goodB (tl (longT s z u)) = true then longT s z u else homeT z u
def copyE (s : ByteArray) (z : Int) (u : ByteArray) : Int := if goodB (tl s) = false then 7 else if homeOk z u = false then 1 else 0
theorem copy_cases (s : ByteArray) (z : Int) (u : ByteArray) :
    (goodB (tl s) = false ∧ copyT s z u = ⟨#[]⟩ ∧ copyE s z u = 7) ∨ (goodB (tl s) = true ∧ homeOk z u = false ∧ copyT s z u = ⟨#[]⟩ ∧ copyE s z u = 1) ∨
    (goodB (tl s) = true ∧ homeOk z u = true ∧ goodB (tl (longT s z u)) = true ∧ copyT s z u = longT s z u ∧ copyE s z u = 0) ∨
    (goodB (tl s) = true ∧ homeOk z u = true ∧ goodB (tl (longT s z u)) = false ∧ copyT s z u = homeT z u ∧ copyE s z u = 0) := by
  unfold copyT copyE
  cases goodB (tl s) <;> cases homeOk z u <;> cases goodB (tl (longT s z u)) <;> simp

def CopyPost (s : ByteArray) (z : Int) (u : ByteArray) (w : World) (e : Ending) (w' : World) : Prop :=
  e = .returned (.tuple #[.string (copyT s z u), .int .i64 (copyE s z u)]) ∧ Below w.heap.size w w'

theorem home_size (z : Int) (u : ByteArray) (h : homeOk z u = true) : (homeT z u).size ≤ 100 := by
  have := good_home z u h
  unfold goodB at this
  rw [Bool.and_eq_true, decide_eq_true_eq] at this
  simpa [tl] using this.1

set_option maxHeartbeats 1000000 in
theorem copy_any (s : ByteArray) (hs : s.size ≤ 1000000) (z : Int) (u : ByteArray) (hu : u.size ≤ 1000000) (w : World) (htab : Tab w) :
    Calls Tryd.prog 38 #[.string s, .int .i64 z, .string u] w (CopyPost s z u w) := by
  have ch := home_any z u hu w htab
  have cg := fun w => good_any s w
  have cl := fun w => good_any (longT s z u) w
  clear htab
  unfold CopyPost
  rcases copy_cases s z u with ⟨h1, h2, h3⟩ | ⟨h1, h2, h3, h4⟩ | ⟨h1, h2, h3, h4, h5⟩ | ⟨h1, h2, h3, h4, h5⟩
  · rw [h2, h3]
    rw [h1] at cg
    unfold HomePost at ch
    generalize homeT z u = T at *
    have HH := Lib.hid ch
    have G1 := Lib.hid cg
    cases hk : homeOk z u with
    | false =>
      rw [hk] at HH
      clear ch cg cl h1 h2 h3 hk
      go_enter Tryd.func38, Tryd.ntmps38
      go_wp2_with fail
      refine HH.out.mono ?_
      rintro e w1 ⟨rfl, hw1⟩
      have H1 := Lib.hid hw1
      clear hw1
      go_wp2_with fail
      refine (G1.out _).mono ?_
      rintro e w2 ⟨rfl, hw2⟩
      have H2 := Lib.hid hw2
      clear hw2
      go_wp2_with fail
      refine bodyPost_ret (v := .tuple #[.string ⟨#[]⟩, .int .i64 7]) (by simp [results, Tryd.f38, go_sem]) rfl ⟨rfl, H1.out.trans (H2.out.mono H1.out.size)⟩
    | true =>
      rw [hk] at HH
      clear ch cg cl h1 h2 h3 hk
      go_enter Tryd.func38, Tryd.ntmps38
      go_wp2_with fail
      refine HH.out.mono ?_
      rintro e w1 ⟨rfl, hw1⟩
      have H1 := Lib.hid hw1
      clear hw1
      go_wp2_with fail
      refine (G1.out _).mono ?_
      rintro e w2 ⟨rfl, hw2⟩
      have H2 := Lib.hid hw2
      clear hw2
      go_wp2_with fail
      refine bodyPost_ret (v := .tuple #[.string ⟨#[]⟩, .int .i64 7]) (by simp [results, Tryd.f38, go_sem]) rfl ⟨rfl, H1.out.trans (H2.out.mono H1.out.size)⟩
  · rw [h3, h4]
    rw [h1] at cg
    rw [h2] at ch
    unfold HomePost at ch
    generalize homeT z u = T at *
    have HH := Lib.hid ch
    have G1 := Lib.hid cg
    clear ch cg cl h1 h2 h3 h4
    go_enter Tryd.func38, Tryd.ntmps38
    go_wp2_with fail
    refine HH.out.mono ?_
    rintro e w1 ⟨rfl, hw1⟩
    have H1 := Lib.hid hw1
    clear hw1
    go_wp2_with fail
    refine (G1.out _).mono ?_
    rintro e w2 ⟨rfl, hw2⟩
    have H2 := Lib.hid hw2
    clear hw2
    go_wp2_with fail
    refine bodyPost_ret (v := .tuple #[.string ⟨#[]⟩, .int .i64 1]) (by simp [results, Tryd.f38, go_sem]) rfl ⟨rfl, H1.out.trans (H2.out.mono H1.out.size)⟩
  · rw [h4, h5]
    rw [h1] at cg
    rw [h2] at ch
    rw [h3] at cl
    have hts := home_size z u h2
    unfold longT at cl ⊢
    unfold HomePost at ch
    generalize homeT z u = T at *
    have HH := Lib.hid ch
    have G1 := Lib.hid cg
    have L1 := Lib.hid cl
    clear ch cg cl h1 h2 h3 h4 h5
    go_enter Tryd.func38, Tryd.ntmps38
    go_wp2_with fail
    refine HH.out.mono ?_
    rintro e w1 ⟨rfl, hw1⟩
    have H1 := Lib.hid hw1
    clear hw1
    go_wp2_with fail
    refine (G1.out _).mono ?_
    rintro e w2 ⟨rfl, hw2⟩
    have H2 := Lib.hid hw2
    clear hw2
    go_wp2_with fail
    refine (L1.out _).mono ?_
    rintro e w3 ⟨rfl, hw3⟩
    have H3 := Lib.hid hw3
    clear hw3
    go_wp2_with fail
    refine bodyPost_ret (v := .tuple #[.string (s ++ ⟨#[46]⟩ ++ T), .int .i64 0]) (by simp [results, Tryd.f38, go_sem]) rfl ⟨rfl, (H1.out.trans (H2.out.mono H1.out.size)).trans (H3.out.mono (Nat.le_trans H1.out.size H2.out.size))⟩
  · rw [h4, h5]
    rw [h1] at cg
    rw [h2] at ch
    rw [h3] at cl
    have hts := home_size z u h2
    unfold longT at cl
    unfold HomePost at ch
    generalize homeT z u = T at *
    have HH := Lib.hid ch
    have G1 := Lib.hid cg
    have L1 := Lib.hid cl
    clear ch cg cl h1 h2 h3 h4 h5
    go_enter Tryd.func38, Tryd.ntmps38
    go_wp2_with fail
    refine HH.out.mono ?_
    rintro e w1 ⟨rfl, hw1⟩
    have H1 := Lib.hid hw1
    clear hw1
    go_wp2_with fail
    refine (G1.out _).mono ?_
    rintro e w2 ⟨rfl, hw2⟩
    have H2 := Lib.hid hw2
    clear hw2
    go_wp2_with fail
    refine (L1.out _).mono ?_
    rintro e w3 ⟨rfl, hw3⟩
    have H3 := Lib.hid hw3
    clear hw3
    go_wp2_with fail
    refine bodyPost_ret (v := .tuple #[.string T, .int .i64 0]) (by simp [results, Tryd.f38, go_sem]) rfl ⟨rfl, (H1.out.trans (H2.out.mono H1.out.size)).trans (H3.out.mono (Nat.le_trans H1.out.size H2.out.size))⟩

set_option maxHeartbeats 1000000 in
theorem refcopy_any (s : ByteArray) (hs : s.size ≤ 1000000) (z : Int) (u : ByteArray) (hu : u.size ≤ 1000000) (w : World) :
    Calls Tryd.prog 40 #[.string s, .int .i64 z, .string u] w (CopyPost s z u w) := by
  have ch := fun w => refhome_any z u w
  have cg := fun w => refgood_any s w
  have cl := fun w => refgood_any (longT s z u) w
  unfold CopyPost
  rcases copy_cases s z u with ⟨h1, h2, h3⟩ | ⟨h1, h2, h3, h4⟩ | ⟨h1, h2, h3, h4, h5⟩ | ⟨h1, h2, h3, h4, h5⟩
  · rw [h2, h3]
    rw [h1] at cg
    have G1 := Lib.hid cg
    clear ch cg cl h1 h2 h3
    go_enter Tryd.func40, Tryd.ntmps40
    go_wp2_with fail
    refine (G1.out _).mono ?_
    rintro e w' ⟨rfl, rfl⟩
    go_wp2_with fail
    refine bodyPost_ret (v := .tuple #[.string ⟨#[]⟩, .int .i64 7]) (by simp [results, Tryd.f40, go_sem]) rfl ⟨rfl, Below.refl _ _⟩
  · rw [h3, h4]
    rw [h1] at cg
    rw [h2] at ch
    unfold HomePost at ch
    generalize homeT z u = T at *
    have HH := Lib.hid ch
    have G1 := Lib.hid cg
    clear ch cg cl h1 h2 h3 h4
    go_enter Tryd.func40, Tryd.ntmps40
    go_wp2_with fail
    refine (G1.out _).mono ?_
    rintro e w' ⟨rfl, rfl⟩
    go_wp2_with fail
    refine (HH.out _).mono ?_
    rintro e w1 ⟨rfl, hw1⟩
    have H1 := Lib.hid hw1
    clear hw1
    go_wp2_with fail
    refine bodyPost_ret (v := .tuple #[.string ⟨#[]⟩, .int .i64 1]) (by simp [results, Tryd.f40, go_sem]) rfl ⟨rfl, H1.out⟩
  · rw [h4, h5]
    rw [h1] at cg
    rw [h2] at ch
    rw [h3] at cl
    have hts := home_size z u h2
    unfold longT at cl ⊢
    unfold HomePost at ch
    generalize homeT z u = T at *
    have HH := Lib.hid ch
    have G1 := Lib.hid cg
    have L1 := Lib.hid cl
    clear ch cg cl h1 h2 h3 h4 h5
    go_enter Tryd.func40, Tryd.ntmps40
    go_wp2_with fail
    refine (G1.out _).mono ?_
    rintro e w' ⟨rfl, rfl⟩
    go_wp2_with fail
    refine (HH.out _).mono ?_
    rintro e w1 ⟨rfl, hw1⟩
    have H1 := Lib.hid hw1
    clear hw1
    go_wp2_with fail
    refine (L1.out _).mono ?_
    rintro e w' ⟨rfl, rfl⟩
    go_wp2_with fail
    refine bodyPost_ret (v := .tuple #[.string (s ++ ⟨#[46]⟩ ++ T), .int .i64 0]) (by simp [results, Tryd.f40, go_sem]) rfl ⟨rfl, H1.out⟩
  · rw [h4, h5]
    rw [h1] at cg
    rw [h2] at ch
    rw [h3] at cl
    have hts := home_size z u h2
    unfold longT at cl
    unfold HomePost at ch
    generalize homeT z u = T at *
    have HH := Lib.hid ch
    have G1 := Lib.hid cg
    have L1 := Lib.hid cl
    clear ch cg cl h1 h2 h3 h4 h5
    go_enter Tryd.func40, Tryd.ntmps40
    go_wp2_with fail
    refine (G1.out _).mono ?_
    rintro e w' ⟨rfl, rfl⟩
    go_wp2_with fail
    refine (HH.out _).mono ?_
    rintro e w1 ⟨rfl, hw1⟩
    have H1 := Lib.hid hw1
    clear hw1
    go_wp2_with fail
    refine (L1.out _).mono ?_
    rintro e w' ⟨rfl, rfl⟩
    go_wp2_with fail
    refine bodyPost_ret (v := .tuple #[.string T, .int .i64 0]) (by simp [results, Tryd.f40, go_sem]) rfl ⟨rfl, H1.out⟩
end Pa
end Go.Proofs.YtjnpmabnnbngeaaDoor
