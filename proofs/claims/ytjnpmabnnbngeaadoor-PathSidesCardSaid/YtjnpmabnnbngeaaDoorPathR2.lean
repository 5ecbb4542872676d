/- The contract for the reference's Good. -/
import Derived.Test.YtjnpmabnnbngeaaDoorPathR
namespace Go.Proofs.YtjnpmabnnbngeaaDoor
open Go.RowKit Go.Shelf
set_option linter.unusedVariables false
set_option linter.unusedSimpArgs false
namespace Pa
theorem cur_snoc (s : ByteArray) (f n : Nat) (hf : f ≤ n) (hn : n < s.size) : ((tl s).take (n + 1)).drop f = ((tl s).take n).drop f ++ [s[n]] := by
  rw [List.take_add_one, at_tl (S := s) rfl n hn, List.drop_append_of_le_length (by simp; omega)]
  rfl
theorem drop_cons (s : ByteArray) (n : Nat) (hn : n < s.size) : (tl s).drop n = s[n] :: (tl s).drop (n + 1) := by
  rw [List.drop_eq_getElem_cons (by simpa using hn)]
  rfl
theorem tl_extract (s : ByteArray) (f n : Nat) : tl (s.extract f n) = ((tl s).take n).drop f := by
  simp [tl, ByteArray.data_extract, List.extract_eq_take_drop, List.drop_take]

/-- What the reference's loop has found of the letters up to n. -/
def Seen (s : ByteArray) (f n : Nat) : Prop :=
  (n ≤ s.size ∧ f ≤ n ∧ (((tl s).take n).drop f).all (fun b => signB b.toNat) = true ∧ (parts (tl s)).all nameB = (glue (((tl s).take n).drop f) (parts ((tl s).drop n))).all nameB) ∨
  (n = s.size + 1 ∧ (parts (tl s)).all nameB = true)
theorem seen_step (s : ByteArray) (f n : Nat) (hn : n < s.size) (h47 : s[n].toNat ≠ 47) (hb : signB s[n].toNat = true) (h : Seen s f n) : Seen s f (n + 1) := by
  rcases h with ⟨h1, h2, h3, h4⟩ | ⟨h1, _⟩
  · refine .inl ⟨by omega, by omega, ?_, ?_⟩
    · rw [cur_snoc s f n h2 hn, List.all_append, h3]; simp [hb]
    · rw [h4, drop_cons s n hn, glue_name _ _ _ (fun e => h47 (by rw [e]; rfl)), cur_snoc s f n h2 hn]
  · omega
theorem seen_bad (s : ByteArray) (f n : Nat) (hn : n < s.size) (h47 : s[n].toNat ≠ 47) (hb : signB s[n].toNat = false) (h : Seen s f n) : (parts (tl s)).all nameB = false := by
  rcases h with ⟨h1, h2, h3, h4⟩ | ⟨h1, _⟩
  · rw [h4, drop_cons s n hn, glue_bad _ _ _ hb (fun e => h47 (by rw [e]; rfl))]
  · omega
theorem glue_head (c : List UInt8) (l : List (List UInt8)) : (c :: l).all nameB = (nameB c && l.all nameB) := rfl
theorem seen_part (s : ByteArray) (f n : Nat) (hn : n ≤ s.size) (h47 : ∀ h : n < s.size, s[n].toNat = 47) (h : Seen s f n) (hm : nameB (((tl s).take n).drop f) = true) : Seen s (n + 1) (n + 1) := by
  rcases h with ⟨h1, h2, h3, h4⟩ | ⟨h1, _⟩
  · by_cases hl : n < s.size
    · have e47 : s[n] = 47 := UInt8.toNat_inj.1 (h47 hl)
      refine .inl ⟨by omega, Nat.le_refl _, ?_, ?_⟩
      · rw [List.drop_eq_nil_of_le (by simp; omega)]; rfl
      · have hd : ((tl s).take (n + 1)).drop (n + 1) = [] := List.drop_eq_nil_of_le (by simp; omega)
        rw [h4, drop_cons s n hl, e47, glue_slash, glue_head, hm, Bool.true_and, hd]
    · refine .inr ⟨by omega, ?_⟩
      have hd : (tl s).drop n = [] := List.drop_eq_nil_of_le (by simp; omega)
      rw [h4, hd]
      simp [parts, glue, hm]
  · omega
theorem seen_none (s : ByteArray) (f n : Nat) (hn : n ≤ s.size) (h47 : ∀ h : n < s.size, s[n].toNat = 47) (h : Seen s f n) (hm : nameB (((tl s).take n).drop f) = false) : (parts (tl s)).all nameB = false := by
  rcases h with ⟨h1, h2, h3, h4⟩ | ⟨h1, _⟩
  · by_cases hl : n < s.size
    · have e47 : s[n] = 47 := UInt8.toNat_inj.1 (h47 hl)
      rw [h4, drop_cons s n hl, e47, glue_slash, glue_head, hm, Bool.false_and]
    · have hd : (tl s).drop n = [] := List.drop_eq_nil_of_le (by simp; omega)
      rw [h4, hd]
      simp [parts, glue, hm]
  · omega
theorem seen_signs (s : ByteArray) (f n : Nat) (hn : n ≤ s.size) (h : Seen s f n) : f ≤ n ∧ nameB (((tl s).take n).drop f) = (!(((tl s).take n).drop f == []) && !(((tl s).take n).drop f == [46]) && !(((tl s).take n).drop f == [46, 46])) := by
  rcases h with ⟨h1, h2, h3, h4⟩ | ⟨h1, _⟩
  · exact ⟨h2, name_signs _ h3⟩
  · omega

set_option maxHeartbeats 1000000 in
theorem refgood_in (s : ByteArray) (hs : s.size ≤ 100) (w : World) :
    Calls Tryd.prog 22 #[.string s] w fun e w' => e = .returned (.bool ((parts (tl s)).all nameB)) ∧ w = w' := by
  obtain ⟨R, hR⟩ : ∃ R, (parts (tl s)).all nameB = R := ⟨_, rfl⟩
  have HR := Lib.hid hR
  rw [hR]
  clear hR
  have hb0 : decide ((100 : Int) < (s.size : Int)) = false := decide_eq_false (by omega)
  go_enter Tryd.func22, Tryd.ntmps22
  go_wp2_with fail
  clear hb0
  go_loopg [3, 4] (s.size + 1) (fun gf o i wx => ∃ f n : Nat, o = .int .i64 f ∧ i = .int .i64 n ∧ wx = w ∧ n + gf = s.size + 1 ∧ Seen s f n)
  case atStart => exact ⟨0, 0, rfl, rfl, rfl, by omega, .inl ⟨by omega, by omega, rfl, by rw [List.take_zero, List.drop_nil, List.drop_zero, glue_start]⟩⟩
  case round =>
    obtain ⟨f, n, rfl, rfl, rfl, hg, hseen⟩ := hrel
    by_cases hle : n ≤ s.size
    · have hb1 : decide (n ≤ s.size) = true := decide_eq_true hle
      obtain ⟨g', rfl⟩ : ∃ g', gk = g' + 1 := ⟨gk - 1, by omega⟩
      by_cases hin : ∃ h : n < s.size, s[n].toNat ≠ 47
      · obtain ⟨hlt, h47⟩ := hin
        have hb2 : decide (n < s.size) = true := decide_eq_true hlt
        have hq1 : ((s[n].toNat : Int) == 47) = false := by rw [beq_eq_false_iff_ne]; omega
        have hq2 : ((s[n].toNat : Int) != 47) = true := by rw [bne_iff_ne]; omega
        have hsg := fun w => refsign_any s[n] w
        cases hb : signB s[n].toNat with
        | true =>
          rw [hb] at hsg
          have HS := Lib.hid (seen_step s f n hlt h47 hb hseen)
          have HG := Lib.hid hsg
          clear hb hseen h47 hsg hle
          go_wp2_with fail
          refine (HG.out _).mono ?_
          rintro e w' ⟨rfl, rfl⟩
          go_wp2_with fail
          go_roundg g'
          case measure => omega
          case rel => exact ⟨f, n + 1, rfl, rfl, rfl, by omega, HS.out⟩
        | false =>
          rw [hb] at hsg
          have HS := Lib.hid (seen_bad s f n hlt h47 hb hseen)
          have HG := Lib.hid hsg
          clear hb hseen h47 hsg hle
          go_wp2_with fail
          refine (HG.out _).mono ?_
          rintro e w' ⟨rfl, rfl⟩
          go_wp2_with fail
          go_ret
          exact ⟨ret_bool (HS.out.symm.trans HR.out), rfl⟩
      · have h47 : ∀ h : n < s.size, s[n].toNat = 47 := fun h => Decidable.byContradiction fun c => hin ⟨h, c⟩
        obtain ⟨hf, hnm⟩ := seen_signs s f n hle hseen
        obtain ⟨T, hT⟩ : ∃ T, s.extract f n = T := ⟨_, rfl⟩
        have hTl : T.toList = ((tl s).take n).drop f := by rw [ByteArray.toList_eq, ← hT, ← tl_extract]
        rw [← hTl] at hnm
        by_cases hm : T.toList = [] ∨ T.toList = [46] ∨ T.toList = [46, 46]
        · have HS := Lib.hid (seen_none s f n hle h47 hseen (by rw [← hTl, hnm]; rcases hm with h | h | h <;> rw [h] <;> rfl))
          clear hseen hnm hTl hin
          by_cases hlt : n < s.size
          · have hb2 : decide (n < s.size) = true := decide_eq_true hlt
            have hq1 : ((s[n].toNat : Int) == 47) = true := by rw [beq_iff_eq]; have := h47 hlt; omega
            have hq2 : ((s[n].toNat : Int) != 47) = false := by rw [bne_eq_false_iff_eq]; have := h47 hlt; omega
            clear h47
            rcases hm with h | h | h
            · go_wp2_with fail
              go_ret
              exact ⟨ret_bool (HS.out.symm.trans HR.out), rfl⟩
            · go_wp2_with fail
              go_ret
              exact ⟨ret_bool (HS.out.symm.trans HR.out), rfl⟩
            · go_wp2_with fail
              go_ret
              exact ⟨ret_bool (HS.out.symm.trans HR.out), rfl⟩
          · have hb2 : decide (n < s.size) = false := decide_eq_false hlt
            clear h47
            rcases hm with h | h | h
            · go_wp2_with fail
              go_ret
              exact ⟨ret_bool (HS.out.symm.trans HR.out), rfl⟩
            · go_wp2_with fail
              go_ret
              exact ⟨ret_bool (HS.out.symm.trans HR.out), rfl⟩
            · go_wp2_with fail
              go_ret
              exact ⟨ret_bool (HS.out.symm.trans HR.out), rfl⟩
        · obtain ⟨m1, m2, m3⟩ : T.toList ≠ [] ∧ T.toList ≠ [46] ∧ T.toList ≠ [46, 46] := ⟨fun h => hm (.inl h), fun h => hm (.inr (.inl h)), fun h => hm (.inr (.inr h))⟩
          have n1 : (T.toList == []) = false := beq_eq_false_iff_ne.2 m1
          have n2 : (T.toList == [46]) = false := beq_eq_false_iff_ne.2 m2
          have n3 : (T.toList == [46, 46]) = false := beq_eq_false_iff_ne.2 m3
          have n4 : T.toList.isEmpty = false := by cases h : T.toList with | nil => exact absurd h m1 | cons => rfl
          have HS := Lib.hid (seen_part s f n hle h47 hseen (by rw [← hTl, hnm, n1, n2, n3]; rfl))
          clear hseen hnm hTl hin hm
          by_cases hlt : n < s.size
          · have hb2 : decide (n < s.size) = true := decide_eq_true hlt
            have hq1 : ((s[n].toNat : Int) == 47) = true := by rw [beq_iff_eq]; have := h47 hlt; omega
            have hq2 : ((s[n].toNat : Int) != 47) = false := by rw [bne_eq_false_iff_eq]; have := h47 hlt; omega
            clear h47
            go_wp2_with fail
            go_roundg g'
            case measure => omega
            case rel => exact ⟨n + 1, n + 1, by simp, rfl, rfl, by omega, HS.out⟩
          · have hb2 : decide (n < s.size) = false := decide_eq_false hlt
            clear h47
            go_wp2_with fail
            go_roundg g'
            case measure => omega
            case rel => exact ⟨n + 1, n + 1, by simp, rfl, rfl, by omega, HS.out⟩
    · have hb1 : decide (n ≤ s.size) = false := decide_eq_false hle
      go_wp2_with fail
      go_ret
      refine ⟨ret_bool ?_, rfl⟩
      rcases hseen with ⟨h1, _⟩ | ⟨_, h2⟩
      · exact absurd h1 hle
      · exact h2.symm.trans HR.out
end Pa
end Go.Proofs.YtjnpmabnnbngeaaDoor
