/- Contracts for package path: names. -/
import Derived.Test.YtjnpmabnnbngeaaDoorPathW
namespace Go.Proofs.YtjnpmabnnbngeaaDoor
open Go.RowKit
set_option linter.unusedVariables false
set_option linter.unusedSimpArgs false
namespace Pa
/-- Is it a name? -/
def nameB (l : List UInt8) : Bool := !(l == []) && !(l == [46]) && !(l == [46, 46]) && l.all (fun b => signB b.toNat)

theorem sign_lt {c : Nat} (h : signB c = true) : c < 128 := by
  unfold signB at h; simp at h; omega
theorem decode_far (s : ByteArray) (pos : Nat) (h : 128 ≤ (s.get! pos).toNat) : 128 ≤ (Utf8.decode s pos).1 := by
  unfold Utf8.decode
  simp only [Nat.add_zero]
  rw [if_neg (by omega)]
  have e : Utf8.runeError = 65533 := rfl
  repeat' split
  all_goals simp_all
  all_goals omega
theorem idx_none (s : ByteArray) : ∀ (f pos : Nat), s.size ≤ pos + f → (Lib.idxFuncFrom (fun c => !signB c) true s f pos = -1 ↔ (s.data.toList.drop pos).all (fun b => signB b.toNat) = true)
  | 0, pos, h => by
    have : s.data.toList.drop pos = [] := List.drop_eq_nil_of_le (by simpa using h)
    rw [this]; simp [Lib.idxFuncFrom]
  | f + 1, pos, h => by
    unfold Lib.idxFuncFrom
    by_cases hp : pos < s.size
    · rw [if_pos hp]
      have hl : pos < s.data.toList.length := by simpa using hp
      have hd : s.data.toList.drop pos = s.data.toList[pos] :: s.data.toList.drop (pos + 1) := List.drop_eq_getElem_cons hl
      have hg : s.get! pos = s.data.toList[pos] := by
        have : s.get! pos = s.data[pos]! := rfl
        rw [this, getElem!_pos s.data pos hp]; simp
      have hs : s[pos]'hp = s.data.toList[pos] := by simp; rfl
      rw [hd, List.all_cons]
      by_cases hb : (s.data.toList[pos]).toNat < 128
      · have hdec := decode_ascii s pos hp (by rw [hs]; exact hb)
        rw [hdec, hs]
        by_cases hsg : signB (s.data.toList[pos]).toNat = true
        · rw [if_neg (by rw [hsg]; simp), hsg, Bool.true_and]
          exact idx_none s f (pos + 1) (by omega)
        · have hsf : signB (s.data.toList[pos]).toNat = false := by simpa using hsg
          rw [if_pos (by rw [hsf]; rfl), hsf]
          simp
      · have hfar := decode_far s pos (by rw [hg]; omega)
        have h1 : signB (Utf8.decode s pos).1 = false := by
          cases hx : signB (Utf8.decode s pos).1 with
          | false => rfl
          | true => have := sign_lt hx; omega
        have h2 : signB (s.data.toList[pos]).toNat = false := by
          cases hx : signB (s.data.toList[pos]).toNat with
          | false => rfl
          | true => have := sign_lt hx; omega
        rw [if_pos (by rw [h1]; rfl), h2]
        simp
    · rw [if_neg hp]
      have : s.data.toList.drop pos = [] := List.drop_eq_nil_of_le (by simp; omega)
      rw [this]; simp
theorem idx_all (s : ByteArray) : decide (Lib.idxFunc (fun c => !signB c) true s < 0) = s.data.toList.all (fun b => signB b.toNat) := by
  have h := idx_none s s.size 0 (by omega)
  have hr := Lib.idxFunc_range (fun c => !signB c) true s
  rw [List.drop_zero] at h
  change (Lib.idxFunc (fun c => !signB c) true s = -1 ↔ _) at h
  cases hx : s.data.toList.all (fun b => signB b.toNat) with
  | true => exact decide_eq_true (by have := h.2 hx; omega)
  | false =>
    refine decide_eq_false fun hn => ?_
    have : Lib.idxFunc (fun c => !signB c) true s = -1 := by omega
    rw [h.1 this] at hx
    cases hx

theorem pred_name1 (w : World) : PredGrows Tryd.prog 110 #[] (fun c => !signB c) w := fun W x hx _ => name1_any x hx W

set_option maxHeartbeats 400000 in
theorem name_any (s : ByteArray) (w : World) :
    Calls Tryd.prog 69 #[.string s] w fun e w' => e = .returned (.bool (nameB s.data.toList)) ∧ Below w.heap.size w w' := by
  have hl := ByteArray.toList_eq s
  have HL := Lib.hid hl
  clear hl
  go_enter Tryd.func69, Tryd.ntmps69
  go_wp2_with fail
  · have h : s.toList = [] := by assumption
    go_ret
    refine ⟨?_, Below.refl _ _⟩
    rw [← HL.out, h]; rfl
  · have h : s.toList = [46] := by assumption
    go_ret
    refine ⟨?_, Below.refl _ _⟩
    rw [← HL.out, h]; rfl
  · have h : s.toList = [46, 46] := by assumption
    go_ret
    refine ⟨?_, Below.refl _ _⟩
    rw [← HL.out, h]; rfl
  · have h1 : ¬ s.toList = [] := by assumption
    have h2 : ¬ s.toList = [46] := by assumption
    have h3 : ¬ s.toList = [46, 46] := by assumption
    have hn : (!s.toList.isEmpty && !s.toList == [46] && !s.toList == [46, 46] && decide (Lib.idxFunc (fun c => !signB c) true s < 0)) = nameB s.data.toList := by
      rw [idx_all, HL.out]
      unfold nameB
      congr 3
      cases s.data.toList <;> rfl
    have HN := Lib.hid hn
    clear hn
    refine (Tryd.strings_IndexFunc_grows 110 #[] (enters_of Tryd.func110 (by kernel_rfl) rfl) (fun c => !signB c) s _ (pred_name1 _)).mono ?_
    rintro e w' ⟨rfl, hb⟩
    go_wp2_with fail
    all_goals go_ret
    all_goals exact ⟨by rw [← HN.out]; rfl, hb⟩
end Pa
end Go.Proofs.YtjnpmabnnbngeaaDoor
