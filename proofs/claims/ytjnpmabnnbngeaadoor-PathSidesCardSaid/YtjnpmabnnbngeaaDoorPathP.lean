/- Plain facts on a path whose last name has something ahead of it. -/
import Derived.Test.YtjnpmabnnbngeaaDoorPathM2
namespace Go.Proofs.YtjnpmabnnbngeaaDoor
open Go.RowKit Go.Shelf
set_option linter.unusedVariables false
set_option linter.unusedSimpArgs false
namespace Pa
theorem tl_inj {a b : ByteArray} (h : tl a = tl b) : a = b := ByteArray.ext (Array.toList_inj.1 h)
theorem byte_get (t : ByteArray) (j : Nat) (h : j < t.size) : (tl t)[j]? = some (t.data[j]!) := by
  rw [getB t j h]; exact at_tl rfl j h
theorem byte_lt {t : ByteArray} {j : Nat} {b : UInt8} (h : (tl t)[j]? = some b) : j < t.size := by
  have := (List.getElem?_eq_some_iff.1 h).1
  simpa [tl] using this
theorem last_spec (t : ByteArray) : (Lib.lastIndexByte t 47 = -1 ∧ ∀ b ∈ tl t, b ≠ 47) ∨ ∃ i : Nat, Lib.lastIndexByte t 47 = i ∧ (tl t)[i]? = some 47 ∧ ∀ j b, i < j → (tl t)[j]? = some b → b ≠ 47 := by
  rcases Lib.lastIndexByte_spec t 47 with ⟨h, hn⟩ | ⟨i, hi, h, h47, hn⟩
  · refine .inl ⟨h, fun b hb e => ?_⟩
    obtain ⟨j, hj⟩ := List.getElem?_of_mem hb
    have hl := byte_lt hj
    rw [byte_get t j hl] at hj
    have := hn j hl
    rw [Option.some.inj hj, e] at this
    exact this rfl
  · refine .inr ⟨i, h, ?_, fun j b hij hj e => ?_⟩
    · rw [byte_get t i hi]
      exact congrArg some (UInt8.toNat_inj.1 (by have : (t.data[i]!).toNat = 47 := by omega
                                                 exact this))
    · have hl := byte_lt hj
      rw [byte_get t j hl] at hj
      have := hn j hij hl
      rw [Option.some.inj hj, e] at this
      exact this rfl
theorem last_none {t : ByteArray} (h : ∀ b ∈ tl t, b ≠ 47) : Lib.lastIndexByte t 47 = -1 := by
  rcases last_spec t with ⟨e, _⟩ | ⟨i, _, h47, _⟩
  · exact e
  · exact absurd rfl (h 47 (List.mem_of_getElem? h47))
theorem last_at {t : ByteArray} {i : Nat} (h1 : (tl t)[i]? = some 47) (h2 : ∀ j b, i < j → (tl t)[j]? = some b → b ≠ 47) : Lib.lastIndexByte t 47 = i := by
  rcases last_spec t with ⟨_, h⟩ | ⟨k, e, h47, hn⟩
  · exact absurd rfl (h 47 (List.mem_of_getElem? h1))
  · rcases Nat.lt_trichotomy i k with h | rfl | h
    · exact absurd rfl (h2 k 47 h h47)
    · exact e
    · exact absurd rfl (hn i 47 h h1)
/-- How far the last slash reaches. -/
def cutN (s : ByteArray) : Nat := (Lib.lastIndexByte s 47 + 1).toNat
theorem cut_le (s : ByteArray) : cutN s ≤ s.size := by
  obtain ⟨m, h, _, h2, _⟩ := last_k s
  unfold cutN; omega
theorem with_tl (s T : ByteArray) : tl (withB s T) = (tl s).take (cutN s) ++ tl T ++ (tl s).drop (cutN s) := by
  unfold withB lastB cutN
  have e : (tl s).take s.size = tl s := List.take_of_length_le (by simp [tl])
  rw [tl_append, tl_append, extract_upto, tl_extract, e]
theorem len_tl (s : ByteArray) : (tl s).length = s.size := by simp [tl]
theorem take_len (s : ByteArray) : ((tl s).take (cutN s)).length = cutN s := by
  rw [List.length_take, len_tl]; have := cut_le s; omega
theorem with_last (s T : ByteArray) (hT : ∀ b ∈ tl T, b ≠ 47) : Lib.lastIndexByte (withB s T) 47 = Lib.lastIndexByte s 47 := by
  rcases last_spec s with ⟨e, hn⟩ | ⟨i, e, h47, hn⟩
  · rw [e]
    refine last_none fun b hb => ?_
    rw [with_tl] at hb
    simp only [List.mem_append] at hb
    rcases hb with (hb | hb) | hb
    · exact hn b (List.mem_of_mem_take hb)
    · exact hT b hb
    · exact hn b (List.mem_of_mem_drop hb)
  · rw [e]
    have hm : cutN s = i + 1 := by unfold cutN; rw [e]; omega
    refine last_at ?_ fun j b hj hb => ?_
    · rw [with_tl, List.append_assoc, List.getElem?_append_left (by rw [take_len]; omega), List.getElem?_take_of_lt (by omega)]
      exact h47
    · rw [with_tl, List.append_assoc, List.getElem?_append_right (by rw [take_len]; omega)] at hb
      have hb := List.mem_of_getElem? hb
      rw [List.mem_append] at hb
      rcases hb with hb | hb
      · exact hT b hb
      · obtain ⟨k, hk⟩ := List.getElem?_of_mem hb
        rw [List.getElem?_drop] at hk
        exact hn _ b (by omega) hk
theorem with_lastB (s T : ByteArray) (hT : ∀ b ∈ tl T, b ≠ 47) : tl (lastB (withB s T)) = tl T ++ (tl s).drop (cutN s) := by
  unfold lastB
  rw [with_last s T hT, tl_extract, List.take_of_length_le (by simp [tl]), with_tl, List.append_assoc]
  show List.drop (cutN s) _ = _
  rw [List.drop_append_of_le_length (by rw [take_len]; exact Nat.le_refl _), List.drop_eq_nil_of_le (by rw [take_len]; exact Nat.le_refl _)]
  rfl
theorem with_dir (s T : ByteArray) (hT : ∀ b ∈ tl T, b ≠ 47) : dirB (withB s T) = dirB s := by
  apply tl_inj
  unfold dirB
  rw [with_last s T hT, extract_upto, extract_upto, with_tl, List.append_assoc, List.take_append_of_le_length (by rw [take_len]; unfold cutN; omega), List.take_take]
  congr 1
  unfold cutN; omega
theorem with_ne (s T : ByteArray) (hT : tl T ≠ []) : withB s T ≠ s := fun e => by
  have h := congrArg (fun x => (tl x).length) e
  simp only [with_tl, List.length_append, List.length_drop, take_len] at h
  have h3 := len_tl s
  have := cut_le s
  have : (tl T).length ≠ 0 := fun h0 => hT (List.length_eq_zero_iff.1 h0)
  omega
theorem no47 : (∀ b ∈ tl TMP, b ≠ 47) ∧ (∀ b ∈ tl PAR, b ≠ 47) := by
  constructor <;> decide
theorem kind_tmp (s : ByteArray) (h : goodB (tl (withB s TMP)) = true) : kindN (withB s TMP) = 1 := by
  unfold kindN
  rw [h, with_lastB s TMP no47.1, if_neg (by simp), if_pos (List.isPrefixOf_iff_prefix.2 (List.prefix_append _ _))]
theorem kind_par (s : ByteArray) (h : goodB (tl (withB s PAR)) = true) : kindN (withB s PAR) = 2 := by
  unfold kindN
  have hp : (tl TMP).isPrefixOf (tl PAR ++ (tl s).drop (cutN s)) = false := by
    show List.isPrefixOf [46, 116, 109, 112, 126] ([46, 112, 97, 114, 126] ++ (tl s).drop (cutN s)) = false
    simp [List.isPrefixOf]
  rw [h, with_lastB s PAR no47.2, hp, if_neg (by simp), if_neg (by simp), if_pos (List.isPrefixOf_iff_prefix.2 (List.prefix_append _ _))]
theorem two_ne (s : ByteArray) (h1 : goodB (tl (withB s TMP)) = true) (h2 : goodB (tl (withB s PAR)) = true) : withB s TMP ≠ withB s PAR := fun e => by
  have a := kind_tmp s h1
  have b := kind_par s h2
  rw [e, b] at a
  cases a
theorem kind_zero (s : ByteArray) : (goodB (tl s) = false ∧ kindN s = 0) ∨ (goodB (tl s) = true ∧ kindN s ≠ 0) := by
  rcases kind_cases s with ⟨a, b⟩ | ⟨a, _, b⟩ | ⟨a, _, _, b⟩ | ⟨a, _, _, b⟩
  · exact .inl ⟨a, b⟩
  · exact .inr ⟨a, by omega⟩
  · exact .inr ⟨a, by omega⟩
  · exact .inr ⟨a, by omega⟩
end Pa
end Go.Proofs.YtjnpmabnnbngeaaDoor
