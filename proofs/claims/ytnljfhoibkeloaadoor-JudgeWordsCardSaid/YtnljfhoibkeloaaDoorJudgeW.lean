/- The walks of package judge's words and health, and of JudgeWords. -/
import Derived.Test.YtnljfhoibkeloaaDoorJudgeA
import Derived.Lib.LaidTab
import Derived.LaidMore
import Derived.ChangeArms
import Derived.Below
import Derived.Outline
import Derived.OpenShut
import Derived.LoopN
namespace Go.Proofs.YtnljfhoibkeloaaDoor
open Go.RowKit
set_option linter.unusedVariables false
set_option linter.unusedSimpArgs false
namespace Jw
open Ga Fl
/-- An array of strings that reads as a datum holds its strings, cell for cell. -/
theorem cells_of_strs {H : Type} {enc : TypeId × Value → H} {P : Program} {w : World} {base : Nat} {sp : Nat → Bool} {held : Bool} {fuel : Nat} {t e : TypeId} {n : Nat} {cs : List Value} {zs : List (List UInt8)} {p : List MemPlace}
    (ht : P.underlying t = some (.array n e)) (he : P.underlying e = some .string) (hce : P.cellsOf e = 1) (hct : P.cellsOf t = n)
    (h : DataW.trod enc P w base sp held fuel t cs = some (.agg (zs.map fun z => .lit (.string z)), p)) : cs = zs.map fun z => Value.string ⟨z.toArray⟩ := by
  cases fuel with
  | zero => simp [DataW.trod] at h
  | succ fuel =>
    simp only [DataW.trod, ht, hce, hct, Nat.mul_one] at h
    split at h
    · rename_i hl
      obtain ⟨xs, hm, hx⟩ := Option.map_eq_some_iff.1 h
      have hxs : xs.map (·.1) = zs.map fun z => (DataW.lit (.string z) : DataW H) := by
        have := congrArg Prod.fst hx
        simpa using this
      have hxl : xs.length = n := by simpa using Lib.mapM_length hm
      have hzl : zs.length = n := by
        have := congrArg List.length hxs
        simp at this
        omega
      apply List.ext_getElem?
      intro i
      by_cases hi : i < n
      · obtain ⟨b, hb, hf⟩ := Lib.mapM_at hm i i (by simp [hi])
        obtain ⟨z, hc, rfl, _⟩ := DataW.trod_string he hf
        have h1 : cs[i]? = some (.string z) := by
          have := congrArg (·[0]?) hc
          simpa [List.getElem?_take, List.getElem?_drop] using this
        have h2 : (xs.map (·.1))[i]? = some (DataW.lit (.string z.data.toList) : DataW H) := by simp [hb]
        rw [hxs] at h2
        simp only [List.getElem?_map, Option.map_eq_some_iff, DataW.lit.injEq, Lit.string.injEq] at h2
        obtain ⟨z', hz', e⟩ := h2
        simp [h1, hz', e]
      · rw [List.getElem?_eq_none (by omega), List.getElem?_eq_none (by simp; omega)]
    · cases h

/-- What Health hands back. -/
def IsRate (x y : Int) (W : World) (e : Ending) (W' : World) : Prop := ∃ b, e = .returned (.float .f64 b) ∧ RateIs x y b ∧ Below W.heap.size W W'
def wordL : List (List UInt8) := [[110, 111, 110, 101], [110, 101, 119], [109, 105, 115, 115, 105, 110, 103], [99, 108, 101, 97, 110], [114, 111, 116], [101, 100, 105, 116], [116, 111, 117, 99, 104, 101, 100], [103, 111, 110, 101], [114, 101, 98, 111, 114, 110]]
/-- The variable holds the words. -/
def Words (W : World) : Prop := ∀ i u, (wordL.map fun z => Value.string ⟨z.toArray⟩)[i]? = some u → W.cell? ⟨1, i, none⟩ = some u
theorem words_of_laid {W : World} (h : laidMet Tryd.prog [("darner/judge.words", Rows.laid_darner_judge_words)] W) : Words W := by
  obtain ⟨ps, ⟨g', t', cs, fuel, p, q, hg', ht', hvar, hd, _, _⟩, _⟩ := h
  obtain rfl := Option.some.inj ((show Tryd.prog.globalNamed "darner/judge.words" = some 1 by kernel_rfl).symm.trans hg')
  obtain rfl := Option.some.inj ((show (Tryd.prog.globals[1]?).map (·.type) = some 25 by kernel_rfl).symm.trans ht')
  have hc : cs.toList = wordL.map fun z => Value.string ⟨z.toArray⟩ := cells_of_strs (P := Tryd.prog) Tryd.underlying25 Tryd.underlying9 (by kernel_rfl) (by kernel_rfl) (zs := wordL) hd
  intro i u hu
  have := World.var?_cell (show Tryd.prog.globalNamed "darner/judge.words" = some 1 by kernel_rfl) hvar i
  rw [this, ← Array.getElem?_toList, hc]
  exact hu
theorem Words.below {W W' : World} (h : Words W) (hb : Below W.heap.size W W') : Words W' := by
  intro i u hu
  have hc := h i u hu
  have hlt : 1 < W.heap.size := by
    unfold World.cell? at hc
    cases hk : W.heap[1]? with
    | none => simp [hk] at hc
    | some o => exact (Array.getElem?_eq_some_iff.1 hk).1
  exact (hb.cell (p := ⟨1, i, none⟩) hlt).trans hc

/-- The word of a kind. -/
def word (k : Int) : List UInt8 := if k < 0 ∨ 8 < k then [63] else wordL.getD k.toNat []
set_option maxHeartbeats 1000000 in
theorem text_any (k : Int) (W : World) (hW : Words W) :
    Calls Tryd.prog 7 #[.int .i64 k] W fun e w' => e = .returned (.string ⟨(word k).toArray⟩) ∧ W = w' := by
  have HW := Lib.hid hW
  clear hW
  by_cases h1 : k < 0
  · have hw : word k = [63] := if_pos (.inl h1)
    rw [hw]
    clear hw
    have b1 : decide (k < 0) = true := decide_eq_true h1
    go_enter Tryd.func7, Tryd.ntmps7
    go_wp2_with fail
    go_ret
    exact ⟨rfl, rfl⟩
  · by_cases h2 : 8 < k
    · have hw : word k = [63] := if_pos (.inr h2)
      rw [hw]
      clear hw
      have b1 : decide (k < 0) = false := decide_eq_false h1
      have b2 : decide (8 < k) = true := decide_eq_true h2
      go_enter Tryd.func7, Tryd.ntmps7
      go_wp2_with fail
      go_ret
      exact ⟨rfl, rfl⟩
    · obtain ⟨i, rfl⟩ := Int.eq_ofNat_of_zero_le (show 0 ≤ k by omega)
      have hi : i < 9 := by omega
      have hw : word (i : Int) = wordL.getD i [] := by unfold word; rw [if_neg (by omega)]; rfl
      have hl : (wordL.map fun z => Value.string ⟨z.toArray⟩)[i]? = some (.string ⟨(wordL.getD i []).toArray⟩) := by
        rw [List.getElem?_map, List.getElem?_eq_getElem (show i < wordL.length from hi)]
        simp [List.getD, List.getElem?_eq_getElem (show i < wordL.length from hi)]
      have hc := HW.out i _ hl
      rw [hw]
      obtain ⟨S, hS⟩ : ∃ S : ByteArray, S = ⟨(wordL.getD i []).toArray⟩ := ⟨_, rfl⟩
      rw [← hS] at hc ⊢
      clear hw hl hS
      have b1 : decide ((i : Int) < 0) = false := decide_eq_false h1
      have b2 : decide ((8 : Int) < (i : Int)) = false := decide_eq_false h2
      have b3 : (i : Int) < 9 := by omega
      go_enter Tryd.func7, Tryd.ntmps7
      go_wp2_with fail
      go_ret
      exact ⟨rfl, rfl⟩
theorem serves_any (k : Int) (W : World) :
    Calls Tryd.prog 8 #[.int .i64 k] W fun e w' => e = .returned (.bool (k == 3 || k == 6)) ∧ W = w' := by
  by_cases h1 : k = 3
  · have b1 : (k == 3) = true := by simp [h1]
    go_enter Tryd.func8, Tryd.ntmps8
    go_wp2_with fail
    go_ret
    exact ⟨by simp [b1], rfl⟩
  · have b1 : (k == 3) = false := by simp [h1]
    go_enter Tryd.func8, Tryd.ntmps8
    go_wp2_with fail
    go_ret
    exact ⟨by simp [b1], rfl⟩
set_option maxRecDepth 100000 in
set_option maxHeartbeats 2000000 in
theorem health_any (n0 n1 n2 n3 n4 n5 n6 n7 n8 : Int) (h0 : 0 ≤ n0 ∧ n0 ≤ 65535) (h1 : 0 ≤ n1 ∧ n1 ≤ 65535) (h2 : 0 ≤ n2 ∧ n2 ≤ 65535) (h3 : 0 ≤ n3 ∧ n3 ≤ 65535) (h4 : 0 ≤ n4 ∧ n4 ≤ 65535) (h5 : 0 ≤ n5 ∧ n5 ≤ 65535)
    (h6 : 0 ≤ n6 ∧ n6 ≤ 65535) (h7 : 0 ≤ n7 ∧ n7 ≤ 65535) (h8 : 0 ≤ n8 ∧ n8 ≤ 65535) (W : World) :
    Calls Tryd.prog 5 #[.agg #[.int .i64 n0, .int .i64 n1, .int .i64 n2, .int .i64 n3, .int .i64 n4, .int .i64 n5, .int .i64 n6, .int .i64 n7, .int .i64 n8]] W fun e w' =>
      IsRate (n3 + n6) (n1 + n2 + n3 + n4 + n5 + n6 + n8) W e w' := by
  obtain ⟨a0, b0⟩ := h0
  obtain ⟨a1, b1⟩ := h1
  obtain ⟨a2, b2⟩ := h2
  obtain ⟨a3, b3⟩ := h3
  obtain ⟨a4, b4⟩ := h4
  obtain ⟨a5, b5⟩ := h5
  obtain ⟨a6, b6⟩ := h6
  obtain ⟨a7, b7⟩ := h7
  obtain ⟨a8, b8⟩ := h8
  have i0 : ∀ w, (Instr.index 26 (.agg #[.int .i64 n0, .int .i64 n1, .int .i64 n2, .int .i64 n3, .int .i64 n4, .int .i64 n5, .int .i64 n6, .int .i64 n7, .int .i64 n8]) (.int .i64 0)).run Tryd.prog w = .ok (.int .i64 n0) w := fun _ => by kernel_rfl
  have i1 : ∀ w, (Instr.index 26 (.agg #[.int .i64 n0, .int .i64 n1, .int .i64 n2, .int .i64 n3, .int .i64 n4, .int .i64 n5, .int .i64 n6, .int .i64 n7, .int .i64 n8]) (.int .i64 1)).run Tryd.prog w = .ok (.int .i64 n1) w := fun _ => by kernel_rfl
  have i2 : ∀ w, (Instr.index 26 (.agg #[.int .i64 n0, .int .i64 n1, .int .i64 n2, .int .i64 n3, .int .i64 n4, .int .i64 n5, .int .i64 n6, .int .i64 n7, .int .i64 n8]) (.int .i64 2)).run Tryd.prog w = .ok (.int .i64 n2) w := fun _ => by kernel_rfl
  have i3 : ∀ w, (Instr.index 26 (.agg #[.int .i64 n0, .int .i64 n1, .int .i64 n2, .int .i64 n3, .int .i64 n4, .int .i64 n5, .int .i64 n6, .int .i64 n7, .int .i64 n8]) (.int .i64 3)).run Tryd.prog w = .ok (.int .i64 n3) w := fun _ => by kernel_rfl
  have i4 : ∀ w, (Instr.index 26 (.agg #[.int .i64 n0, .int .i64 n1, .int .i64 n2, .int .i64 n3, .int .i64 n4, .int .i64 n5, .int .i64 n6, .int .i64 n7, .int .i64 n8]) (.int .i64 4)).run Tryd.prog w = .ok (.int .i64 n4) w := fun _ => by kernel_rfl
  have i5 : ∀ w, (Instr.index 26 (.agg #[.int .i64 n0, .int .i64 n1, .int .i64 n2, .int .i64 n3, .int .i64 n4, .int .i64 n5, .int .i64 n6, .int .i64 n7, .int .i64 n8]) (.int .i64 5)).run Tryd.prog w = .ok (.int .i64 n5) w := fun _ => by kernel_rfl
  have i6 : ∀ w, (Instr.index 26 (.agg #[.int .i64 n0, .int .i64 n1, .int .i64 n2, .int .i64 n3, .int .i64 n4, .int .i64 n5, .int .i64 n6, .int .i64 n7, .int .i64 n8]) (.int .i64 6)).run Tryd.prog w = .ok (.int .i64 n6) w := fun _ => by kernel_rfl
  have i7 : ∀ w, (Instr.index 26 (.agg #[.int .i64 n0, .int .i64 n1, .int .i64 n2, .int .i64 n3, .int .i64 n4, .int .i64 n5, .int .i64 n6, .int .i64 n7, .int .i64 n8]) (.int .i64 7)).run Tryd.prog w = .ok (.int .i64 n7) w := fun _ => by kernel_rfl
  have i8 : ∀ w, (Instr.index 26 (.agg #[.int .i64 n0, .int .i64 n1, .int .i64 n2, .int .i64 n3, .int .i64 n4, .int .i64 n5, .int .i64 n6, .int .i64 n7, .int .i64 n8]) (.int .i64 8)).run Tryd.prog w = .ok (.int .i64 n8) w := fun _ => by kernel_rfl
  go_enter Tryd.func5, Tryd.ntmps5
  go_wp2_with fail
  refine wp_loop_rounds 10 ?_
  iterate 10 (rw [rounds_succ]; go_wp2_with fail)
  refine (rate_any _ _ _).mono ?_
  rintro e w' ⟨b, rfl, hR, hw⟩
  have HR := Lib.hid hR
  have HW : Hid (Below W.heap.size W w') := by
    rcases hw with rfl | rfl
    · exact (Below.refl _ W).alloc (Nat.le_refl _) _
    · exact ((Below.refl _ W).alloc (Nat.le_refl _) _).drew
  clear hR hw
  go_wp2_with fail
  go_ret
  exact ⟨b, rfl, HR.out, HW.out⟩

set_option maxHeartbeats 1000000 in
theorem awake_any (W : World) (hW : Words W) : Calls Tryd.prog 4 #[] W fun e w' => e = .returned (.bool true) ∧ Below W.heap.size W w' := by
  have HW := Lib.hid hW
  clear hW
  go_enter Tryd.func4, Tryd.ntmps4
  go_wp2_with fail
  refine (health_any 0 0 0 0 0 0 0 0 0 (by omega) (by omega) (by omega) (by omega) (by omega) (by omega) (by omega) (by omega) (by omega) _).mono ?_
  rintro e w1 ⟨b, rfl, hR, hw⟩
  have hc : cls b = 6 := by
    have := rate_cls (x := 0) (by decide) hR
    simpa using this
  have HC := Lib.hid hc
  have hlt := hR.1
  have H1 := Lib.hid hw
  have HWd := Lib.hid (HW.out.below hw)
  clear hc hR hw
  go_wp2_with fail
  refine (class_any _ hlt _).mono ?_
  rintro e w' ⟨rfl, rfl⟩
  rw [HC.out]
  go_wp2_with fail
  refine (text_any 4 _ HWd.out).mono ?_
  rintro e w' ⟨rfl, rfl⟩
  go_wp2_with fail
  refine (serves_any 3 _).mono ?_
  rintro e w' ⟨rfl, rfl⟩
  go_wp2_with fail
  go_ret
  exact ⟨rfl, H1.out⟩
end Jw
end Go.Proofs.YtnljfhoibkeloaaDoor
