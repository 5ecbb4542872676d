/- Arrays of whole numbers, taken by value: what a row's argument of such a type is. No program in sight. -/
import Derived.Lib.LaidTab
import Derived.ChangeArms
import Derived.WideShapes
import Derived.OpenShut
namespace Go.Proofs.YtnljfhoibkeloaaDoor
set_option linter.unusedVariables false
set_option linter.unusedSimpArgs false
namespace Ar
theorem open_arr {P : Program} {H : Type} {enc : TypeId × Value → H} {W : World} {b base : Nat} {sp : Nat → Bool} {held : Bool} {t e : TypeId} {n : Nat} {k : IntKind} {v : Value} {d : DataW H} {p : List MemPlace}
    (ht : P.underlying t = some (.array n e)) (he : P.underlying e = some (.int k)) (hce : P.cellsOf e = 1) (hct : P.cellsOf t = n)
    (hok : Value.okWide P W .any base t v) (h : DataW.Trod enc P W b sp held t v d p) :
    ∃ x : Nat → Int, v = .agg ((List.range n).map fun i => Value.int k (x i)).toArray ∧ ∀ i, i < n → (Lit.int k (x i)).wf = true := by
  obtain ⟨cs, rfl, hsz, _⟩ : ∃ cs, v = .agg cs ∧ cs.size = P.cellsOf t ∧ Row.okWide P W .any base t cs := by
    simpa [Value.okWide, ht] using hok
  rw [hct] at hsz
  obtain ⟨fuel, hf⟩ := h
  cases fuel with
  | zero => simp [DataW.trod] at hf
  | succ fuel =>
    simp only [DataW.trod, ht, hce, hct, Nat.mul_one] at hf
    split at hf
    · rename_i hl
      obtain ⟨xs, hm, hx⟩ := Option.map_eq_some_iff.1 hf
      have each : ∀ i, i < n → ∃ z : Int, cs.toList[i]? = some (.int k z) ∧ (Lit.int k z).wf = true := by
        intro i hi
        obtain ⟨b, hb, hg⟩ := Lib.mapM_at hm i i (by simp [hi])
        obtain ⟨z, hc, rfl, hw⟩ := DataW.trod_int he hg
        refine ⟨z, ?_, hw⟩
        have := congrArg (·[0]?) hc
        simpa [Value.cells, List.getElem?_take, List.getElem?_drop] using this
      refine ⟨fun i => match cs.toList[i]? with | some (.int _ z) => z | _ => 0, ?_, fun i hi => ?_⟩
      · congr 1
        apply Array.ext'
        apply List.ext_getElem?
        intro i
        by_cases hi : i < n
        · obtain ⟨z, h1, _⟩ := each i hi
          rw [h1]
          simp only [List.getElem?_map, List.getElem?_range hi, Option.map_some, h1]
        · rw [List.getElem?_eq_none (by simp; omega), List.getElem?_eq_none (by simp; omega)]
      · obtain ⟨z, h1, h2⟩ := each i hi
        simp only [h1]
        exact h2
    · cases hf
end Ar
end Go.Proofs.YtnljfhoibkeloaaDoor
