/- The walk of GaugeTurns, for every input. -/
import Derived.Test.YtnljfhoibkeloaaTurnsL
import Derived.Test.YtnljfhoibkeloaaBytes
namespace Go.Proofs.Ytnljfhoibkeloaa
open Go.RowKit Go.Sort
set_option linter.unusedVariables false
set_option linter.unusedSimpArgs false
namespace Sb
open St
/-- A word, from the number that is read. -/
def wd (z : Int) : W64 := ⟨z.toNat % 18446744073709551616, Nat.mod_lt _ (by omega)⟩
theorem wd_val {z : Int} (h : (Lit.int .u64 z).wf = true) : ((wd z).1 : Int) = z := by
  have := bounds_u64 h
  show ((z.toNat % 18446744073709551616 : Nat) : Int) = z
  omega
theorem Ws.of_row {W : World} {a : Option Addr} {len cap : Nat} {zs : List Int} (h : IsRow .u64 W a len cap zs) : Ws W a len cap (fun i => wd (zs.getD i 0)) := by
  rcases h with ⟨rfl, rfl, rfl, rfl⟩ | ⟨x, rfl, h1, h2, h3, h4, h5⟩
  · exact ⟨.inl ⟨rfl, rfl, rfl⟩, (fun x h => by cases h), (fun x h => by cases h)⟩
  · refine ⟨.inr ⟨x, rfl, h1, h2⟩, fun y hy hl => ?_, fun y hy i hi => ?_⟩
    · cases hy
      have := cell_lt (h4 0 (by omega))
      rwa [add_block] at this
    · cases hy
      have hm : zs.getD i 0 ∈ zs := by
        rw [List.getD_eq_getElem?_getD, List.getElem?_eq_getElem (by omega)]
        exact List.getElem_mem _
      rw [wd_val (h5 _ hm)]
      exact h4 i (by omega)
end Sb
end Go.Proofs.Ytnljfhoibkeloaa
namespace Go.Proofs.Ytnljfhoibkeloaa.gaugeTurns
open Go.RowKit
theorem walk (a0 : Option Addr) (len0 cap0 : Nat) (z0 : List Int) (a1 : Int) (w1 : (Lit.int .u8 a1).wf = true) (W : World) (w0 : IsRow .u64 W a0 len0 cap0 z0) :
    Calls Try.prog 6 #[.slice a0 len0 cap0, .int .u8 a1] W fun e w' => e = .returned (.bool true) ∧ Below W.heap.size W w' := by
  have h0 := Sb.Ws.of_row w0
  have b := bounds_u8 w1
  obtain ⟨t, rfl⟩ := Int.eq_ofNat_of_zero_le b.1
  by_cases h : 30 < len0 ∨ len0 = 0
  · exact Sb.turns_off a0 len0 cap0 _ W h
  · rcases h0.here with ⟨rfl, rfl, rfl⟩ | ⟨x, rfl, _⟩
    · omega
    · exact Sb.turns_on x len0 cap0 _ t W h0 (by omega) (by omega) (by omega)
end Go.Proofs.Ytnljfhoibkeloaa.gaugeTurns
