/- The walk of GaugeSorts, for every input. -/
import Derived.Test.YtnljfhoibkeloaaSortsL
import Derived.Test.YtnljfhoibkeloaaTurnsP
namespace Go.Proofs.Ytnljfhoibkeloaa.gaugeSorts
open Go.RowKit
set_option linter.unusedVariables false
theorem walk (a0 : Option Addr) (len0 cap0 : Nat) (z0 : List Int) (W : World) (w0 : IsRow .u64 W a0 len0 cap0 z0) :
    Calls Try.prog 7 #[.slice a0 len0 cap0] W fun e w' => e = .returned (.bool true) ∧ Below W.heap.size W w' := by
  have h0 := Sb.Ws.of_row w0
  by_cases h : 40 < len0
  · exact Sb.sorts_off a0 len0 cap0 W h
  · by_cases hz : len0 = 0
    · subst hz
      exact Sb.sorts_zero a0 cap0 _ W h0
    · rcases h0.here with ⟨rfl, rfl, rfl⟩ | ⟨x, rfl, _⟩
      · omega
      · exact Sb.sorts_on x len0 cap0 _ W h0 (by omega) (by omega)
end Go.Proofs.Ytnljfhoibkeloaa.gaugeSorts
