/- What the recursion of slices.symMergeCmpFunc at float64 is to give. -/
import Derived.Test.YtnljfhoibkeloaaStabM
import Derived.Deep.DeepCutAuto
namespace Go.Proofs.Ytnljfhoibkeloaa
open Go.RowKit Go.Sort Go.Lib
set_option linter.unusedVariables false
set_option linter.unusedSimpArgs false
namespace Sb
open St
/-- What is proved of the recursion, up to a length. -/
def Upto (blk off cap : Nat) (d0 : Array W64) (w0 : World) (N : Nat) : Prop :=
  ∀ (a m b : Nat) (d : Array W64) (w : World), b - a ≤ N → d0.size = d.size → SW enc w0 blk off d w → a < m → m < b → b ≤ d.size → d.size ≤ 100000 → SortedIn lt a m d → SortedIn lt m b d →
    Calls Try.prog 42 #[.slice (some ⟨blk, off, none⟩) d.size cap, .int .i64 a, .int .i64 m, .int .i64 b, .func (.func 29) #[] #[]] w (MPost w0 blk off a b d)
theorem rot_size {a m b : Nat} {d d' : Array W64} (h : Rot a m b d d') : d'.size = d.size := h.perm.1
/-- The end of a merge: both halves done. -/
theorem fin {a m b s e mid : Nat} {d d1 d2 d3 : Array W64} (hb : b ≤ d.size) (ham : a < m) (hmb : m < b) (hmid : a ≤ mid ∧ mid ≤ b) (h1 : a ≤ s ∧ s ≤ m) (h2 : m ≤ e ∧ e ≤ b) (R : Rot s m e d d1)
    (c : ∀ x y, a ≤ x → x < mid → mid ≤ y → y < b → lt d1[y]! d1[x]! = false) (p2 : PermIn a mid d1 d2) (s2 : SortedIn lt a mid d2) (p3 : PermIn mid b d2 d3) (s3 : SortedIn lt mid b d3) :
    PermIn a b d d3 ∧ SortedIn lt a b d3 := by
  have z1 := R.perm.1
  have z2 := p2.1
  refine ⟨?_, ?_⟩
  · exact permIn_trans _ _ _ _ _ (permIn_mono _ _ _ _ _ _ h1.1 h2.2 (by omega) R.perm) (permIn_trans _ _ _ _ _ (permIn_mono _ _ _ _ _ _ (Nat.le_refl _) hmid.2 (by omega) p2) (permIn_mono _ _ _ _ _ _ hmid.1 (Nat.le_refl _) (by omega) p3))
  · refine merge_join (mid := mid) ?_ s3 (cross_perm (by omega) hmid.1 hmid.2 p2 p3 c)
    exact srt_congr s2 fun p hp hp' => p3.2.1 p (.inl hp')
end Sb
end Go.Proofs.Ytnljfhoibkeloaa
