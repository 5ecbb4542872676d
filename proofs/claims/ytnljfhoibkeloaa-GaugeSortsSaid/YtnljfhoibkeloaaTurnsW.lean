/- The walk of GaugeTurns. -/
import Derived.Test.YtnljfhoibkeloaaTurnsA
import Derived.Deep.RegionHeld3
import Derived.IntWalk
import Derived.BigQuiet
import Derived.Deep.QuietTactic
namespace Go.Proofs.Ytnljfhoibkeloaa
open Go.RowKit Go.Sort Go.Lib
set_option linter.unusedVariables false
set_option linter.unusedSimpArgs false
namespace Sb
open St
theorem arr_list (Z : Nat → W64) (n : Nat) : ((arr Z n).extract 0 n).toList = (List.range n).map Z := by
  simp [arr]
  rw [List.take_of_length_le (by simp)]
theorem rot_perm (Z : Nat → W64) (n k : Nat) (hk : k < n) : ((List.range n).map fun i => Z ((i + k) % n)).Perm ((List.range n).map Z) := by
  have e : List.range n = List.range' 0 k ++ List.range' k (n - k) := by
    rw [List.range_eq_range', show n = k + (n - k) by omega, ← List.range'_append_1]
    simp
  have e2 : List.range n = List.range' 0 (n - k) ++ List.range' (n - k) k := by
    rw [List.range_eq_range', show n = (n - k) + k by omega, ← List.range'_append_1]
    simp
  have a1 : ((List.range' 0 (n - k)).map fun i => Z ((i + k) % n)) = (List.range' k (n - k)).map Z := by
    apply List.ext_getElem (by simp)
    intro i h1 h2
    simp at h1 ⊢
    rw [Nat.mod_eq_of_lt (by omega), Nat.add_comm]
  have a2 : ((List.range' (n - k) k).map fun i => Z ((i + k) % n)) = (List.range' 0 k).map Z := by
    apply List.ext_getElem (by simp)
    intro i h1 h2
    simp at h1 ⊢
    rw [show n - k + i + k = n + i by omega, Nat.add_mod_left, Nat.mod_eq_of_lt (by omega)]
  have l : ((List.range n).map fun i => Z ((i + k) % n)) = (List.range' k (n - k)).map Z ++ (List.range' 0 k).map Z := by
    rw [← a1, ← a2, ← List.map_append, ← e2]
  rw [l]
  refine List.perm_append_comm.trans ?_
  rw [← List.map_append, ← e]
theorem perm_list {n : Nat} {d d' : Array W64} (h : PermIn 0 n d d') : (d'.extract 0 n).toList.Perm (d.extract 0 n).toList := h.2.2
theorem ord_nn {x y : W64} (h : lt x y = false) : decide (Ga.ord x.1 y.1 < 0) = false := h
/-- The first of a sorted arrangement is above none of what was arranged. -/
theorem worst_least {n : Nat} {d d' : Array W64} (hd : d.size = n) (hd' : d'.size = n) (hp : PermIn 0 n d d') (hs : SortedIn lt 0 n d') (i : Nat) (hi : i < n) : lt d[i]! d'[0]! = false := by
  have h := perm_list hp
  rw [extract_toList d 0 n (by omega), extract_toList d' 0 n (by omega)] at h
  have hm : d[i]! ∈ (List.range' 0 (n - 0)).map fun j => d'[j]! := h.mem_iff.2 (List.mem_map.2 ⟨i, by simp [List.mem_range'_1]; omega, rfl⟩)
  obtain ⟨j, hj, e⟩ := List.mem_map.1 hm
  have hj' := List.mem_range'_1.1 hj
  rw [← e]
  by_cases q : j = 0
  · subst q; exact swo_lt.irrefl _
  · exact hs 0 j (by omega) (by omega) (by omega)
theorem both {n : Nat} {d e d1 e1 : Array W64} (h1 : d1.size = n) (h2 : e1.size = n) (hde : (e.extract 0 n).toList.Perm (d.extract 0 n).toList) (p1 : PermIn 0 n d d1) (s1 : SortedIn lt 0 n d1) (p2 : PermIn 0 n e e1) (s2 : SortedIn lt 0 n e1) (i : Nat) (hi : i < n) :
    lt d1[i]! e1[i]! = false ∧ lt e1[i]! d1[i]! = false := by
  have h : (d1.extract 0 n).toList.Perm (e1.extract 0 n).toList := (perm_list p1).trans (hde.symm.trans (perm_list p2).symm)
  exact ⟨same_place h1 h2 h s1 s2 i hi, same_place h2 h1 h.symm s2 s1 i hi⟩
theorem frombits (n : Int) (w : World) : (callFunc 14 #[.int .u64 n]).run Try.prog w = .ok (.value (.float .f64 n.toNat)) w := Ga.run_frombits n w
theorem chainB {n : Nat} {w a b : World} (h : Hid (Below n w a)) (k : Below a.heap.size a b) (hn : n ≤ w.heap.size := by exact Nat.le_refl _) : Hid (Below n w b) := h.out.trans (k.mono (Nat.le_trans hn h.out.size))
theorem drewB {n : Nat} {w a : World} (h : Hid (Below n w a)) : Hid (Below n w a.drew) := h.out.drew
/-- What the loop that lays the measures keeps. -/
structure Two (B n kk k : Nat) (Z : Nat → W64) (va vb : Value) (W0 W : World) : Prop where
  a : Fs B va k Z W
  b : Fs B vb k (fun i => Z ((i + kk) % n)) W
  ne : ∀ g, va.ownBlock = some g → vb.ownBlock ≠ some g
  la : ∀ g, va.ownBlock = some g → B ≤ g ∧ g < W.heap.size
  lb : ∀ g, vb.ownBlock = some g → B ≤ g ∧ g < W.heap.size
  bel : Below B W0 W
theorem Fs.own {B : Nat} {v : Value} {k : Nat} {Z : Nat → W64} {W : World} (h : Fs B v k Z W) : ∀ g, v.ownBlock = some g → B ≤ g ∧ g < W.heap.size := fun g e => World.ownsRow.lt h g e
/-- A round of it. -/
theorem Two.more {B n kk k : Nat} {Z : Nat → W64} {va vb : Value} {W0 W : World} (h : Two B n kk k Z va vb W0 W) (hk : k ≤ 50) (hB0 : B ≤ W0.heap.size) :
    ∃ va' w1 vb' w2, (Builtin.append_ #[38, 38] 38 #[va, .slice (some ⟨W.heap.size, 0, none⟩) 1 1]).run Try.prog (W.alloc (.cells #[.float .f64 (Z k).1] 28)) = .ok va' w1 ∧
      (Builtin.append_ #[38, 38] 38 #[vb, .slice (some ⟨w1.heap.size, 0, none⟩) 1 1]).run Try.prog (w1.alloc (.cells #[.float .f64 (Z ((k + kk) % n)).1] 28)) = .ok vb' w2 ∧
      Two B n kk (k + 1) Z va' vb' W0 w2 ∧ Below B W w1 := by
  have hBW : B ≤ W.heap.size := Nat.le_trans hB0 h.bel.size
  obtain ⟨va', w1, r1, f1, g1, o1⟩ := h.a.more hBW (by omega) _ rfl
  have gw : ∀ g, va.ownBlock = some g → g ≠ W.heap.size ∧ vb.ownBlock ≠ some g := fun g e => ⟨by have := (h.la g e).2; omega, h.ne g e⟩
  have hb0 : Fs B vb k (fun i => Z ((i + kk) % n)) (W.alloc (.cells #[enc (Z k)] 28)) := World.ownsRow.alloc h.b _
  have hb1 : Fs B vb k (fun i => Z ((i + kk) % n)) w1 := hb0.grow g1 (fun g e e2 => h.ne g e2 e)
  have B1 : Below B W w1 := ((Below.refl _ W).alloc hBW _).grown g1 (by simp; omega) (fun k e => (h.la k e).1)
  have s1 : W.heap.size + 1 ≤ w1.heap.size := by simpa using g1.size
  obtain ⟨vb', w2, r2, f2, g2, o2⟩ := hb1.more (Nat.le_trans hBW B1.size) (by omega) _ rfl
  have ha1 : Fs B va' (k + 1) Z (w1.alloc (.cells #[enc (Z ((k + kk) % n))] 28)) := World.ownsRow.alloc f1 _
  have hne : ∀ g, va'.ownBlock = some g → vb.ownBlock ≠ some g := by
    intro g e e2
    rcases o1 with o1 | o1
    · rw [o1] at e; exact h.ne g e e2
    · rw [o1] at e; cases e
      have := (h.lb _ e2).2
      omega
  have ha2 : Fs B va' (k + 1) Z w2 := ha1.grow g2 hne
  refine ⟨va', w1, vb', w2, r1, r2, ⟨ha2, f2, ?_, ha2.own, f2.own, ?_⟩, B1⟩
  · intro g e e2
    rcases o2 with o2 | o2
    · rw [o2] at e2; exact hne g e e2
    · rw [o2] at e2; cases e2
      have := (f1.own _ e).2
      omega
  · exact ((h.bel.trans B1).alloc (Nat.le_trans hBW B1.size) _).grown g2 (by simp; have := B1.size; omega) (fun k e => (h.lb k e).1)
end Sb
end Go.Proofs.Ytnljfhoibkeloaa
