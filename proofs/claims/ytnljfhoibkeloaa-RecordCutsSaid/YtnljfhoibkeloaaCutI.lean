/- The iterator of slices.Chunk over bytes, 256 a piece. -/
import Derived.Test.YtnljfhoibkeloaaRange
import Derived.Test.YtnljfhoibkeloaaRows
import Derived.Lib.Hide
import Derived.Sort.LoopGhostIn
import Derived.OneCell
import Derived.Sort.BigQuietIn
namespace Go.Proofs.Ytnljfhoibkeloaa
open Go.RowKit
set_option linter.unusedVariables false
set_option linter.unusedSimpArgs false
attribute [local go_sem] Oper.semAt_some
namespace Rc
/-- The two cells of the iterator. -/
structure Cells (Bs Bn : Nat) (s : Value) (W : World) : Prop where
  src : W.heap[Bs]? = some (.cells #[s] 22 (0, 0))
  num : W.heap[Bn]? = some (.cells #[.int .i64 256] 3 (0, 0))
def Keep (Bs Bn : Nat) (W W' : World) : Prop := W'.heap[Bs]? = W.heap[Bs]? ∧ W'.heap[Bn]? = W.heap[Bn]?
theorem Cells.keep {Bs Bn : Nat} {s : Value} {W W' : World} (h : Cells Bs Bn s W) (k : Keep Bs Bn W W') : Cells Bs Bn s W' :=
  ⟨k.1.trans h.src, k.2.trans h.num⟩
/-- How many pieces. -/
def cnt (n : Nat) : Nat := (n + 255) / 256
/-- Piece number k. -/
def piece (p : Addr) (len k : Nat) : Value := .slice (some (p.add (256 * k))) (min 256 (len - 256 * k)) (min 256 (len - 256 * k))

set_option maxRecDepth 100000 in
set_option maxHeartbeats 2000000 in
theorem chunk_iter (n Bs Bn : Nat) (hn : 1 ≤ n) (p : Addr) (len cap : Nat) (hlc : len ≤ cap) (hl0 : len ≤ 100000) (w : World) (h1 : Bs < w.heap.size) (h2 : Bn < w.heap.size) (hc : Cells Bs Bn (.slice (some p) len cap) w) :
    Rg.Iter Fence.wide n Try.prog 34 #[.pointer (some ⟨Bs, 0, none⟩), .pointer (some ⟨Bn, 0, none⟩)] (fun k : Nat => #[piece p len k])
      (Keep Bs Bn) (fun ys => ys = List.range (cnt len)) (fun ys => ∃ k, k ≤ cnt len ∧ ys = List.range k) (cnt len) (fun _ => False) w := by
  intro l J Jx W hW hJ hJx hbl hY h0
  have hc0 : Cells Bs Bn (.slice (some p) len cap) W := ⟨(hW.block _ h1).trans hc.src, (hW.block _ h2).trans hc.num⟩
  have HC0 := Lib.hid hc0
  clear hc0
  refine callsIn_of_wp Try.func34 rfl trivial ?_ rfl
  simp only [Try.ntmps34, List.size_toArray, List.length_cons, List.length_nil, Nat.reduceAdd, Nat.reduceSub, Array.replicate_succ, Array.replicate_zero, List.push_toArray, List.append_toArray, List.nil_append, List.cons_append]
  gi_wp2_with fail
  gi_loopg [4] (cnt len) (fun gf i wr => ∃ k : Nat, i = .int .i64 ((256 * k : Nat) : Int) ∧ Hid (Cells Bs Bn (.slice (some p) len cap) wr) ∧ J (List.range k) wr ∧ k + gf = cnt len)
  case atStart => exact ⟨0, rfl, HC0, h0, by omega⟩
  case round =>
    obtain ⟨k, rfl, HC, hJk, hg⟩ := hrel
    have k1 := cell_of_one HC.out.src
    have k2 := cell_of_one HC.out.num
    by_cases hlt : 256 * k < len
    · have hk : k < cnt len := by unfold cnt; omega
      obtain ⟨g', rfl⟩ : ∃ g', gk = g' + 1 := ⟨gk - 1, by omega⟩
      have b1 : decide (((256 * k : Nat) : Int) < (len : Int)) = true := decide_eq_true (by omega)
      have b2 : decide (256 * k < len) = true := decide_eq_true hlt
      have f1 : (0 : Int) ≤ ((256 * k : Nat) : Int) := by omega
      have f2 : ((256 * k : Nat) : Int) ≤ (len : Int) := by omega
      obtain ⟨m, hm⟩ : ∃ m, min 256 (len - 256 * k) = m := ⟨_, rfl⟩
      have hmi : (if ((len - 256 * k : Nat) : Int) < 256 then ((len - 256 * k : Nat) : Int) else 256) = (m : Int) := by rw [← hm]; split <;> omega
      have hmb : m ≤ 256 ∧ 256 * k + m ≤ len ∧ 1 ≤ m := by omega
      have HM := Lib.hid hm
      clear hm
      gi_wp2_with fail
      gi_quiet (fail)

      have hJq : J (List.range k) (wr.drewN nq) := hJ _ _ _ none hJk ⟨rfl, rfl, rfl, Nat.le_refl _, fun _ _ _ => rfl⟩ (fun _ e => by cases e)
      have HCq : Hid (Cells Bs Bn (.slice (some p) len cap) (wr.drewN nq)) := ⟨HC.out.src, HC.out.num⟩
      generalize wr.drewN nq = wq at *
      clear hJk HC k1 k2 hmi
      have k1 := cell_of_one HCq.out.src
      have k2 := cell_of_one HCq.out.num
      obtain ⟨fn, tmps, assign, body, hy, hR⟩ := hY (List.range k) k wq hJq (by simpa using hk)
      unfold piece at hy
      rw [HM.out] at hy
      gi_wp2_with fail
      refine hR.mono ?_
      rintro e W3 (⟨rfl, hJ3, hk3⟩ | ⟨rfl, hJx3⟩)
      · have HC3 : Hid (Cells Bs Bn (.slice (some p) len cap) W3) := HCq.out.keep hk3
        clear hk3 k1 k2 hy hR
        have k1 := cell_of_one HC3.out.src
        have k2 := cell_of_one HC3.out.num
        gi_wp2_with fail
        go_roundg g'
        case measure => omega
        case rel => exact ⟨k + 1, congrArg (Value.int .i64) (by omega), HC3, by rw [List.range_succ]; exact hJ3, by omega⟩
      · gi_wp2_with fail
        refine bodyPost_ret (results_none rfl _ _ _) rfl ?_
        exact ⟨⟨_, rfl⟩, .inr ⟨_, ⟨k + 1, by omega, List.range_succ.symm⟩, hJx3⟩⟩
    · have hk : k = cnt len := by unfold cnt at *; omega
      have b1 : decide (((256 * k : Nat) : Int) < (len : Int)) = false := decide_eq_false (by omega)
      have b2 : decide (256 * k < len) = false := decide_eq_false hlt
      gi_wp2_with fail
      go_end0
      exact ⟨⟨_, rfl⟩, .inl ⟨_, by rw [hk], hJk⟩⟩
end Rc
end Go.Proofs.Ytnljfhoibkeloaa
