/- gauge.Worst and gauge.Middle of at most 40 measures; the words of a slice; rows of measures of the call's own. -/
import Derived.Test.YtnljfhoibkeloaaSorted
import Derived.Test.YtnljfhoibkeloaaApp
namespace Go.Proofs.Ytnljfhoibkeloaa
open Go.RowKit Go.Sort Go.Lib
set_option linter.unusedVariables false
set_option linter.unusedSimpArgs false
namespace Sb
open St
set_option maxHeartbeats 1000000 in
theorem worst_any (g0 c0 n : Nat) (d : Array W64) (hd : d.size = n) (hn0 : 0 < n) (hn : n ≤ 40) (w : World) (hc : ∀ j, j < n → w.cell? ⟨g0, j, none⟩ = some (enc d[j]!)) :
    Calls Try.prog 19 #[.slice (some ⟨g0, 0, none⟩) n c0] w (fun e w' => ∃ d', e = .returned (enc d'[0]!) ∧ d'.size = n ∧ PermIn 0 n d d' ∧ SortedIn lt 0 n d' ∧ Below w.heap.size w w') := by
  have b1 : decide ((n : Int) = 0) = false := decide_eq_false (by omega)
  have b2 : ((n : Int) == 0) = false := b1
  have HS := Lib.hid (sorted_any g0 c0 n d hd hn0 hn w hc)
  clear hc
  go_enter Try.func19, Try.ntmps19
  go_wp2_with fail
  refine HS.out.mono ?_
  rintro e w1 ⟨g, c, d', rfl, hcell, hs, hp, hq, hb, hg⟩
  have k0 := hcell 0 (by omega)
  obtain ⟨u, hu⟩ : ∃ u, d'[0]! = u := ⟨_, rfl⟩
  rw [hu] at k0
  have HU := Lib.hid hu
  clear hu
  have f1 : (0 : Int) < (n : Int) := by omega
  have HP := Lib.hid hp
  have HQ := Lib.hid hq
  have HB := Lib.hid hb
  clear hcell hp hq hb HS
  go_wp2_with fail
  go_ret
  exact ⟨d', by rw [HU.out]; rfl, hs, HP.out, HQ.out, HB.out⟩
set_option maxHeartbeats 1000000 in
theorem middle_any (g0 c0 n : Nat) (d : Array W64) (hd : d.size = n) (hn0 : 0 < n) (hn : n ≤ 40) (w : World) (hc : ∀ j, j < n → w.cell? ⟨g0, j, none⟩ = some (enc d[j]!)) :
    Calls Try.prog 22 #[.slice (some ⟨g0, 0, none⟩) n c0] w (fun e w' => ∃ d', e = .returned (enc d'[n / 2]!) ∧ d'.size = n ∧ PermIn 0 n d d' ∧ SortedIn lt 0 n d' ∧ Below w.heap.size w w') := by
  have b1 : decide ((n : Int) = 0) = false := decide_eq_false (by omega)
  have b2 : ((n : Int) == 0) = false := b1
  obtain ⟨m, hm⟩ : ∃ m, n / 2 = m := ⟨_, rfl⟩
  have f0 : (n : Int).tdiv 2 = (m : Int) := by rw [Int.tdiv_eq_ediv_of_nonneg (by omega)]; omega
  have f1 : (m : Int) < (n : Int) := by omega
  have f2 : (0 : Int) ≤ (m : Int) := by omega
  rw [hm]
  have HS := Lib.hid (sorted_any g0 c0 n d hd hn0 hn w hc)
  have HM := Lib.hid hm
  clear hc hm
  go_enter Try.func22, Try.ntmps22
  go_wp2_with fail
  refine HS.out.mono ?_
  rintro e w1 ⟨g, c, d', rfl, hcell, hs, hp, hq, hb, hg⟩
  have k0 := hcell m (by omega)
  obtain ⟨u, hu⟩ : ∃ u, d'[m]! = u := ⟨_, rfl⟩
  rw [hu] at k0
  have HU := Lib.hid hu
  clear hu
  have HP := Lib.hid hp
  have HQ := Lib.hid hq
  have HB := Lib.hid hb
  clear hcell hp hq hb HS
  go_wp2_with fail
  go_ret
  exact ⟨d', by rw [HU.out]; rfl, hs, HP.out, HQ.out, HB.out⟩
/-- The first n of some words, as measures. -/
def arr (Z : Nat → W64) (n : Nat) : Array W64 := ((List.range n).map Z).toArray
theorem arr_size (Z : Nat → W64) (n : Nat) : (arr Z n).size = n := by simp [arr]
theorem arr_at (Z : Nat → W64) (n i : Nat) (h : i < n) : (arr Z n)[i]! = Z i := by
  rw [getElem!_pos _ i (by rw [arr_size]; exact h)]; simp [arr]
/-- The words of a slice of uint64. -/
structure Ws (W : World) (a : Option Addr) (len cap : Nat) (Z : Nat → W64) : Prop where
  here : (a = none ∧ len = 0 ∧ cap = 0) ∨ ∃ x, a = some x ∧ len ≤ cap ∧ cap ≤ maxLen
  old : ∀ x, a = some x → 0 < len → x.block < W.heap.size
  cell : ∀ x, a = some x → ∀ i, i < len → W.cell? (x.add i) = some (.int .u64 ((Z i).1 : Int))
theorem add_block (p : Addr) (i : Nat) : (p.add i).block = p.block := by unfold Addr.add; split <;> rfl
theorem add_zero (g j : Nat) : (⟨g, 0, none⟩ : Addr).add j = ⟨g, j, none⟩ := by unfold Addr.add; split <;> simp_all
theorem cell_lt {W : World} {p : Addr} {v : Value} (h : W.cell? p = some v) : p.block < W.heap.size := by
  unfold World.cell? at h
  cases hb : W.heap[p.block]? with
  | none => simp [hb] at h
  | some o => exact (Array.getElem?_eq_some_iff.1 hb).1
theorem Ws.below {W W' : World} {a : Option Addr} {len cap : Nat} {Z : Nat → W64} (h : Ws W a len cap Z) {B : Nat} (hb : Below B W W') (hB : W.heap.size ≤ B) : Ws W' a len cap Z := by
  refine ⟨h.here, fun x hx hl => Nat.lt_of_lt_of_le (h.old x hx hl) hb.size, fun x hx i hi => ?_⟩
  rw [hb.cell (p := x.add i) (by rw [add_block]; exact Nat.lt_of_lt_of_le (h.old x hx (by omega)) hB)]
  exact h.cell x hx i hi
/-- A row of measures of the call's own. -/
def Fs (B : Nat) (v : Value) (k : Nat) (Z : Nat → W64) (W : World) : Prop := W.ownsRow B 28 1 v k ((List.range k).map fun i => enc (Z i))
theorem Fs.cells {B : Nat} {v : Value} {k : Nat} {Z : Nat → W64} {W : World} (h : Fs B v k Z W) (hk : 0 < k) :
    ∃ g c, v = .slice (some ⟨g, 0, none⟩) k c ∧ ∀ j, j < k → W.cell? ⟨g, j, none⟩ = some (enc (arr Z k)[j]!) := by
  have hc := fun g' n c (e : v = .slice (some ⟨g', 0, none⟩) n c) => World.ownsRow.cells h (g := g') (by rw [e]; rfl)
  rcases h.2 with ⟨_, h0⟩ | ⟨g, c, cur, rfl, _⟩
  · omega
  · refine ⟨g, c, rfl, fun j hj => ?_⟩
    have := hc g k c rfl j (enc (Z j)) (by simp [hj])
    rw [add_zero] at this
    rw [this, arr_at Z k j hj]
theorem Fs.grow {B : Nat} {v : Value} {k : Nat} {Z : Nat → W64} {W W' : World} (h : Fs B v k Z W) {v2 : Value} (hg : W.grownBy W' v2.ownBlock) (hne : ∀ g, v.ownBlock = some g → v2.ownBlock ≠ some g) : Fs B v k Z W' := by
  refine ⟨h.1, ?_⟩
  rcases h.2 with h3 | ⟨g, cap, cur, e1, e2, e3, e4⟩
  · exact .inl h3
  · refine .inr ⟨g, cap, cur, e1, e2, ?_, e4⟩
    rw [hg.block g (Array.getElem?_eq_some_iff.1 e3).1 (fun e => hne g (by rw [e1]; rfl) e.symm)]
    exact e3
/-- One more measure. -/
theorem Fs.more {B : Nat} {v : Value} {k : Nat} {Z : Nat → W64} {W : World} (h : Fs B v k Z W) (hB : B ≤ W.heap.size) (hk : k ≤ 100) (x : Value) (hx : x = enc (Z k)) :
    ∃ v' w', (Builtin.append_ #[38, 38] 38 #[v, .slice (some ⟨W.heap.size, 0, none⟩) 1 1]).run Try.prog (W.alloc (.cells #[x] 28)) = .ok v' w' ∧ Fs B v' (k + 1) Z w' ∧
      (W.alloc (.cells #[x] 28)).grownBy w' v.ownBlock ∧ (v'.ownBlock = v.ownBlock ∨ v'.ownBlock = some (W.heap.size + 1)) := by
  subst hx
  obtain ⟨i0, hi, hz0, hz1, hz2⟩ := info_parts info28
  have ho : Fs B v k Z (W.alloc (.cells #[enc (Z k)] 28)) := World.ownsRow.alloc h _
  have hs : Src Try.prog 1 38 (.slice (some ⟨W.heap.size, 0, none⟩) 1 1) 1 [enc (Z k)] (W.alloc (.cells #[enc (Z k)] 28)) := by
    refine Src.ofSlice _ Try.underlying38 ⟨W.heap.size, 0, none⟩ 1 1 _ rfl (fun j u hj => ?_) (fun u hu => ?_)
    · have : j = 0 := by
        have := (List.getElem?_eq_some_iff.1 hj).1
        simpa using this
      subst this
      simp at hj
      subst hj
      rw [add_zero]
      exact cell_of_one (heap_alloc_new W _)
    · simp at hu; subst hu; rfl
  obtain ⟨v', w', r, o, g, _, e⟩ := App.run (P := Try.prog) B 38 38 38 28 i0 (.float .f64 0) 1 8 Try.underlying38 hi hz0 hz1 hz2 rfl (by decide) v k _ ho _ 1 _ hs (by unfold maxLen; omega) (by omega) (by simp; omega)
  refine ⟨v', w', r, ?_, g, by simpa using e⟩
  unfold Fs
  rw [List.range_succ, List.map_append]
  exact o
end Sb
end Go.Proofs.Ytnljfhoibkeloaa
