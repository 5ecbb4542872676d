/- gauge.Sorted, gauge.Worst and gauge.Middle, of at most 40 measures. And: two sorted arrangements of the same elements are alike, place by place. -/
import Derived.Test.YtnljfhoibkeloaaStabT
import Derived.OneCell
namespace Go.Proofs.Ytnljfhoibkeloaa
open Go.RowKit Go.Sort Go.Lib
set_option linter.unusedVariables false
set_option linter.unusedSimpArgs false
namespace Sb
open St
/-- How many of the first n places meet p. -/
def cntP (p : W64 → Bool) (l : List W64) : Nat := (l.filter p).length
theorem cntP_perm {p : W64 → Bool} {l l' : List W64} (h : l.Perm l') : cntP p l = cntP p l' := (h.filter p).length_eq
theorem cntP_append (p : W64 → Bool) (l l' : List W64) : cntP p (l ++ l') = cntP p l + cntP p l' := by simp [cntP]
theorem cntP_le (p : W64 → Bool) (l : List W64) : cntP p l ≤ l.length := List.length_filter_le _ _
theorem cntP_all {p : W64 → Bool} {l : List W64} (h : ∀ x ∈ l, p x = true) : cntP p l = l.length := by
  unfold cntP; rw [List.filter_eq_self.2 h]
theorem cntP_none {p : W64 → Bool} {l : List W64} (h : ∀ x ∈ l, p x = false) : cntP p l = 0 := by
  unfold cntP; rw [List.filter_eq_nil_iff.2 (fun x hx => by simp [h x hx])]; rfl
/-- In a sorted arrangement no place is below the same place of another one. -/
theorem same_place {n : Nat} {d1 d2 : Array W64} (h1 : d1.size = n) (h2 : d2.size = n) (hp : (d1.extract 0 n).toList.Perm (d2.extract 0 n).toList) (s1 : SortedIn lt 0 n d1) (s2 : SortedIn lt 0 n d2) (i : Nat) (hi : i < n) : lt d1[i]! d2[i]! = false := by
  cases hl : lt d1[i]! d2[i]! with
  | false => rfl
  | true =>
    rw [extract_toList d1 0 n (by omega), extract_toList d2 0 n (by omega)] at hp
    have hc := cntP_perm (p := fun x => !lt d1[i]! x) hp
    have e : List.range' 0 (n - 0) = List.range' 0 (i + 1) ++ List.range' (i + 1) (n - (i + 1)) := by
      rw [show n - 0 = (i + 1) + (n - (i + 1)) by omega, ← List.range'_append_1]; simp
    have e2 : List.range' 0 (n - 0) = List.range' 0 i ++ List.range' i (n - i) := by
      rw [show n - 0 = i + (n - i) by omega, ← List.range'_append_1]; simp
    have a1 : i + 1 ≤ cntP (fun x => !lt d1[i]! x) ((List.range' 0 (n - 0)).map fun j => d1[j]!) := by
      rw [e, List.map_append, cntP_append, cntP_all]
      · simp
      · intro x hx
        obtain ⟨j, hj, rfl⟩ := List.mem_map.1 hx
        have hj' := List.mem_range'_1.1 hj
        have : lt d1[i]! d1[j]! = false := by
          by_cases q : j = i
          · subst q; exact swo_lt.irrefl _
          · exact s1 j i (by omega) (by omega) hi
        simp [this]
    have a2 : cntP (fun x => !lt d1[i]! x) ((List.range' 0 (n - 0)).map fun j => d2[j]!) ≤ i := by
      rw [e2, List.map_append, cntP_append]
      have z : cntP (fun x => !lt d1[i]! x) ((List.range' i (n - i)).map fun j => d2[j]!) = 0 := by
        apply cntP_none
        intro x hx
        obtain ⟨j, hj, rfl⟩ := List.mem_map.1 hx
        have hj' := List.mem_range'_1.1 hj
        have g : lt d2[j]! d2[i]! = false := by
          by_cases q : i = j
          · subst q; exact swo_lt.irrefl _
          · exact s2 i j (by omega) (by omega) (by omega)
        cases hq : lt d1[i]! d2[j]! with
        | true => rfl
        | false =>
          have := swo_lt.ntrans _ _ _ hq g
          rw [hl] at this; cases this
      rw [z]
      have := cntP_le (fun x => !lt d1[i]! x) ((List.range' 0 i).map fun j => d2[j]!)
      simpa using this
    omega

theorem heap_sw {w : World} {g n : Nat} {os : Array Obj} (d : Array W64) : w.grownBy (sortWorld enc w g 0 n d os) (some g) := by
  refine ⟨rfl, rfl, rfl, by simp [sortWorld], fun k hk hne => ?_⟩
  unfold sortWorld
  rw [heap_grow_old _ _ (by simpa using hk)]
  have : g ≠ k := fun e => hne (by rw [e])
  simp [putRow, mapBlock, Sort.ahead, Array.getElem?_modify, this]
/-- What Sorted hands back. -/
def SPost (n : Nat) (d : Array W64) (w : World) (e : Ending) (w' : World) : Prop :=
  ∃ g c d', e = .returned (.slice (some ⟨g, 0, none⟩) n c) ∧ (∀ j, j < n → w'.cell? ⟨g, j, none⟩ = some (enc d'[j]!)) ∧ d'.size = n ∧ PermIn 0 n d d' ∧ SortedIn lt 0 n d' ∧ Below w.heap.size w w' ∧ g < w'.heap.size
theorem info28 : (Try.prog.info? 28).map (fun i => (i.zero, i.size, i.bytes)) = some (some (.float .f64 0), 1, 8) := by kernel_rfl
set_option maxHeartbeats 1000000 in
theorem sorted_any (g0 c0 n : Nat) (d : Array W64) (hd : d.size = n) (hn0 : 0 < n) (hn : n ≤ 40) (w : World) (hc : ∀ j, j < n → w.cell? ⟨g0, j, none⟩ = some (enc d[j]!)) :
    Calls Try.prog 18 #[.slice (some ⟨g0, 0, none⟩) n c0] w (SPost n d w) := by
  obtain ⟨i0, hi, hz0, hz1, hz2⟩ := info_parts info28
  have hcl := Try.slices_Clone i0 (.float .f64 0) 1 8 hi hz0 hz1 hz2 rfl (by decide) Try.sizeOf28 g0 0 n c0 (d.toList.map enc) w (by simp [hd]) (by unfold maxLen; omega) (by omega) (fun j u hj => by
      rw [Nat.zero_add]
      have hjl : j < d.size := by
        have := (List.getElem?_eq_some_iff.1 hj).1
        simpa using this
      rw [hc j (by omega), getElem!_pos d j hjl]
      simp [hjl] at hj
      rw [hj]) (fun u hu => by obtain ⟨x, _, rfl⟩ := List.mem_map.1 hu; rfl)
  have HCL := Lib.hid hcl
  clear hcl hc
  go_enter Try.func18, Try.ntmps18
  go_wp2_with fail
  refine HCL.out.mono ?_
  rintro e w1 ⟨v, rfl, hown, hne, hb⟩
  obtain ⟨g, c, cur, rfl, hbg, hg, hnc, hcm, hcs, htake⟩ : ∃ g c cur, v = .slice (some ⟨g, 0, none⟩) n c ∧ w.heap.size ≤ g ∧ w1.heap[g]? = some (.cells cur 28 (0, 0)) ∧ n ≤ c ∧ c ≤ maxLen ∧ cur.size = c * 1 ∧ cur.toList.take (n * 1) = d.toList.map enc := by
    rcases hown.2 with ⟨h, _⟩ | h
    · exact absurd h hne
    · exact h
  have hH : Holds enc w1 g 0 d := by
    intro j hj
    have h1 := hown.cells (g := g) rfl j (enc d[j]!) (by simp [hj, getElem!_pos d j hj])
    refine ⟨?_, ?_⟩
    · rw [Nat.zero_add, ← h1]; unfold Addr.add; split <;> simp_all
    · simp [World.frozen?, hg]
  have R : Row1 enc w1 g 0 d := ⟨fun _ => rfl, hH, (Array.getElem?_eq_some_iff.1 hg).1⟩
  have hcall := stable_any g 0 c n d w1 w1 R (SW.start hH) hd hn
  have HB := Lib.hid hb
  have HBG := Lib.hid hbg
  have HR := Lib.hid R
  clear hown hne hbg hg hnc hcm hcs htake hH R hb
  go_wp2_with fail
  refine (show Calls Try.prog 31 #[.slice (some ⟨g, 0, none⟩) n c, .func (.func 29) #[] #[]] w1 (MPost w1 g 0 0 n d) from ?_).mono ?_
  · go_enter Try.func31, Try.ntmps31
    go_wp2_with fail
    refine hcall.mono ?_
    rintro e w2 ⟨rfl, d2, hs2, S2, P2, Q2⟩
    go_wp2_with fail
    go_end0
    exact ⟨rfl, d2, hs2, S2, P2, Q2⟩
  · rintro e w2 ⟨rfl, d2, hs2, S2, P2, Q2⟩
    have H2 : Holds enc w2 g 0 d2 := S2.holds HR.out.hblk HR.out.hH hs2
    have HH := Lib.hid H2
    have hb2 : Hid (Below w.heap.size w w2) := by
      obtain ⟨m, os, rfl⟩ := S2
      refine HB.out.grown (heap_sw d2) HB.out.size (fun k e => ?_)
      cases e
      exact HBG.out
    have hgl : g < w2.heap.size := S2.lt HR.out.hblk
    go_wp2_with fail
    go_ret
    refine ⟨g, c, d2, rfl, fun j hj => ?_, by omega, P2, Q2, hb2.out, hgl⟩
    have := (HH.out j (by omega)).1
    rwa [Nat.zero_add] at this
end Sb
end Go.Proofs.Ytnljfhoibkeloaa
