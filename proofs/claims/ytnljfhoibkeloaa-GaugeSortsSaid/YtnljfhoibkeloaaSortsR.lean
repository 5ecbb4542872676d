/- The reference's Sorted. -/
import Derived.Test.YtnljfhoibkeloaaSortsA
import Derived.Test.YtnljfhoibkeloaaTurnsW
namespace Go.Proofs.Ytnljfhoibkeloaa
open Go.RowKit Go.Sort Go.Lib
set_option linter.unusedVariables false
set_option linter.unusedSimpArgs false
namespace Sb
open St
open Ga Fl in
/-- The two orders are one. -/
theorem ord_lt (a b : Nat) (ha : a < 18446744073709551616) (hb : b < 18446744073709551616) : decide (ord a b < 0) = lessR a b := by
  unfold ord lessR
  have hk : ∀ x : Nat, cls x = 1 → 9223372036854775808 ≤ x := by
    intro x h; unfold cls rung at h; (repeat (first | omega | split at h))
  have hk4 : ∀ x : Nat, cls x = 4 → x < 9223372036854775808 := by
    intro x h; unfold cls rung at h; (repeat (first | omega | split at h))
  have hz : ∀ x y : Nat, x < 18446744073709551616 → y < 18446744073709551616 → cls x = cls y → cls x ≠ 6 → cls x ≠ 1 → cls x ≠ 4 → key x = key y := by
    intro x y hx hy h h6 h1 h4
    unfold cls rung at h h6 h1 h4
    unfold key
    (repeat (first | omega | split at h | split at h6 | split))
  have hc : ∀ x : Nat, 0 ≤ cls x ∧ cls x ≤ 6 := by
    intro x; unfold cls; (repeat (first | omega | split))
  by_cases h : cls a = cls b
  · rw [← h, (cmpI_zero.2 rfl : cmpI (cls a) (cls a) = 0), if_neg (fun g => g rfl : ¬ (cls a ≠ cls a))]
    by_cases h6 : cls a = 6
    · rw [if_pos (.inr h6), if_neg (by omega), decide_eq_false (by omega : ¬ cls a = 4)]; rfl
    · rw [if_neg (by rintro (x | x); exact x rfl; exact h6 x)]
      by_cases h1 : cls a = 1
      · rw [if_pos h1, decide_eq_decide]
        have a1 := hk a h1
        have b1 := hk b (by omega)
        have ka : key a = -((a : Int) - 9223372036854775808) := by unfold key; rw [if_neg (by omega)]
        have kb : key b = -((b : Int) - 9223372036854775808) := by unfold key; rw [if_neg (by omega)]
        rw [ka, kb]
        unfold cmpI
        constructor <;> intro g <;> (repeat (first | omega | split at g | split))
      · rw [if_neg h1]
        by_cases h4 : cls a = 4
        · rw [decide_eq_true h4, Bool.true_and, decide_eq_decide]
          have a1 := hk4 a h4
          have b1 := hk4 b (by omega)
          have ka : key a = (a : Int) := by unfold key; rw [if_pos (by omega)]
          have kb : key b = (b : Int) := by unfold key; rw [if_pos (by omega)]
          rw [ka, kb]
          unfold cmpI
          constructor <;> intro g <;> (repeat (first | omega | split at g | split))
        · rw [decide_eq_false h4, Bool.false_and, hz a b ha hb h h6 h1 h4, (cmpI_zero.2 rfl : cmpI (key b) (key b) = 0)]; rfl
  · have hne : cmpI (cls a) (cls b) ≠ 0 := fun g => h (cmpI_zero.1 g)
    rw [if_pos (.inl hne), if_pos h, decide_eq_decide]
    unfold cmpI
    constructor <;> intro g <;> (repeat (first | omega | split at g | split))
theorem refless_lt (x y : W64) (w : World) : Calls Try.prog 17 #[.int .u64 (x.1 : Int), .int .u64 (y.1 : Int)] w fun e w' => e = .returned (.bool (lt x y)) ∧ w = w' := by
  refine (Ga.refless_any x.1 y.1 w).mono ?_
  rintro e w' ⟨rfl, rfl⟩
  refine ⟨?_, rfl⟩
  rw [← ord_lt x.1 y.1 x.2 y.2]
  rfl
/-- A row of words of the call's own. -/
def Us (B : Nat) (v : Value) (k : Nat) (D : Nat → W64) (W : World) : Prop := W.ownsRow B 32 1 v k ((List.range k).map fun i => .int .u64 ((D i).1 : Int))
theorem Us.below {B C : Nat} {v : Value} {k : Nat} {D : Nat → W64} {W W' : World} (h : Us B v k D W) (hb : Below C W W') (hC : W.heap.size ≤ C) : Us B v k D W' := by
  refine ⟨h.1, ?_⟩
  rcases h.2 with h3 | ⟨g, cap, cur, e1, e2, e3, e4⟩
  · exact .inl h3
  · exact .inr ⟨g, cap, cur, e1, e2, (hb.block g (Nat.lt_of_lt_of_le (Array.getElem?_eq_some_iff.1 e3).1 hC)).trans e3, e4⟩
theorem Us.form {B : Nat} {v : Value} {k : Nat} {D : Nat → W64} {W : World} (h : Us B v k D W) :
    ∃ a c, v = .slice a k c ∧ k ≤ c ∧ ((a = none ∧ k = 0 ∧ c = 0) ∨ ∃ g, a = some ⟨g, 0, none⟩ ∧ g < W.heap.size ∧ ∀ j, j < k → W.cell? ⟨g, j, none⟩ = some (.int .u64 ((D j).1 : Int))) := by
  have hc := fun g' n c (e : v = .slice (some ⟨g', 0, none⟩) n c) => World.ownsRow.cells h (g := g') (by rw [e]; rfl)
  rcases h.2 with ⟨rfl, rfl⟩ | ⟨g, c, cur, rfl, _, h3, h4, _⟩
  · exact ⟨none, 0, rfl, Nat.le_refl _, .inl ⟨rfl, rfl, rfl⟩⟩
  · refine ⟨_, c, rfl, h4, .inr ⟨g, rfl, (Array.getElem?_eq_some_iff.1 h3).1, fun j hj => ?_⟩⟩
    have := hc g k c rfl j (.int .u64 ((D j).1 : Int)) (by simp [hj])
    rwa [add_zero] at this
/-- The words, one of them put in at place p. -/
def put1 (D : Nat → W64) (p : Nat) (x : W64) (i : Nat) : W64 := if i < p then D i else if i = p then x else D (i - 1)
theorem put1_perm (D Z : Nat → W64) (k p : Nat) (hp : p ≤ k) (h : ((List.range k).map D).Perm ((List.range k).map Z)) : ((List.range (k + 1)).map (put1 D p (Z k))).Perm ((List.range (k + 1)).map Z) := by
  have e : List.range (k + 1) = List.range' 0 p ++ ([p] ++ List.range' (p + 1) (k - p)) := by
    rw [List.range_eq_range', show k + 1 = p + (1 + (k - p)) by omega, ← List.range'_append_1]
    congr 1
    rw [← List.range'_append_1]
    simp
  have e0 : List.range k = List.range' 0 p ++ List.range' p (k - p) := by
    rw [List.range_eq_range', show k = p + (k - p) by omega, ← List.range'_append_1]
    simp
  have a1 : (List.range' 0 p).map (put1 D p (Z k)) = (List.range' 0 p).map D := by
    apply List.map_congr_left
    intro i hi
    have := List.mem_range'_1.1 hi
    unfold put1; rw [if_pos (by omega)]
  have a2 : (List.range' (p + 1) (k - p)).map (put1 D p (Z k)) = (List.range' p (k - p)).map D := by
    apply List.ext_getElem (by simp)
    intro i h1 h2
    simp [put1]
    rw [if_neg (by omega), if_neg (by omega)]
  have a3 : [p].map (put1 D p (Z k)) = [Z k] := by simp [put1]
  rw [e, List.map_append, List.map_append, a1, a2, a3]
  rw [e0, List.map_append] at h
  rw [← e, List.range_succ, List.map_append]
  refine (List.perm_append_comm_assoc _ _ _).trans ?_
  refine (List.Perm.append_left _ h).trans ?_
  rw [← List.map_append, ← e0, List.map_append]
  exact List.perm_append_comm
theorem put1_sorted (D : Nat → W64) (x : W64) (k p : Nat) (hp : p ≤ k) (hs : ∀ i j, i < j → j < k → lt (D j) (D i) = false) (h1 : ∀ i, p ≤ i → i < k → lt x (D i) = true) (h2 : 0 < p → lt x (D (p - 1)) = false) :
    ∀ i j, i < j → j < k + 1 → lt (put1 D p x j) (put1 D p x i) = false := by
  have asym : ∀ a b : W64, lt a b = true → lt b a = false := by
    intro a b h
    cases hq : lt b a with
    | false => rfl
    | true => have := swo_lt.trans _ _ _ h hq; rw [swo_lt.irrefl] at this; cases this
  have low : ∀ i, i < p → lt x (D i) = false := by
    intro i hi
    by_cases q : i = p - 1
    · subst q; exact h2 (by omega)
    · exact swo_lt.ntrans _ _ _ (h2 (by omega)) (hs i (p - 1) (by omega) (by omega))
  intro i j hij hj
  unfold put1
  by_cases a : j < p
  · rw [if_pos a, if_pos (by omega)]; exact hs i j hij (by omega)
  · rw [if_neg a]
    by_cases b : j = p
    · rw [if_pos b, if_pos (by omega)]; exact low i (by omega)
    · rw [if_neg b]
      by_cases c : i < p
      · rw [if_pos c]; exact hs i (j - 1) (by omega) (by omega)
      · rw [if_neg c]
        by_cases d : i = p
        · rw [if_pos d]; exact asym _ _ (h1 (j - 1) (by omega) (by omega))
        · rw [if_neg d]; exact hs (i - 1) (j - 1) (by omega) (by omega)
theorem sh_draws {w W : World} {n : Nat} (h : Hid (Below w.heap.size w W)) : Hid (Below w.heap.size w (W.drewN n)) := ⟨h.out.os, h.out.tape, h.out.output, h.out.size, h.out.block⟩
theorem undrew {n : Nat} {w w' : World} (h : Below n w.drew w') : Below n w w' := ⟨h.os, h.tape, h.output, h.size, h.block⟩
theorem calm1 {P : Program} {f : FuncId} {args : Array Value} {w : World} {n : Nat} {v : Value} (h : ∀ W : World, Calls P f args W fun e w' => e = .returned v ∧ W = w') :
    Calls P f args (w.drewN n) fun e w'' => e = .returned v ∧ ∃ m, w'' = w.drewN m := (h _).mono fun _ _ hh => ⟨hh.1, n, hh.2.symm⟩
theorem info32 : (Try.prog.info? 32).map (fun i => (i.zero, i.size, i.bytes)) = some (some (.int .u64 0), 1, 8) := by kernel_rfl
/-- What lies from place p on, in a row of its own. -/
theorem rest_run {B : Nat} {k : Nat} {D : Nat → W64} {W : World} {a : Option Addr} {c p : Nat} (hk : k ≤ 100) (hp : p ≤ k) (hB : B ≤ W.heap.size)
    (hcell : k = p ∨ ∃ g, a = some ⟨g, p, none⟩ ∧ g < W.heap.size ∧ ∀ j, p ≤ j → j < k → W.cell? ⟨g, j, none⟩ = some (.int .u64 ((D j).1 : Int))) :
    ∃ v' w', (Builtin.append_ #[37, 37] 37 #[.slice (some ⟨W.heap.size, 0, none⟩) 0 0, .slice a (k - p) c]).run Try.prog (W.alloc (.cells #[] 32)) = .ok v' w' ∧
      Us W.heap.size v' (k - p) (fun i => D (p + i)) w' ∧ Below W.heap.size W w' := by
  obtain ⟨i0, hi, hz0, hz1, hz2⟩ := info_parts info32
  have hg : (W.alloc (.cells #[] 32)).ownsRow W.heap.size 32 1 (.slice (some ⟨W.heap.size, 0, none⟩) 0 0) 0 [] :=
    ⟨rfl, .inr ⟨_, _, _, rfl, Nat.le_refl _, heap_alloc_new W _, Nat.le_refl _, Nat.zero_le _, rfl, rfl⟩⟩
  have hs : Src Try.prog 1 37 (.slice a (k - p) c) (k - p) ((List.range (k - p)).map fun i => .int .u64 ((D (p + i)).1 : Int)) (W.alloc (.cells #[] 32)) := by
    rcases hcell with rfl | ⟨g, rfl, hg, hc⟩
    · rw [Nat.sub_self]
      cases a with
      | none => exact Src.ofNil _ Try.underlying37 c
      | some b => exact Src.ofSlice _ Try.underlying37 b 0 c [] rfl (fun j u hj => by cases hj) (fun u hu => by cases hu)
    · refine Src.ofSlice _ Try.underlying37 ⟨g, p, none⟩ (k - p) c _ (by simp) (fun j u hj => ?_) (fun u hu => ?_)
      · have hjl : j < k - p := by
          have := (List.getElem?_eq_some_iff.1 hj).1
          simpa using this
        simp [hjl] at hj
        subst hj
        have e : (⟨g, p, none⟩ : Addr).add j = ⟨g, p + j, none⟩ := by unfold Addr.add; split <;> simp_all
        rw [e]
        have h1 := hc (p + j) (by omega) (by omega)
        rw [← h1]
        exact World.cell?_of_block (heap_alloc_old W _ hg)
      · simp at hu; obtain ⟨_, _, rfl⟩ := hu; rfl
  obtain ⟨v', w', r, o, g, _, _⟩ := App.run (P := Try.prog) W.heap.size 37 37 37 32 i0 (.int .u64 0) 1 8 Try.underlying37 hi hz0 hz1 hz2 rfl (by decide) _ 0 _ hg _ (k - p) _ hs (by unfold maxLen; omega) (by omega) (by simp)
  refine ⟨v', w', r, ?_, ((Below.refl _ W).alloc (Nat.le_refl _) _).grown g (by simp) (fun k e => by cases e; exact Nat.le_refl _)⟩
  rw [Nat.zero_add, List.nil_append] at o
  exact o
/-- The first p, and one more, in a row of its own. -/
theorem first_run {k : Nat} {D : Nat → W64} {W : World} {a : Option Addr} {p : Nat} (x : W64) (hk : k ≤ 100) (hp : p ≤ k)
    (hcell : (a = none ∧ p = 0) ∨ ∃ g, a = some ⟨g, 0, none⟩ ∧ g < W.heap.size ∧ ∀ j, j < p → W.cell? ⟨g, j, none⟩ = some (.int .u64 ((D j).1 : Int))) :
    ∃ v' w', (Builtin.append_ #[37, 37] 37 #[.slice a p p, .slice (some ⟨W.heap.size, 0, none⟩) 1 1]).run Try.prog (W.alloc (.cells #[.int .u64 (x.1 : Int)] 32)) = .ok v' w' ∧
      Us W.heap.size v' (p + 1) (fun i => if i < p then D i else x) w' ∧ Below W.heap.size W w' := by
  obtain ⟨i0, hi, hz0, hz1, hz2⟩ := info_parts info32
  have hs : Src Try.prog i0.size 37 (.slice (some ⟨W.heap.size, 0, none⟩) 1 1) 1 [.int .u64 (x.1 : Int)] (W.alloc (.cells #[.int .u64 (x.1 : Int)] 32)) := by
    rw [hz1]
    refine Src.ofSlice _ Try.underlying37 ⟨W.heap.size, 0, none⟩ 1 1 _ rfl (fun j u hj => ?_) (fun u hu => ?_)
    · have : j = 0 := by
        have := (List.getElem?_eq_some_iff.1 hj).1
        simpa using this
      subst this
      simp at hj
      subst hj
      rw [add_zero]
      exact cell_of_one (heap_alloc_new W _)
    · simp at hu; subst hu; rfl
  have hold : (Builtin.firstCells i0.size p (.slice a p p)).run Try.prog (W.alloc (.cells #[.int .u64 (x.1 : Int)] 32)).drew = .ok ((List.range p).map fun i => Value.int .u64 ((D i).1 : Int)).toArray (W.alloc (.cells #[.int .u64 (x.1 : Int)] 32)).drew := by
    rw [hz1]
    rcases hcell with ⟨rfl, rfl⟩ | ⟨g, rfl, hg, hc⟩
    · exact run_firstCells_none _ 1 0 0 0
    · refine run_firstCells_some _ 1 p ⟨g, 0, none⟩ p p _ (by simp) (fun j u hj => ?_)
      have hjl : j < p := by
        have := (List.getElem?_eq_some_iff.1 hj).1
        simpa using this
      simp [hjl] at hj
      subst hj
      rw [add_zero, ← hc j hjl]
      exact World.cell?_of_block (heap_alloc_old W _ hg)
  have hr := run_append_grow_src (W.alloc (.cells #[.int .u64 (x.1 : Int)] 32)) 37 37 37 32 i0 (.int .u64 0) Try.underlying37 hi hz0 a p p _ hold _ 1 _ hs (by omega) (by omega) (growslice_fits (by omega) (by rw [hz2]; omega))
  refine ⟨_, _, hr, ?_, ?_⟩
  · have hge := grownCap_ge (W.alloc (.cells #[.int .u64 (x.1 : Int)] 32)) (p + 1) p 32
    have hcm : grownCap (W.alloc (.cells #[.int .u64 (x.1 : Int)] 32)) (p + 1) p 32 ≤ maxLen := grownCap_le_maxLen _ _ _ _ (by unfold maxLen; omega)
    have hl : ((List.range p).map fun i => Value.int .u64 ((D i).1 : Int)) ++ [.int .u64 (x.1 : Int)] = (List.range (p + 1)).map fun i => Value.int .u64 ((if i < p then D i else x).1 : Int) := by
      rw [List.range_succ, List.map_append]
      congr 1
      · apply List.map_congr_left
        intro i hi
        have := List.mem_range.1 hi
        simp [this]
      · simp
    refine ⟨by simp, .inr ⟨_, _, _, rfl, by simp, heap_alloc_new _ _, hge, hcm, ?_, ?_⟩⟩
    · simp [size_zeroCells]
      have : (Value.int IntKind.u64 0).cells.size = 1 := rfl
      rw [this]
      omega
    · rw [← hl]
      simp only [Array.toList_append]
      rw [show (p + 1) * 1 = (((List.range p).map fun i => Value.int .u64 ((D i).1 : Int)) ++ [Value.int .u64 (x.1 : Int)]).length by simp]
      exact List.take_left
  · exact ((((Below.refl _ W).alloc (Nat.le_refl _) _).drew).alloc (by simp) _)
/-- What the reference's Sorted has, behind k words. -/
structure Part (B : Nat) (v : Value) (k : Nat) (Z D : Nat → W64) (W0 W : World) : Prop where
  us : Us B v k D W
  perm : ((List.range k).map D).Perm ((List.range k).map Z)
  srt : ∀ i j, i < j → j < k → lt (D j) (D i) = false
  bel : Below B W0 W
theorem Us.congr {B : Nat} {v : Value} {k : Nat} {D D' : Nat → W64} {W : World} (h : Us B v k D W) (e : ∀ i, i < k → D i = D' i) : Us B v k D' W := by
  unfold Us at *
  rw [show ((List.range k).map fun i => Value.int .u64 ((D' i).1 : Int)) = (List.range k).map fun i => Value.int .u64 ((D i).1 : Int) from List.map_congr_left fun i hi => by rw [e i (List.mem_range.1 hi)]]
  exact h
theorem Us.lower {B B' : Nat} {v : Value} {k : Nat} {D : Nat → W64} {W : World} (h : Us B v k D W) (hb : B' ≤ B) : Us B' v k D W := by
  refine ⟨h.1, ?_⟩
  rcases h.2 with h3 | ⟨g, cap, cur, e1, e2, e3⟩
  · exact .inl h3
  · exact .inr ⟨g, cap, cur, e1, Nat.le_trans hb e2, e3⟩
/-- One row behind another one. -/
theorem last_run {B1 B2 k1 k2 : Nat} {v1 v2 : Value} {D1 D2 : Nat → W64} {W : World} (h1 : Us B1 v1 k1 D1 W) (h2 : Us B2 v2 k2 D2 W) (hk : k1 + k2 ≤ 200) (hB : B1 ≤ W.heap.size) :
    ∃ v' w', (Builtin.append_ #[37, 37] 37 #[v1, v2]).run Try.prog W = .ok v' w' ∧ Us B1 v' (k1 + k2) (fun i => if i < k1 then D1 i else D2 (i - k1)) w' ∧ Below B1 W w' := by
  obtain ⟨i0, hi, hz0, hz1, hz2⟩ := info_parts info32
  have hs : Src Try.prog 1 37 v2 k2 ((List.range k2).map fun i => .int .u64 ((D2 i).1 : Int)) W := by
    obtain ⟨a, c, rfl, _, hf⟩ := h2.form
    rcases hf with ⟨rfl, rfl, rfl⟩ | ⟨g, rfl, hg, hc⟩
    · exact Src.ofNil _ Try.underlying37 0
    · refine Src.ofSlice _ Try.underlying37 ⟨g, 0, none⟩ k2 c _ (by simp) (fun j u hj => ?_) (fun u hu => ?_)
      · have hjl : j < k2 := by
          have := (List.getElem?_eq_some_iff.1 hj).1
          simpa using this
        simp [hjl] at hj
        subst hj
        rw [add_zero]
        exact hc j hjl
      · simp at hu; obtain ⟨_, _, rfl⟩ := hu; rfl
  obtain ⟨v', w', r, o, g, _, _⟩ := App.run (P := Try.prog) B1 37 37 37 32 i0 (.int .u64 0) 1 8 Try.underlying37 hi hz0 hz1 hz2 rfl (by decide) v1 k1 _ h1 _ k2 _ hs (by unfold maxLen; omega) (by omega) hB
  refine ⟨v', w', r, ?_, (Below.refl _ W).grown g hB (fun k e => (World.ownsRow.lt h1 k e).1)⟩
  have hl : ((List.range k1).map fun i => Value.int .u64 ((D1 i).1 : Int)) ++ ((List.range k2).map fun i => Value.int .u64 ((D2 i).1 : Int)) = (List.range (k1 + k2)).map fun i => Value.int .u64 ((if i < k1 then D1 i else D2 (i - k1)).1 : Int) := by
    rw [List.range_eq_range', List.range_eq_range', List.range_eq_range', ← List.range'_append_1, List.map_append]
    congr 1
    · apply List.map_congr_left
      intro i hi
      have := List.mem_range'_1.1 hi
      rw [if_pos (by omega)]
    · apply List.ext_getElem (by simp)
      intro i g1 g2
      simp
      rw [if_neg (by omega)]
  unfold Us
  rw [← hl]
  exact o
theorem oper_run {o : Oper} {a : Act} {w : World} {K : Act → World → Prop} {Q : Exit → Act → World → Prop} (s x : Operand) (t tx : TypeId)
    (ho : o.op = .call { callee := .builtin .append, args := #[s, x], argTypes := #[t, tx] }) {v vx v' : Value} {w' : World} (hs : a.eval s = v) (hx : a.eval x = vx)
    (hr : (Builtin.append_ #[t, tx] o.type #[v, vx]).run Try.prog w = .ok v' w') (h : K (a.put o.dst v') w') : Oper.wp Try.prog o a w K Q := by
  unfold Oper.wp execOp
  simp only [ho, resolve, invoke, builtin, Sem.run_bind, Sem.run_pure, Result.andThen_ok, List.map_toArray, List.map_cons, List.map_nil, hs, hx, hr]
  exact h
theorem put1_eq (D : Nat → W64) (p : Nat) (x : W64) (k i : Nat) : (if i < p + 1 then (if i < p then D i else x) else D (p + (i - (p + 1)))) = put1 D p x i := by
  unfold put1
  by_cases h : i < p
  · rw [if_pos (by omega), if_pos h, if_pos h]
  · by_cases h2 : i = p
    · rw [if_pos (by omega), if_neg h, if_neg h, if_pos h2]
    · rw [if_neg (by omega), if_neg h, if_neg h2, show p + (i - (p + 1)) = i - 1 by omega]
end Sb
end Go.Proofs.Ytnljfhoibkeloaa
