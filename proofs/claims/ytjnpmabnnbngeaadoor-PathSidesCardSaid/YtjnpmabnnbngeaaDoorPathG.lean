/- Contracts for package path: which texts are paths. -/
import Derived.Test.YtjnpmabnnbngeaaDoorPathS
namespace Go.Proofs.YtjnpmabnnbngeaaDoor
open Go.RowKit Go.Shelf
set_option linter.unusedVariables false
set_option linter.unusedSimpArgs false
attribute [local go_sem] Oper.semAt_some
namespace Pa
/-- Is it a path? -/
def goodB (l : List UInt8) : Bool := decide (l.length ≤ 100) && (parts l).all nameB

theorem keepsFrom_below {W W' : World} (h : Below W.heap.size W W') (B : Nat) : KeepsFrom B W W' := ⟨h.size, fun k o _ hk _ => (h.block k (Array.getElem?_eq_some_iff.1 hk).1).trans hk⟩
theorem keep_below {W W' : World} (h : Below W.heap.size W W') {a b c : Nat} (ha : a < W.heap.size) (hb : b < W.heap.size) (hc : c < W.heap.size) : Keep a b c W W' := ⟨h.block _ ha, h.block _ hb, h.block _ hc⟩
theorem ownFrom_size {β : Type} (B k : Nat) : OwnFrom B (fun (_ : β) W => k ≤ W.heap.size) := fun _ _ _ _ hs hg _ => Nat.le_trans hs hg.size

set_option maxRecDepth 100000 in
set_option maxHeartbeats 2000000 in
theorem good_in (s : ByteArray) (hs : s.size ≤ 100) (w : World) :
    CallsIn Fence.wide 4 Tryd.prog 21 #[.string s] w fun e w' => e = .returned (.bool ((parts (tl s)).all nameB)) ∧ Below w.heap.size w w' := by
  have h1 : decide ((100 : Int) < (s.size : Int)) = false := decide_eq_false (by omega)
  refine callsIn_of_wp_marks Tryd.func21 rfl trivial ?_ rfl
  simp only [Tryd.ntmps21, List.size_toArray, List.length_cons, List.length_nil, Nat.reduceAdd, Nat.reduceSub, Array.replicate_succ, Array.replicate_zero, List.push_toArray, List.append_toArray, List.nil_append, List.cons_append]
  gi_wp2_with fail
  refine ⟨trivial, ?_⟩
  refine (callsIn_wide.2 (splitSeq_any s _)).mono ?_
  rintro e w' ⟨rfl, rfl⟩
  gi_wp2_with fail
  have hsz : ((((w.alloc (.cells #[.bool false] 4)).alloc (.cells #[.string s] 9)).alloc (.cells #[.string ⟨#[47]⟩] 9)).alloc (.cells #[.int .i64 0] 3)).heap.size = w.heap.size + 4 := by simp
  have bR : Boxed ((((w.alloc (.cells #[.bool false] 4)).alloc (.cells #[.string s] 9)).alloc (.cells #[.string ⟨#[47]⟩] 9)).alloc (.cells #[.int .i64 0] 3)) w.heap.size 4 (.bool false) :=
    (((Boxed.new w 4 (.bool false)).alloc _).alloc _).alloc _
  have hcl : Cells (w.heap.size + 1 + 1) (w.heap.size + 1) (w.heap.size + 1 + 2) s ((((w.alloc (.cells #[.bool false] 4)).alloc (.cells #[.string s] 9)).alloc (.cells #[.string ⟨#[47]⟩] 9)).alloc (.cells #[.int .i64 0] 3)) := by
    have b1 := Boxed.new (w.alloc (.cells #[.bool false] 4)) 9 (.string s)
    have b2 := Boxed.new ((w.alloc (.cells #[.bool false] 4)).alloc (.cells #[.string s] 9)) 9 (.string ⟨#[47]⟩)
    have b3 := Boxed.new (((w.alloc (.cells #[.bool false] 4)).alloc (.cells #[.string s] 9)).alloc (.cells #[.string ⟨#[47]⟩] 9)) 3 (.int .i64 0)
    simp only [World.size_alloc] at b1 b2 b3
    exact ⟨b2.alloc _, (b1.alloc _).alloc _, b3⟩
  have hB0 : Below w.heap.size w ((((w.alloc (.cells #[.bool false] 4)).alloc (.cells #[.string s] 9)).alloc (.cells #[.string ⟨#[47]⟩] 9)).alloc (.cells #[.int .i64 0] 3)) :=
    ((((Below.refl _ w).alloc (Nat.le_refl _) _).alloc (by simp) _).alloc (by simp; omega) _).alloc (by simp; omega) _
  generalize ((((w.alloc (.cells #[.bool false] 4)).alloc (.cells #[.string s] 9)).alloc (.cells #[.string ⟨#[47]⟩] 9)).alloc (.cells #[.int .i64 0] 3)) = W0 at *
  have HS := Lib.hid hsz
  refine Rg.range_own rfl (by omega) (gf := 137) (lb := #[.pointer (some ⟨w.heap.size + 1 + 1, 0, none⟩), .pointer (some ⟨w.heap.size + 1, 0, none⟩), .pointer (some ⟨w.heap.size + 1 + 2, 0, none⟩)]) rfl trivial
    (enters_of Tryd.func137 (by kernel_rfl) rfl)
    (split_iter 3 (w.heap.size + 1 + 1) (w.heap.size + 1) (w.heap.size + 1 + 2) (by omega) s W0 (by omega) (by omega) (by omega) (by omega) (by omega) hcl (by omega))
    (by rintro b rfl; omega)
    (fun a b => ⟨b.1.trans a.1, b.2.1.trans a.2.1, b.2.2.trans a.2.2⟩)
    (fun W l o o' hl _ _ _ => ⟨World.putObj_heap_other (by omega), World.putObj_heap_other (by omega), World.putObj_heap_other (by omega)⟩)
    (Below.refl _ _) (fun _ => rfl)
    (fun pre W => ((Boxed W w.heap.size 4 (.bool false) ∧ (pre.map tl).all nameB = true) ∧ Below w.heap.size w W) ∧ W0.heap.size ≤ W.heap.size)
    (fun c pre W => (Boxed W w.heap.size 4 (.bool false) ∧ (c = .ret ∧ (pre.map tl).all nameB = false)) ∧ Below w.heap.size w W)
    (OwnFrom.and (OwnFrom.and (OwnFrom.and (Own.from (boxed_own _ _ _) _) (ownFrom_pure _ _)) (ownFrom_below (Nat.le_refl _) (by omega))) (ownFrom_size _ _))
    (fun c => OwnFrom.and (OwnFrom.and (Own.from (boxed_own _ _ _) _) (ownFrom_pure _ _)) (ownFrom_below (Nat.le_refl _) (by omega)))
    ?bl ⟨⟨⟨bR, rfl⟩, hB0⟩, Nat.le_refl _⟩
    (fun x => { tmps := #[.string s, undef, .pointer (some ⟨w.heap.size, 0, none⟩), .string x, .string s, .int .i64 s.size, .bool false, .string s,
      .func (.func 137) #[] #[.pointer (some ⟨w.heap.size + 1 + 1, 0, none⟩), .pointer (some ⟨w.heap.size + 1, 0, none⟩), .pointer (some ⟨w.heap.size + 1 + 2, 0, none⟩)], .string x, undef, undef, undef], defers := [] })
    ?assign ?body ?done ?stop
  case bl =>
    rintro pre W b v rfl ⟨⟨⟨hb, ha⟩, hB⟩, hz⟩
    exact ⟨⟨⟨(Below.heap_setCell _ _ _ _ (by show w.heap.size ≠ w.heap.size + 1; omega)).trans hb, ha⟩, hB.setCell (by show w.heap.size ≤ w.heap.size + 1; omega) _⟩, by simpa using hz⟩
  case assign =>
    intro l x W K hK
    gi_wp2
    exact hK
  case body =>
    rintro l pre x W ⟨⟨⟨hb, ha⟩, hB⟩, hz⟩ _
    cases hn : nameB (tl x) with
    | true =>
      have cn := name_any x W
      rw [hn] at cn
      have HN := Lib.hid hn
      have HB := Lib.hid hb
      have HA := Lib.hid ha
      clear hn hb ha
      gi_wp2_with fail
      refine ⟨trivial, ?_⟩
      refine (CallsIn.inRound l (callsIn_wide.2 cn)).mono ?_
      rintro e W3 ⟨rfl, hW3⟩
      gi_wp2_with fail
      refine ⟨keepsFrom_below hW3 _, keep_below hW3 (by omega) (by omega) (by omega), ⟨⟨(hW3.block _ (by omega)).trans HB.out, ?_⟩, hB.trans (hW3.mono hB.size)⟩, Nat.le_trans hz hW3.size⟩
      rw [List.map_append, List.all_append, HA.out]
      simp [HN.out]
    | false =>
      have cn := name_any x W
      rw [hn] at cn
      have HN := Lib.hid hn
      have HB := Lib.hid hb
      clear hn hb ha
      gi_wp2_with fail
      refine ⟨trivial, ?_⟩
      refine (CallsIn.inRound l (callsIn_wide.2 cn)).mono ?_
      rintro e W3 ⟨rfl, hW3⟩
      have hb3 : Boxed W3 w.heap.size 4 (.bool false) := (hW3.block _ (by omega)).trans HB.out
      have cR := hb3.cell
      have fR := hb3.frozen
      have HB3 := Lib.hid hb3
      clear hb3
      gi_wp2_with fail
      refine ⟨(keepsFrom_below hW3 _).trans ((KeepsOthers.setCell _ _ _).from _), ⟨HB3.out.set _, rfl, ?_⟩, (hB.trans (hW3.mono hB.size)).setCell (p := ⟨w.heap.size, 0, none⟩) (Nat.le_refl _) _⟩
      rw [List.map_append, List.all_append]
      simp [HN.out]
  case done =>
    rintro D xs W hD hS ⟨⟨⟨hb, ha⟩, hB⟩, hz⟩ hK
    have cR := hb.cell
    have fR := hb.frozen
    have HB := Lib.hid hb
    have HA := Lib.hid ha
    have HSS := Lib.hid hS
    clear hb ha hS
    gi_wp2
    have hK' := (KeepsOthers.setCell W ⟨w.heap.size, 0, none⟩ (.bool true)).same D _ hK rfl
    refine ⟨by simp, .inl ⟨_, _, rfl, run_takeDeferred hK', ?_⟩⟩
    have hc5 := cell_kept (HB.out.set (.bool true)).cell (grownBy_putObj' _ D (.deferred none)) (fun r e => by cases e; exact ⟨_, hK', rfl⟩)
    refine ⟨.bool true, ?_, by rw [← HSS.out, HA.out], (hB.setCell (p := ⟨w.heap.size, 0, none⟩) (Nat.le_refl _) _).trans (belowK_b (w := w) (Nat.le_refl _) _ D _ _ (by omega) hK' rfl rfl)⟩
    simp [results, Tryd.f21, go_sem, hc5]
  case stop =>
    rintro D c pre W hD hS ⟨⟨hb, rfl, ha⟩, hB⟩ hK
    have HB := Lib.hid hb
    have HA := Lib.hid ha
    have HSS := Lib.hid hS
    clear hb ha hS
    gi_wp2
    refine ⟨by simp, .inl ⟨_, _, rfl, run_takeDeferred hK, ?_⟩⟩
    have hc5 := cell_kept HB.out.cell (grownBy_putObj' _ D (.deferred none)) (fun r e => by cases e; exact ⟨_, hK, rfl⟩)
    have hfin : (parts (tl s)).all nameB = false := by
      obtain ⟨r, hr⟩ := HSS.out
      rw [← hr, List.all_append, HA.out]; rfl
    refine ⟨.bool false, ?_, by rw [hfin], hB.trans (belowK_b (w := w) (Nat.le_refl _) W D _ _ (by omega) hK rfl rfl)⟩
    simp [results, Tryd.f21, go_sem, hc5]

set_option maxHeartbeats 400000 in
theorem good_any (s : ByteArray) (w : World) :
    Calls Tryd.prog 21 #[.string s] w fun e w' => e = .returned (.bool (goodB (tl s))) ∧ Below w.heap.size w w' := by
  by_cases h : s.size ≤ 100
  · have e : goodB (tl s) = (parts (tl s)).all nameB := by
      unfold goodB; rw [decide_eq_true (by simpa using h)]; rfl
    rw [e]
    exact (callsIn_wide (n := 4)).1 (good_in s h w)
  · have e : goodB (tl s) = false := by
      unfold goodB; rw [decide_eq_false (by simpa using h)]; rfl
    rw [e]
    have h1 : decide ((100 : Int) < (s.size : Int)) = true := decide_eq_true (by omega)
    go_enter Tryd.func21, Tryd.ntmps21
    go_wp2_with fail
    refine bodyPost_ret (v := .bool false) (by simp [results, Tryd.f21, go_sem]) rfl ⟨rfl, ?_⟩
    exact (Below.refl _ _).alloc (Nat.le_refl _) _
end Pa
end Go.Proofs.YtjnpmabnnbngeaaDoor
