/- Slices of bytes: how they read, what an append of them gives, what they are as strings. -/
import Derived.Test.YtnljfhoibkeloaaRows
import Derived.Test.YtnljfhoibkeloaaApp
import Derived.Laws.BytesArg
import Derived.Laws.MakeOwn
import Derived.Lib.Hide
import Derived.WalkKit
import Derived.Below
import Derived.OpenShut
namespace Go.Proofs.Ytnljfhoibkeloaa
open Go.RowKit
set_option linter.unusedVariables false
set_option linter.unusedSimpArgs false
/-- A slice of numbers of kind k, as it is read from an argument. -/
def IsRow (k : IntKind) (W : World) (a : Option Addr) (len cap : Nat) (zs : List Int) : Prop :=
  (a = none ∧ len = 0 ∧ cap = 0 ∧ zs = []) ∨
  ∃ x, a = some x ∧ len ≤ cap ∧ cap ≤ maxLen ∧ zs.length = cap ∧ (∀ i, i < zs.length → W.cell? (x.add i) = some (.int k (zs.getD i 0))) ∧ (∀ n ∈ zs, (Lit.int k n).wf = true)
namespace Bt
theorem add_add (p : Addr) (i j : Nat) : (p.add i).add j = p.add (i + j) := by
  unfold Addr.add; split <;> split <;> split <;> simp_all <;> omega
theorem add_zero (p : Addr) : p.add 0 = p := by unfold Addr.add; split <;> simp_all
theorem add_block (p : Addr) (i : Nat) : (p.add i).block = p.block := by unfold Addr.add; split <;> rfl

/-- The bytes of a slice: number i is Z i. -/
structure Bs (W : World) (a : Option Addr) (len cap : Nat) (Z : Nat → Int) : Prop where
  here : (a = none ∧ len = 0 ∧ cap = 0) ∨ ∃ x, a = some x ∧ len ≤ cap ∧ cap ≤ maxLen
  old : ∀ x, a = some x → 0 < len → x.block < W.heap.size
  cell : ∀ x, a = some x → ∀ i, i < len → W.cell? (x.add i) = some (.int .u8 (Z i))
  byte : ∀ i, i < len → 0 ≤ Z i ∧ Z i < 256

theorem cell_lt {W : World} {p : Addr} {v : Value} (h : W.cell? p = some v) : p.block < W.heap.size := by
  unfold World.cell? at h
  cases hb : W.heap[p.block]? with
  | none => simp [hb] at h
  | some o => exact (Array.getElem?_eq_some_iff.1 hb).1

theorem Bs.of_row {W : World} {a : Option Addr} {len cap : Nat} {zs : List Int} (h : IsRow .u8 W a len cap zs) : Bs W a len cap (fun i => zs.getD i 0) := by
  rcases h with ⟨rfl, rfl, rfl, rfl⟩ | ⟨x, rfl, h1, h2, h3, h4, h5⟩
  · exact ⟨.inl ⟨rfl, rfl, rfl⟩, (fun x h => by cases h), (fun x h => by cases h), fun i h => (by omega)⟩
  · refine ⟨.inr ⟨x, rfl, h1, h2⟩, fun y hy hl => ?_, fun y hy i hi => ?_, fun i hi => ?_⟩
    · cases hy
      have := cell_lt (h4 0 (by omega))
      rwa [add_block] at this
    · cases hy
      exact h4 i (by omega)
    · have hm : zs.getD i 0 ∈ zs := by
        rw [List.getD_eq_getElem?_getD, List.getElem?_eq_getElem (by omega)]
        exact List.getElem_mem _
      have := bounds_u8 (h5 _ hm)
      omega

theorem Bs.below {W W' : World} {a : Option Addr} {len cap : Nat} {Z : Nat → Int} (h : Bs W a len cap Z) {B : Nat} (hb : Below B W W') (hB : W.heap.size ≤ B) : Bs W' a len cap Z := by
  refine ⟨h.here, fun x hx hl => Nat.lt_of_lt_of_le (h.old x hx hl) hb.size, fun x hx i hi => ?_, h.byte⟩
  rw [hb.cell (p := x.add i) (by rw [add_block]; exact Nat.lt_of_lt_of_le (h.old x hx (by omega)) hB)]
  exact h.cell x hx i hi

/-- As a list. -/
def lst (Z : Nat → Int) (n : Nat) : List Int := (List.range n).map Z
theorem lst_length (Z : Nat → Int) (n : Nat) : (lst Z n).length = n := by simp [lst]
theorem lst_getD (Z : Nat → Int) (n i : Nat) (h : i < n) : (lst Z n).getD i 0 = Z i := by simp [lst, List.getD, h]
theorem lst_congr {Z Z' : Nat → Int} {n : Nat} (h : ∀ i, i < n → Z i = Z' i) : lst Z n = lst Z' n := by
  unfold lst
  exact List.map_congr_left fun i hi => h i (List.mem_range.1 hi)
theorem lst_append (Z Z' : Nat → Int) (n m : Nat) : lst Z n ++ lst Z' m = lst (fun i => if i < n then Z i else Z' (i - n)) (n + m) := by
  unfold lst
  rw [List.range_add, List.map_append, List.map_map]
  congr 1
  · exact List.map_congr_left fun i hi => by rw [if_pos (List.mem_range.1 hi)]
  · exact List.map_congr_left fun i hi => by
      show _ = (fun i => if i < n then Z i else Z' (i - n)) (n + i)
      simp only []
      rw [if_neg (by omega), Nat.add_sub_cancel_left]
theorem lst_inj {Z Z' : Nat → Int} {n m : Nat} : lst Z n = lst Z' m ↔ n = m ∧ ∀ i, i < n → Z i = Z' i := by
  constructor
  · intro h
    have hl : n = m := by have := congrArg List.length h; simpa [lst] using this
    subst hl
    refine ⟨rfl, fun i hi => ?_⟩
    have := congrArg (fun l => l.getD i 0) h
    simp only [lst_getD _ _ _ hi] at this
    exact this
  · rintro ⟨rfl, h⟩
    exact lst_congr h

theorem Bs.src {W : World} {a : Option Addr} {len cap : Nat} {Z : Nat → Int} (h : Bs W a len cap Z) : Src Try.prog 1 22 (.slice a len cap) len ((lst Z len).map (Value.int .u8)) W := by
  rcases h.here with ⟨rfl, rfl, rfl⟩ | ⟨x, rfl, h1, h2⟩
  · exact Src.ofNil W Try.underlying22 0
  · refine Src.ofSlice W Try.underlying22 x len cap _ (by simp [lst]) (fun j u hj => ?_) (fun u hu => ?_)
    · have hl : j < len := by
        have := (List.getElem?_eq_some_iff.1 hj).1
        simpa [lst] using this
      rw [h.cell x rfl j hl]
      simp [lst, hl] at hj
      rw [hj]
    · obtain ⟨z, _, rfl⟩ := List.mem_map.1 hu
      rfl

theorem info5 : (Try.prog.info? 5).map (fun i => (i.zero, i.size, i.bytes)) = some (some (.int .u8 0), 1, 1) := by kernel_rfl

/-- A row of bytes of the call's own reads as a slice of bytes. -/
theorem Bs.own {W : World} {base g n cap : Nat} {Z : Nat → Int} (h : W.ownsRow base 5 1 (.slice (some ⟨g, 0, none⟩) n cap) n ((lst Z n).map (Value.int .u8))) (hz : ∀ i, i < n → 0 ≤ Z i ∧ Z i < 256) : Bs W (some ⟨g, 0, none⟩) n cap Z := by
  have hc := h.cells (g := g) rfl
  have hlt := h.lt g rfl
  rcases h.2 with ⟨e, _⟩ | ⟨g', cap', cur, e, _, _, h3, h4, _⟩
  · cases e
  · cases e
    refine ⟨.inr ⟨_, rfl, h3, h4⟩, fun x hx _ => by cases hx; exact hlt.2, fun x hx i hi => ?_, hz⟩
    cases hx
    exact hc i _ (by simp [lst, hi])

/-- The bytes as a string. -/
theorem Bs.conv {W : World} {a : Option Addr} {len cap : Nat} {Z : Nat → Int} (h : Bs W a len cap Z) : (convert 22 9 (.slice a len cap)).run Try.prog W = .ok (.string (strOfNums (lst Z len))) W := by
  have hl : ∀ x, a = some x → (loadCells x len).run Try.prog W = .ok ((lst Z len).map (Value.int .u8)).toArray W := by
    rintro x rfl
    have := run_loadCells_list (P := Try.prog) W x ((lst Z len).map (Value.int .u8)) (fun j v hj => by
      have hjl : j < len := by
        have := (List.getElem?_eq_some_iff.1 hj).1
        simpa [lst] using this
      rw [h.cell x rfl j hjl]
      simp [lst, hjl] at hj
      rw [hj])
    simpa [lst] using this
  cases a with
  | none =>
    rcases h.here with ⟨_, rfl, rfl⟩ | ⟨x, hx, _⟩
    · exact run_convert_bytes_nil W 22 5 Try.underlying22 Try.underlying5 0 0 9 Try.underlying9
    · cases hx
  | some x =>
    rw [run_convert_bytes_string W 22 9 5 _ len cap Try.underlying22 Try.underlying5 Try.underlying9, run_bytesToString W x len cap _ (hl x rfl), foldl_push_bytes]
    simp [strOfNums, ByteArray.empty, ByteArray.emptyWithCapacity]
    rfl

/-- 'append([]byte{}, a...)', whatever a is: a row of the call's own. -/
theorem one {W : World} {a : Option Addr} {la ca : Nat} {Z : Nat → Int} (h : Bs W a la ca Z) (hl : la ≤ 1000000000) (g0 c0 : Nat) (hg : W.ownsRow g0 5 1 (.slice (some ⟨g0, 0, none⟩) 0 c0) 0 []) :
    ∃ g c w', (Builtin.append_ #[22, 22] 22 #[.slice (some ⟨g0, 0, none⟩) 0 c0, .slice a la ca]).run Try.prog W = .ok (.slice (some ⟨g, 0, none⟩) la c) w' ∧
      w'.ownsRow g0 5 1 (.slice (some ⟨g, 0, none⟩) la c) la ((lst Z la).map (Value.int .u8)) ∧ W.grownBy w' (some g0) := by
  obtain ⟨i0, hi, hz0, hz1, hz2⟩ := info_parts info5
  obtain ⟨v', w', hr, hown, hgr, hn, _⟩ := App.run (P := Try.prog) (w := W) g0 22 22 22 5 i0 (.int .u8 0) 1 1 Try.underlying22 hi hz0 hz1 hz2 rfl (by decide) _ 0 [] hg (.slice a la ca) la _ h.src (by unfold maxLen; omega) (by omega)
    (Nat.le_of_lt (hg.lt g0 rfl).2)
  rw [List.nil_append, Nat.zero_add] at hown
  rcases hown.2 with ⟨e, _⟩ | ⟨g, c, cur, e, _⟩
  · exact absurd (hn.1 e).1 (by simp)
  · subst e
    exact ⟨g, c, w', hr, hown, hgr⟩
/-- 'make([]byte, n)'. -/
theorem make_zeros (n : Nat) (hn : n ≤ 1000000000) : ∃ zs : Array Value, (∀ (w : World), (Instr.makeSlice 22 (.int .i64 (n : Int)) (.int .i64 (n : Int))).run Try.prog w = .ok (.slice (some ⟨w.heap.size, 0, none⟩) n n) (w.alloc (.cells zs 5))) ∧
    ∀ (w : World), Bs (w.alloc (.cells zs 5)) (some ⟨w.heap.size, 0, none⟩) n n (fun _ => 0) := by
  obtain ⟨i0, hi, hz0, hz1, hz2⟩ := info_parts info5
  refine ⟨madeCells (Value.int .u8 0).cells n, fun w => ?_, fun w => ⟨.inr ⟨_, rfl, Nat.le_refl _, by unfold maxLen; omega⟩, fun x hx _ => by cases hx; simp, fun x hx i hi' => ?_, fun i _ => by omega⟩⟩
  · have hr := run_make (P := Try.prog) w 22 5 i0 (.int .u8 0) Try.underlying22 hi hz0 .i64 .i64 (n : Int) (n : Int) (by omega) (Int.le_refl _) (by rw [hz2]; omega) (by omega)
    rw [hz1, Nat.mul_one] at hr
    simpa using hr
  · cases hx
    have hcell : ∀ k : Nat, (w.alloc (.cells (madeCells (Value.int .u8 0).cells n) 5)).cell? ⟨w.heap.size, k, none⟩ = (madeCells (Value.int .u8 0).cells n)[k]? := by
      intro k
      have e : (w.alloc (.cells (madeCells (Value.int .u8 0).cells n) 5)).heap[w.heap.size]? = some (.cells (madeCells (Value.int .u8 0).cells n) 5) := heap_alloc_new w _
      simp only [World.cell?, e]
      rfl
    rw [show (⟨w.heap.size, 0, none⟩ : Addr).add i = ⟨w.heap.size, i, none⟩ by unfold Addr.add; split <;> simp_all, hcell]
    simp [madeCells, hi', Value.cells, Nat.mod_one]
/-- 'append(append([]byte{}, a...), b...)', whatever a and b are. -/
theorem two {W : World} {a b : Option Addr} {la ca lb cb : Nat} {Za Zb : Nat → Int} (ha : Bs W a la ca Za) (hb : Bs W b lb cb Zb) (hla : la ≤ 1000000000) (hlb : lb ≤ 1000000000) :
    ∃ g1 c1 w1 g2 c2 w2, (Builtin.append_ #[22, 22] 22 #[.slice (some ⟨W.heap.size, 0, none⟩) 0 0, .slice a la ca]).run Try.prog (W.alloc (.cells #[] 5)) = .ok (.slice (some ⟨g1, 0, none⟩) la c1) w1 ∧
      (Builtin.append_ #[22, 22] 22 #[.slice (some ⟨g1, 0, none⟩) la c1, .slice b lb cb]).run Try.prog w1 = .ok (.slice (some ⟨g2, 0, none⟩) (la + lb) c2) w2 ∧
      Bs w2 (some ⟨g2, 0, none⟩) (la + lb) c2 (fun i => if i < la then Za i else Zb (i - la)) ∧ Below W.heap.size W w2 := by
  have hB0 : Below W.heap.size W (W.alloc (.cells #[] 5)) := (Below.refl _ W).alloc (Nat.le_refl _) _
  have hg : (W.alloc (.cells #[] 5)).ownsRow W.heap.size 5 1 (.slice (some ⟨W.heap.size, 0, none⟩) 0 0) 0 [] :=
    ⟨rfl, .inr ⟨_, _, _, rfl, Nat.le_refl _, heap_alloc_new W _, Nat.le_refl _, Nat.zero_le _, rfl, rfl⟩⟩
  obtain ⟨g1, c1, w1, r1, o1, h1⟩ := one (ha.below hB0 (Nat.le_refl _)) hla _ _ hg
  have hB1 : Below W.heap.size W w1 := hB0.grown h1 (by simp) (fun k e => by cases e; exact Nat.le_refl _)
  obtain ⟨i0, hi, hz0, hz1, hz2⟩ := info_parts info5
  obtain ⟨v', w2, r2, o2, h2, hn, _⟩ := App.run (P := Try.prog) (w := w1) W.heap.size 22 22 22 5 i0 (.int .u8 0) 1 1 Try.underlying22 hi hz0 hz1 hz2 rfl (by decide) _ la _ o1 (.slice b lb cb) lb _ (hb.below hB1 (Nat.le_refl _)).src (by unfold maxLen; omega) (by omega)
    hB1.size
  rcases o2.2 with ⟨e, _⟩ | ⟨g2, c2, cur, e, _⟩
  · exact absurd (hn.1 e).1 (by simp)
  · subst e
    refine ⟨g1, c1, w1, g2, c2, w2, r1, r2, ?_, hB1.grown h2 hB1.size (fun k e => (o1.lt k e).1)⟩
    rw [← List.map_append, lst_append] at o2
    refine Bs.own o2 fun i hi => ?_
    split
    · exact ha.byte i ‹_›
    · exact hb.byte _ (by omega)
theorem own_add (g j : Nat) : (⟨g, 0, none⟩ : Addr).add j = ⟨g, j, none⟩ := by unfold Addr.add; split <;> simp_all
end Bt
end Go.Proofs.Ytnljfhoibkeloaa
