/- The contract for record.Cut: the pieces of 256 bytes, each in a row of its own. -/
import Derived.Test.YtnljfhoibkeloaaCutI
import Derived.Test.YtnljfhoibkeloaaShelf
import Derived.Test.YtnljfhoibkeloaaIn
import Derived.Test.YtnljfhoibkeloaaBytes
import Derived.OwnWalkIn
import Derived.RangeFuncBox
namespace Go.Proofs.Ytnljfhoibkeloaa
open Go.RowKit
set_option linter.unusedVariables false
set_option linter.unusedSimpArgs false
attribute [local go_sem] Oper.semAt_some
namespace Rc
/-- The bytes of piece number k. -/
def bytesAt (Z : Nat → Int) (len k : Nat) : List Int := (List.range (min 256 (len - 256 * k))).map fun i => Z (256 * k + i)
/-- The pieces lie in rows of their own. -/
def Pieces (B : Nat) (Z : Nat → Int) (len : Nat) (pre : List Nat) (vs : List Value) (W : World) : Prop :=
  vs.length = pre.length ∧ ∀ (j k : Nat), pre[j]? = some k → ∃ v : Value, vs[j]? = some v ∧ W.ownsRow B 5 1 v (min 256 (len - 256 * k)) ((bytesAt Z len k).map (Value.int .u8))
theorem Pieces.kept {B : Nat} {Z : Nat → Int} {len : Nat} {pre : List Nat} {vs : List Value} {W W' : World} (h : Pieces B Z len pre vs W)
    (hk : ∀ (g : Nat) (cur : Array Value), W.heap[g]? = some (Obj.cells cur 5 (0, 0)) → W'.heap[g]? = W.heap[g]?) : Pieces B Z len pre vs W' := by
  refine ⟨h.1, fun j k hlt => ?_⟩
  obtain ⟨v, h1, h2, h3⟩ := h.2 j k hlt
  refine ⟨v, h1, h2, ?_⟩
  rcases h3 with h3 | ⟨g, cap, cur, e1, e2, e3, e4⟩
  · exact .inl h3
  · exact .inr ⟨g, cap, cur, e1, e2, (hk g cur e3).trans e3, e4⟩
theorem Pieces.below {B : Nat} {Z : Nat → Int} {len : Nat} {pre : List Nat} {vs : List Value} {W W' : World} (h : Pieces B Z len pre vs W) (hb : Below W.heap.size W W') : Pieces B Z len pre vs W' :=
  h.kept fun g cur hg => hb.block g (Array.getElem?_eq_some_iff.1 hg).1
theorem Pieces.snoc {B : Nat} {Z : Nat → Int} {len k : Nat} {pre : List Nat} {vs : List Value} {W : World} (h : Pieces B Z len pre vs W) {v : Value}
    (hv : W.ownsRow B 5 1 v (min 256 (len - 256 * k)) ((bytesAt Z len k).map (Value.int .u8))) : Pieces B Z len (pre ++ [k]) (vs ++ [v]) W := by
  refine ⟨by simp [h.1], fun j x hj => ?_⟩
  have hjl := (List.getElem?_eq_some_iff.1 hj).1
  simp only [List.length_append, List.length_cons, List.length_nil] at hjl
  by_cases hlt : j < pre.length
  · rw [List.getElem?_append_left hlt] at hj
    obtain ⟨u, h1, h2⟩ := h.2 j x hj
    exact ⟨u, by rw [List.getElem?_append_left (by rw [h.1]; exact hlt)]; exact h1, h2⟩
  · obtain rfl : j = pre.length := by omega
    rw [List.getElem?_append_right (Nat.le_refl _)] at hj
    simp at hj
    subst hj
    exact ⟨v, by rw [List.getElem?_append_right (by rw [h.1]; exact Nat.le_refl _), h.1]; simp, hv⟩

theorem slice_of {W : World} {base e size : Nat} {v : Value} {n : Nat} {xs : List Value} (h : W.ownsRow base e size v n xs) (hn : v ≠ .slice none 0 0) : ∃ g c, v = .slice (some ⟨g, 0, none⟩) n c := by
  rcases h.2 with ⟨h3, _⟩ | ⟨g, cap, cur, e1, _⟩
  · exact absurd h3 hn
  · exact ⟨g, cap, e1⟩
theorem info22 : (Try.prog.info? 22).map (fun i => (i.zero, i.size, i.bytes)) = some (some (.slice none 0 0), 1, 24) := by kernel_rfl

set_option maxRecDepth 100000 in
set_option maxHeartbeats 2000000 in
theorem chunk_any (p : Option Addr) (len cap : Nat) (w : World) :
    Calls Try.prog 23 #[.slice p len cap, .int .i64 256] w fun e w' =>
      e = .returned (.func (.func 34) #[] #[.pointer (some ⟨w.heap.size, 0, none⟩), .pointer (some ⟨w.heap.size + 1, 0, none⟩)]) ∧
      w' = (w.alloc (.cells #[.slice p len cap] 22)).alloc (.cells #[.int .i64 256] 3) := by
  go_enter Try.func23, Try.ntmps23
  go_wp2_with fail
  go_ret
  exact ⟨rfl, rfl⟩

theorem cells_stay {W W' : World} {row : Option Nat} {B k : Nat} {cur : Array Value} {t : TypeId} {fz : Nat × Nat} (hg : W.grownBy W' row)
    (hr : ∀ r, row = some r → B ≤ r ∧ ∃ o : Obj, W.heap[r]? = some o ∧ o.isCells = false) (h : W.heap[k]? = some (Obj.cells cur t fz)) : W'.heap[k]? = W.heap[k]? :=
  hg.block k (Array.getElem?_eq_some_iff.1 h).1 fun e => by
    obtain ⟨_, o, ho, hc⟩ := hr k e.symm
    rw [h] at ho
    cases ho
    cases hc
theorem row_stays {W W' : World} {base e size : Nat} {v : Value} {n : Nat} {xs : List Value} (h : W.ownsRow base e size v n xs)
    (hk : ∀ (g : Nat) (cur : Array Value), W.heap[g]? = some (Obj.cells cur e (0, 0)) → W'.heap[g]? = W.heap[g]?) : W'.ownsRow base e size v n xs := by
  refine ⟨h.1, ?_⟩
  rcases h.2 with h3 | ⟨g, cap, cur, e1, e2, e3, e4⟩
  · exact .inl h3
  · exact .inr ⟨g, cap, cur, e1, e2, (hk g cur e3).trans e3, e4⟩
theorem row_mono {w : World} {b b' e size : Nat} {v : Value} {n : Nat} {xs : List Value} (h : w.ownsRow b e size v n xs) (hb : b' ≤ b) : w.ownsRow b' e size v n xs := by
  refine ⟨h.1, ?_⟩
  rcases h.2 with h3 | ⟨g, cap, cur, e1, e2, e3⟩
  · exact .inl h3
  · exact .inr ⟨g, cap, cur, e1, Nat.le_trans hb e2, e3⟩
theorem below_of_drew {B : Nat} {W w : World} (h : Below B W.drew w) : Below B W w := ⟨h.os, h.tape, h.output, h.size, h.block⟩
/-- The loop's own: the pieces so far, in a row that the cell at block B holds. -/
def Held (B D : Nat) (Z : Nat → Int) (len : Nat) (w : World) (pre : List Nat) (W : World) : Prop :=
  (∃ v vs, Boxed W B 24 v ∧ W.ownsRow D 22 1 v pre.length vs ∧ Pieces B Z len pre vs W) ∧ Below B w W ∧ D ≤ W.heap.size
theorem held_own (B B' D : Nat) (Z : Nat → Int) (len : Nat) (w : World) (hw : B ≤ w.heap.size) (hB : B ≤ B') : OwnFrom B' (Held B D Z len w) := by
  rintro pre W W' row ⟨⟨v, vs, h1, h2, h3⟩, h5, h6⟩ hg hr
  refine ⟨⟨v, vs, (cells_stay hg hr h1).trans h1, row_stays h2 fun g cur hc => cells_stay hg hr hc, h3.kept fun g cur hc => cells_stay hg hr hc⟩, ?_, Nat.le_trans h6 hg.size⟩
  exact h5.grown hg (Nat.le_trans hw h5.size) fun k e => Nat.le_trans hB (hr k e).1
theorem cut_fin {B D : Nat} {Z : Nat → Int} {len : Nat} {w : World} {pre : List Nat} {k : Nat} {W w2 w3 : World} {v v' : Value} {vs : List Value} {g c2 : Nat} {tmp : Obj}
    (H1 : Boxed W B 24 v) (H2 : W.ownsRow D 22 1 v pre.length vs) (H3 : Pieces B Z len pre vs W) (HBB : Below B w W) (hD : D ≤ W.heap.size) (hBD : B + 3 = D)
    (HU : w2.ownsRow W.heap.size 5 1 (.slice (some ⟨g, 0, none⟩) (min 256 (len - 256 * k)) c2) (min 256 (len - 256 * k)) ((bytesAt Z len k).map (Value.int .u8))) (HW2 : Below W.heap.size W w2)
    (hown : w3.ownsRow D 22 1 v' (pre.length + 1) (vs ++ [.slice (some ⟨g, 0, none⟩) (min 256 (len - 256 * k)) c2])) (hgrow : (w2.alloc tmp).grownBy w3 v.ownBlock) :
    Boxed w3 B 24 v ∧ KeepsOthers W (w3.setCell ⟨B, 0, none⟩ v') ∧ Keep (B + 1) (B + 1 + 1) W (w3.setCell ⟨B, 0, none⟩ v') ∧ Held B D Z len w (pre ++ [k]) (w3.setCell ⟨B, 0, none⟩ v') := by
  have hst : ∀ (x : Nat) (cur : Array Value) (t : TypeId), W.heap[x]? = some (Obj.cells cur t (0, 0)) → w2.heap[x]? = W.heap[x]? := fun x cur t hx => HW2.block x (Array.getElem?_eq_some_iff.1 hx).1
  have b2 : Boxed w2 B 24 v := (hst B _ _ H1).trans H1
  have r2 : w2.ownsRow D 22 1 v pre.length vs := row_stays H2 fun x cur hx => hst x cur _ hx
  have hs2 := HW2.size
  have hlt := b2.lt
  obtain ⟨q1, q2, q3, q4, q5⟩ := Boxed.appended (n₀ := B) b2 (by decide) (row_mono r2 (by omega)) (by omega) (Nat.le_refl _) (row_mono hown (by omega)) hgrow
  have hne : ∀ x, some x = v.ownBlock → D ≤ x := by
    intro x e
    rcases r2.2 with ⟨rfl, _⟩ | ⟨y, cap, cur, rfl, hb, _⟩
    · simp [Value.ownBlock] at e
    · obtain rfl : x = y := by simpa [Value.ownBlock] using e
      exact hb
  have low : ∀ x, x < W.heap.size → x ≠ B → x < D → (w3.setCell ⟨B, 0, none⟩ v').heap[x]? = W.heap[x]? := by
    intro x h1 h2 h3
    rw [Below.heap_setCell w3 ⟨B, 0, none⟩ v' x h2, hgrow.block x (by simp; omega) (fun e => by have := hne x e; omega), Below.heap_alloc w2 tmp x (by omega), HW2.block x h1]
  have stay5 : ∀ (x : Nat) (cur : Array Value), w2.heap[x]? = some (Obj.cells cur 5 (0, 0)) → (w3.setCell ⟨B, 0, none⟩ v').heap[x]? = w2.heap[x]? := by
    intro x cur hx
    have hxl := (Array.getElem?_eq_some_iff.1 hx).1
    have h2 : x ≠ B := by
      rintro rfl
      rw [show w2.heap[x]? = _ from b2] at hx
      cases hx
    rw [Below.heap_setCell w3 ⟨B, 0, none⟩ v' x h2, hgrow.block x (by simp; omega) ?_, Below.heap_alloc w2 tmp x hxl]
    intro e
    rcases r2.2 with ⟨rfl, _⟩ | ⟨y, cap, cur', rfl, hb, hy, _⟩
    · simp [Value.ownBlock] at e
    · obtain rfl : x = y := by simpa [Value.ownBlock] using e
      rw [hx] at hy
      cases hy
  refine ⟨q1, ?_, ⟨low _ (by omega) (by omega) (by omega), low _ (by omega) (by omega) (by omega)⟩, ⟨v', vs ++ [.slice (some ⟨g, 0, none⟩) (min 256 (len - 256 * k)) c2], q2, ?_, ?_⟩, ?_, ?_⟩
  · exact KeepsOthers.trans ⟨hs2, fun x o hx _ => (HW2.block x (Array.getElem?_eq_some_iff.1 hx).1).trans hx⟩ q4
  · rw [List.length_append]
    exact hown.kept (grownBy_setCell' w3 B v') (.inr (q1.not_row (by decide) hown).symm)
  · refine Pieces.snoc ((H3.kept fun x cur hx => hst x cur _ hx).kept stay5) ?_
    exact row_stays (row_mono HU (by omega)) stay5
  · exact (HBB.trans (HW2.mono (by omega))).trans q5
  · have := q5.size; omega

/-- What record.Cut hands back. -/
def CutPost (Z : Nat → Int) (len : Nat) (w : World) (e : Ending) (w' : World) : Prop :=
  ∃ v vs, e = .returned v ∧ w'.ownsRow w.heap.size 22 1 v (cnt len) vs ∧ Pieces w.heap.size Z len (List.range (cnt len)) vs w' ∧ Below w.heap.size w w'

set_option maxRecDepth 100000 in
set_option maxHeartbeats 4000000 in
theorem cut_in (p : Addr) (len cap : Nat) (hlc : len ≤ cap) (hl0 : len ≤ 100000) (Z : Nat → Int) (w : World) (hp : 0 < len → p.block < w.heap.size)
    (hz : ∀ i, i < len → w.cell? (p.add i) = some (.int .u8 (Z i))) :
    CallsIn Fence.wide 4 Try.prog 9 #[.slice (some p) len cap] w (CutPost Z len w) := by
  obtain ⟨i0, hi, hz0, hz1, hz2⟩ := info_parts info22
  refine callsIn_of_wp_marks Try.func9 rfl trivial ?_ rfl
  simp only [Try.ntmps9, List.size_toArray, List.length_cons, List.length_nil, Nat.reduceAdd, Nat.reduceSub, Array.replicate_succ, Array.replicate_zero, List.push_toArray, List.append_toArray, List.nil_append, List.cons_append]
  gi_wp2_with fail
  refine ⟨trivial, ?_⟩
  refine (callsIn_wide.2 (chunk_any (some p) len cap _)).mono ?_
  rintro e w' ⟨rfl, rfl⟩
  gi_wp2_with fail
  have hsz : (((w.alloc (.cells #[.slice none 0 0] 24)).alloc (.cells #[.slice (some p) len cap] 22)).alloc (.cells #[.int .i64 256] 3)).heap.size = w.heap.size + 3 := by simp
  have bO : Boxed (((w.alloc (.cells #[.slice none 0 0] 24)).alloc (.cells #[.slice (some p) len cap] 22)).alloc (.cells #[.int .i64 256] 3)) w.heap.size 24 (.slice none 0 0) :=
    ((Boxed.new w 24 (.slice none 0 0)).alloc _).alloc _
  have hcl : Cells (w.heap.size + 1) (w.heap.size + 1 + 1) (.slice (some p) len cap) (((w.alloc (.cells #[.slice none 0 0] 24)).alloc (.cells #[.slice (some p) len cap] 22)).alloc (.cells #[.int .i64 256] 3)) := by
    have b1 := Boxed.new (w.alloc (.cells #[.slice none 0 0] 24)) 22 (.slice (some p) len cap)
    have b2 := Boxed.new ((w.alloc (.cells #[.slice none 0 0] 24)).alloc (.cells #[.slice (some p) len cap] 22)) 3 (.int .i64 256)
    simp only [World.size_alloc] at b1 b2
    exact ⟨b1.alloc _, b2⟩
  have hB0 : Below w.heap.size w (((w.alloc (.cells #[.slice none 0 0] 24)).alloc (.cells #[.slice (some p) len cap] 22)).alloc (.cells #[.int .i64 256] 3)) :=
    (((Below.refl _ w).alloc (Nat.le_refl _) _).alloc (by simp) _).alloc (by simp; omega) _
  generalize (((w.alloc (.cells #[.slice none 0 0] 24)).alloc (.cells #[.slice (some p) len cap] 22)).alloc (.cells #[.int .i64 256] 3)) = W0 at *
  refine Rg.range_own rfl (by omega) (gf := 34) (lb := #[.pointer (some ⟨w.heap.size + 1, 0, none⟩), .pointer (some ⟨w.heap.size + 1 + 1, 0, none⟩)]) rfl trivial
    (enters_of Try.func34 (by kernel_rfl) rfl)
    (chunk_iter 3 (w.heap.size + 1) (w.heap.size + 1 + 1) (by omega) p len cap hlc hl0 W0 (by omega) (by omega) hcl)
    (by rintro b h; cases h)
    (fun a b => ⟨b.1.trans a.1, b.2.trans a.2⟩)
    (fun W l o o' hl _ _ _ => ⟨World.putObj_heap_other (by omega), World.putObj_heap_other (by omega)⟩)
    (Below.refl _ _) (fun _ => rfl)
    (Held w.heap.size (w.heap.size + 3) Z len w) (fun _ _ _ => False)
    (held_own _ _ _ _ _ _ (Nat.le_refl _) (by omega)) (fun _ _ _ _ _ h _ _ => h)
    (fun _ _ _ _ h => h.elim)
    ⟨⟨.slice none 0 0, [], bO, World.ownsRow_nil _ _ _ _, ⟨rfl, fun j k h => by simp at h⟩⟩, hB0, by omega⟩
    (fun k => { tmps := #[.slice (some p) len cap, undef, .slice none 0 0, .pointer (some ⟨w.heap.size, 0, none⟩), piece p len k, .slice (some p) len cap,
      .func (.func 34) #[] #[.pointer (some ⟨w.heap.size + 1, 0, none⟩), .pointer (some ⟨w.heap.size + 1 + 1, 0, none⟩)], piece p len k, undef, undef, undef, undef, undef, undef], defers := [] })
    ?assign ?body ?done ?stop
  case assign =>
    intro l x W K hK
    gi_wp2
    exact hK
  case body =>
    rintro l pre k W ⟨⟨v, vs, h1, h2, h3⟩, hB, hDW⟩ hlt
    have hc := h1.cell
    have HZ := Lib.hid hz
    have hcl : ∀ (W2 : World), Below w.heap.size w W2 → ∀ i, i < min 256 (len - 256 * k) → W2.cell? ((p.add (256 * k)).add i) = some (.int .u8 ((bytesAt Z len k).getD i 0)) := by
      intro W2 hb i hi
      have e1 : (p.add (256 * k)).add i = p.add (256 * k + i) := by
        unfold Addr.add; split <;> split <;> split <;> simp_all <;> omega
      have e2 : (bytesAt Z len k).getD i 0 = Z (256 * k + i) := by
        unfold bytesAt
        simp [List.getD, hi]
      rw [e1, e2, hb.cell (p := p.add (256 * k + i)) (by unfold Addr.add; split <;> exact hp (by omega))]
      exact hz _ (by omega)
    have CL := Lib.hid fun (W2 : World) (hb : Below w.heap.size w W2) => Try.bytes_Clone_at (p.add (256 * k)) (min 256 (len - 256 * k)) (min 256 (len - 256 * k)) (bytesAt Z len k) W2 (by simp [bytesAt]) (by omega) (hcl W2 hb)
    clear hcl hz
    have H1 := Lib.hid h1
    have H2 := Lib.hid h2
    have H3 := Lib.hid h3
    have HBB := Lib.hid hB
    clear h1 h2 h3 hB
    have hf := H1.out.frozen
    unfold piece
    gi_wp2_with fail
    refine wpIn_region_any (by kernel_rfl) ?_
    change wpAnyIn _ _ _ _ _ _ _ _ _ (World.drew _)
    refine wpAnyIn_ready (rs := [0, 1]) (by kernel_rfl) (by simp) ?_
    refine AllReadyIn.cons rfl (fun K hK => ?_) (AllReadyIn.cons rfl (fun K hK => ?_) AllReadyIn.nil)
    · go_simp
      refine hK _ _ ?_
      clear hK K
      refine wpAnyIn_ready (rs := [1]) (by kernel_rfl) (by simp) ?_
      refine AllReadyIn.cons rfl (fun K hK => ?_) AllReadyIn.nil
      go_simp
      refine hK _ _ ?_
      clear hK K
      refine wpAnyIn_ready (rs := [2]) (by kernel_rfl) (by simp) ?_
      refine AllReadyIn.cons rfl (fun K hK => ?_) AllReadyIn.nil
      go_simp
      refine ⟨trivial, (CallsIn.inRound l (callsIn_wide.2 (CL.out _ HBB.out.drew))).mono ?_⟩
      rintro e w2 ⟨u, rfl, hu, hun, hw2⟩
      obtain ⟨g, c2, rfl⟩ := slice_of hu hun
      have HU := Lib.hid hu
      have HW2 := Lib.hid (below_of_drew hw2)
      clear hu hun hw2
      refine hK _ _ ?_
      clear hK K
      refine wpAnyIn_ready (rs := [3]) (by kernel_rfl) (by simp) ?_
      refine AllReadyIn.cons rfl (fun K hK => ?_) AllReadyIn.nil
      go_simp
      refine hK _ _ ?_
      clear hK K
      refine wpAnyIn_ready (rs := [4]) (by kernel_rfl) (by simp) ?_
      refine AllReadyIn.cons rfl (fun K hK => ?_) AllReadyIn.nil
      obtain ⟨v', w3, hap, hown, hgrow, hnil⟩ := run_append_own (P := Try.prog) (w := w2.alloc (.cells #[.slice (some ⟨g, 0, none⟩) (min 256 (len - 256 * k)) c2] 22)) (w.heap.size + 3) 24 24 22 i0 (.slice none 0 0) 1 24 Try.underlying24 hi hz0 hz1 hz2 rfl (by decide) v pre.length vs ((row_stays (W' := w2) H2.out (fun x cur hx => HW2.out.block x (Array.getElem?_eq_some_iff.1 hx).1)).alloc _) ⟨w2.heap.size, 0, none⟩ 1 1 [.slice (some ⟨g, 0, none⟩) (min 256 (len - 256 * k)) c2] rfl (fun j u hj => by cases j with | zero => simp at hj; subst hj; simp [Addr.add] | succ j => simp at hj) (by simp [Value.oneCell']) (by unfold cnt at hlt; unfold maxLen; omega) (by unfold cnt at hlt; omega) (by rw [World.size_alloc]; exact Nat.le_succ_of_le (Nat.le_trans hDW HW2.out.size))
      obtain ⟨g3, d3, rfl⟩ := slice_of hown (fun e => by have := (hnil.1 e).2; omega)
      have FIN := Lib.hid (cut_fin (k := k) (w2 := w2) (g := g) (c2 := c2) H1.out H2.out H3.out HBB.out hDW rfl HU.out HW2.out hown hgrow)
      have c3 := FIN.out.1.cell
      have f3 := FIN.out.1.frozen
      clear hown hgrow hnil
      refine In.append rfl (.tmp 8) (.tmp 11) 24 rfl rfl rfl hap ?_
      refine hK _ _ ?_
      clear hK K hap
      refine wpAnyIn_ready (rs := [5]) (by kernel_rfl) (by simp) ?_
      refine AllReadyIn.cons rfl (fun K hK => ?_) AllReadyIn.nil
      go_simp
      refine hK _ _ ?_
      clear hK K
      refine wpAnyIn_done (by kernel_rfl) ?_ _
      exact ⟨FIN.out.2.1.from _, FIN.out.2.2.1, FIN.out.2.2.2⟩
    · go_simp
      refine hK _ _ ?_
      clear hK K
      refine wpAnyIn_ready (rs := [0, 2]) (by kernel_rfl) (by simp) ?_
      refine AllReadyIn.cons rfl (fun K hK => ?_) (AllReadyIn.cons rfl (fun K hK => ?_) AllReadyIn.nil)
      · go_simp
        refine hK _ _ ?_
        clear hK K
        refine wpAnyIn_ready (rs := [2]) (by kernel_rfl) (by simp) ?_
        refine AllReadyIn.cons rfl (fun K hK => ?_) AllReadyIn.nil
        go_simp
        refine ⟨trivial, (CallsIn.inRound l (callsIn_wide.2 (CL.out _ HBB.out.drew))).mono ?_⟩
        rintro e w2 ⟨u, rfl, hu, hun, hw2⟩
        obtain ⟨g, c2, rfl⟩ := slice_of hu hun
        have HU := Lib.hid hu
        have HW2 := Lib.hid (below_of_drew hw2)
        clear hu hun hw2
        refine hK _ _ ?_
        clear hK K
        refine wpAnyIn_ready (rs := [3]) (by kernel_rfl) (by simp) ?_
        refine AllReadyIn.cons rfl (fun K hK => ?_) AllReadyIn.nil
        go_simp
        refine hK _ _ ?_
        clear hK K
        refine wpAnyIn_ready (rs := [4]) (by kernel_rfl) (by simp) ?_
        refine AllReadyIn.cons rfl (fun K hK => ?_) AllReadyIn.nil
        obtain ⟨v', w3, hap, hown, hgrow, hnil⟩ := run_append_own (P := Try.prog) (w := w2.alloc (.cells #[.slice (some ⟨g, 0, none⟩) (min 256 (len - 256 * k)) c2] 22)) (w.heap.size + 3) 24 24 22 i0 (.slice none 0 0) 1 24 Try.underlying24 hi hz0 hz1 hz2 rfl (by decide) v pre.length vs ((row_stays (W' := w2) H2.out (fun x cur hx => HW2.out.block x (Array.getElem?_eq_some_iff.1 hx).1)).alloc _) ⟨w2.heap.size, 0, none⟩ 1 1 [.slice (some ⟨g, 0, none⟩) (min 256 (len - 256 * k)) c2] rfl (fun j u hj => by cases j with | zero => simp at hj; subst hj; simp [Addr.add] | succ j => simp at hj) (by simp [Value.oneCell']) (by unfold cnt at hlt; unfold maxLen; omega) (by unfold cnt at hlt; omega) (by rw [World.size_alloc]; exact Nat.le_succ_of_le (Nat.le_trans hDW HW2.out.size))
        obtain ⟨g3, d3, rfl⟩ := slice_of hown (fun e => by have := (hnil.1 e).2; omega)
        have FIN := Lib.hid (cut_fin (k := k) (w2 := w2) (g := g) (c2 := c2) H1.out H2.out H3.out HBB.out hDW rfl HU.out HW2.out hown hgrow)
        have c3 := FIN.out.1.cell
        have f3 := FIN.out.1.frozen
        clear hown hgrow hnil
        refine In.append rfl (.tmp 8) (.tmp 11) 24 rfl rfl rfl hap ?_
        refine hK _ _ ?_
        clear hK K hap
        refine wpAnyIn_ready (rs := [5]) (by kernel_rfl) (by simp) ?_
        refine AllReadyIn.cons rfl (fun K hK => ?_) AllReadyIn.nil
        go_simp
        refine hK _ _ ?_
        clear hK K
        refine wpAnyIn_done (by kernel_rfl) ?_ _
        exact ⟨FIN.out.2.1.from _, FIN.out.2.2.1, FIN.out.2.2.2⟩
      · go_simp
        refine ⟨trivial, (CallsIn.inRound l (callsIn_wide.2 (CL.out _ HBB.out.drew))).mono ?_⟩
        rintro e w2 ⟨u, rfl, hu, hun, hw2⟩
        obtain ⟨g, c2, rfl⟩ := slice_of hu hun
        have HU := Lib.hid hu
        have HW2 := Lib.hid (below_of_drew hw2)
        clear hu hun hw2
        refine hK _ _ ?_
        clear hK K
        refine wpAnyIn_ready (rs := [0, 3]) (by kernel_rfl) (by simp) ?_
        refine AllReadyIn.cons rfl (fun K hK => ?_) (AllReadyIn.cons rfl (fun K hK => ?_) AllReadyIn.nil)
        · have hc2 : w2.cell? ⟨w.heap.size, 0, none⟩ = some v := (HW2.out.cell (p := ⟨w.heap.size, 0, none⟩) H1.out.lt).trans hc
          go_simp
          refine hK _ _ ?_
          clear hK K hc2
          refine wpAnyIn_ready (rs := [3]) (by kernel_rfl) (by simp) ?_
          refine AllReadyIn.cons rfl (fun K hK => ?_) AllReadyIn.nil
          go_simp
          refine hK _ _ ?_
          clear hK K
          refine wpAnyIn_ready (rs := [4]) (by kernel_rfl) (by simp) ?_
          refine AllReadyIn.cons rfl (fun K hK => ?_) AllReadyIn.nil
          obtain ⟨v', w3, hap, hown, hgrow, hnil⟩ := run_append_own (P := Try.prog) (w := w2.alloc (.cells #[.slice (some ⟨g, 0, none⟩) (min 256 (len - 256 * k)) c2] 22)) (w.heap.size + 3) 24 24 22 i0 (.slice none 0 0) 1 24 Try.underlying24 hi hz0 hz1 hz2 rfl (by decide) v pre.length vs ((row_stays (W' := w2) H2.out (fun x cur hx => HW2.out.block x (Array.getElem?_eq_some_iff.1 hx).1)).alloc _) ⟨w2.heap.size, 0, none⟩ 1 1 [.slice (some ⟨g, 0, none⟩) (min 256 (len - 256 * k)) c2] rfl (fun j u hj => by cases j with | zero => simp at hj; subst hj; simp [Addr.add] | succ j => simp at hj) (by simp [Value.oneCell']) (by unfold cnt at hlt; unfold maxLen; omega) (by unfold cnt at hlt; omega) (by rw [World.size_alloc]; exact Nat.le_succ_of_le (Nat.le_trans hDW HW2.out.size))
          obtain ⟨g3, d3, rfl⟩ := slice_of hown (fun e => by have := (hnil.1 e).2; omega)
          have FIN := Lib.hid (cut_fin (k := k) (w2 := w2) (g := g) (c2 := c2) H1.out H2.out H3.out HBB.out hDW rfl HU.out HW2.out hown hgrow)
          have c3 := FIN.out.1.cell
          have f3 := FIN.out.1.frozen
          clear hown hgrow hnil
          refine In.append rfl (.tmp 8) (.tmp 11) 24 rfl rfl rfl hap ?_
          refine hK _ _ ?_
          clear hK K hap
          refine wpAnyIn_ready (rs := [5]) (by kernel_rfl) (by simp) ?_
          refine AllReadyIn.cons rfl (fun K hK => ?_) AllReadyIn.nil
          go_simp
          refine hK _ _ ?_
          clear hK K
          refine wpAnyIn_done (by kernel_rfl) ?_ _
          exact ⟨FIN.out.2.1.from _, FIN.out.2.2.1, FIN.out.2.2.2⟩
        · go_simp
          refine hK _ _ ?_
          clear hK K
          refine wpAnyIn_ready (rs := [0]) (by kernel_rfl) (by simp) ?_
          refine AllReadyIn.cons rfl (fun K hK => ?_) AllReadyIn.nil
          have hc2 : w2.cell? ⟨w.heap.size, 0, none⟩ = some v := (HW2.out.cell (p := ⟨w.heap.size, 0, none⟩) H1.out.lt).trans hc
          have hl2 : w.heap.size < w2.heap.size := Nat.lt_of_lt_of_le H1.out.lt HW2.out.size
          go_simp
          refine hK _ _ ?_
          clear hK K hc2 hl2
          refine wpAnyIn_ready (rs := [4]) (by kernel_rfl) (by simp) ?_
          refine AllReadyIn.cons rfl (fun K hK => ?_) AllReadyIn.nil
          obtain ⟨v', w3, hap, hown, hgrow, hnil⟩ := run_append_own (P := Try.prog) (w := w2.alloc (.cells #[.slice (some ⟨g, 0, none⟩) (min 256 (len - 256 * k)) c2] 22)) (w.heap.size + 3) 24 24 22 i0 (.slice none 0 0) 1 24 Try.underlying24 hi hz0 hz1 hz2 rfl (by decide) v pre.length vs ((row_stays (W' := w2) H2.out (fun x cur hx => HW2.out.block x (Array.getElem?_eq_some_iff.1 hx).1)).alloc _) ⟨w2.heap.size, 0, none⟩ 1 1 [.slice (some ⟨g, 0, none⟩) (min 256 (len - 256 * k)) c2] rfl (fun j u hj => by cases j with | zero => simp at hj; subst hj; simp [Addr.add] | succ j => simp at hj) (by simp [Value.oneCell']) (by unfold cnt at hlt; unfold maxLen; omega) (by unfold cnt at hlt; omega) (by rw [World.size_alloc]; exact Nat.le_succ_of_le (Nat.le_trans hDW HW2.out.size))
          obtain ⟨g3, d3, rfl⟩ := slice_of hown (fun e => by have := (hnil.1 e).2; omega)
          have FIN := Lib.hid (cut_fin (k := k) (w2 := w2) (g := g) (c2 := c2) H1.out H2.out H3.out HBB.out hDW rfl HU.out HW2.out hown hgrow)
          have c3 := FIN.out.1.cell
          have f3 := FIN.out.1.frozen
          clear hown hgrow hnil
          refine In.append rfl (.tmp 8) (.tmp 11) 24 rfl rfl rfl hap ?_
          refine hK _ _ ?_
          clear hK K hap
          refine wpAnyIn_ready (rs := [5]) (by kernel_rfl) (by simp) ?_
          refine AllReadyIn.cons rfl (fun K hK => ?_) AllReadyIn.nil
          go_simp
          refine hK _ _ ?_
          clear hK K
          refine wpAnyIn_done (by kernel_rfl) ?_ _
          exact ⟨FIN.out.2.1.from _, FIN.out.2.2.1, FIN.out.2.2.2⟩
  case done =>
    rintro D xs W hD rfl ⟨⟨v, vs, h1, h2, h3⟩, hB, hDW⟩ hK
    have hc := h1.cell
    have H1 := Lib.hid h1
    have H2 := Lib.hid h2
    have H3 := Lib.hid h3
    have HBB := Lib.hid hB
    clear h1 h2 h3 hB
    gi_wp2
    refine ⟨by simp, .inl ⟨_, _, rfl, run_takeDeferred hK, ?_⟩⟩
    have stay : ∀ (g : Nat) (cur : Array Value) (t : TypeId), W.heap[g]? = some (Obj.cells cur t (0, 0)) → (W.putObj D (.deferred none)).heap[g]? = W.heap[g]? := fun g cur t hg =>
      World.putObj_heap_other (by rintro rfl; rw [hK] at hg; cases hg)
    have q2 := row_stays H2.out (fun g cur hg => stay g cur _ hg)
    have q3 := H3.out.kept (fun g cur hg => stay g cur _ hg)
    rw [List.length_range] at q2
    exact ⟨_, results_tmp rfl _ _ _, v, vs, rfl, row_mono q2 (by omega), q3, HBB.out.trans (belowK_b (w := w) (Nat.le_refl _) W D _ _ (by omega) hK rfl rfl)⟩
  case stop =>
    rintro D c pre W _ _ h _
    exact h.elim

set_option maxRecDepth 100000 in
set_option maxHeartbeats 2000000 in
theorem chunk_nil (n Bs Bn : Nat) (hn : 1 ≤ n) (w : World) (h1 : Bs < w.heap.size) (h2 : Bn < w.heap.size) (hc : Cells Bs Bn (.slice none 0 0) w) :
    Rg.Iter Fence.wide n Try.prog 34 #[.pointer (some ⟨Bs, 0, none⟩), .pointer (some ⟨Bn, 0, none⟩)] (fun k : Nat => #[.slice none 0 0])
      (Keep Bs Bn) (fun ys => ys = List.range (cnt 0)) (fun ys => ∃ k, k ≤ cnt 0 ∧ ys = List.range k) (cnt 0) (fun _ => False) w := by
  intro l J Jx W hW hJ hJx hbl hY h0
  have hc0 : Cells Bs Bn (.slice none 0 0) W := ⟨(hW.block _ h1).trans hc.src, (hW.block _ h2).trans hc.num⟩
  have HC0 := Lib.hid hc0
  clear hc0
  refine callsIn_of_wp Try.func34 rfl trivial ?_ rfl
  simp only [Try.ntmps34, List.size_toArray, List.length_cons, List.length_nil, Nat.reduceAdd, Nat.reduceSub, Array.replicate_succ, Array.replicate_zero, List.push_toArray, List.append_toArray, List.nil_append, List.cons_append]
  gi_wp2_with fail
  gi_loopg [4] 0 (fun gf i wr => i = .int .i64 0 ∧ Hid (Cells Bs Bn (.slice none 0 0) wr) ∧ J [] wr)
  case atStart => exact ⟨rfl, HC0, h0⟩
  case round =>
    obtain ⟨rfl, HC, hJk⟩ := hrel
    have k1 := cell_of_one HC.out.src
    have k2 := cell_of_one HC.out.num
    gi_wp2_with fail
    go_end0
    exact ⟨⟨_, rfl⟩, .inl ⟨_, rfl, hJk⟩⟩

set_option maxRecDepth 100000 in
set_option maxHeartbeats 4000000 in
theorem cut_nil (Z : Nat → Int) (w : World) :
    CallsIn Fence.wide 4 Try.prog 9 #[.slice none 0 0] w (CutPost Z 0 w) := by
  refine callsIn_of_wp_marks Try.func9 rfl trivial ?_ rfl
  simp only [Try.ntmps9, List.size_toArray, List.length_cons, List.length_nil, Nat.reduceAdd, Nat.reduceSub, Array.replicate_succ, Array.replicate_zero, List.push_toArray, List.append_toArray, List.nil_append, List.cons_append]
  gi_wp2_with fail
  refine ⟨trivial, ?_⟩
  refine (callsIn_wide.2 (chunk_any none 0 0 _)).mono ?_
  rintro e w' ⟨rfl, rfl⟩
  gi_wp2_with fail
  have hsz : (((w.alloc (.cells #[.slice none 0 0] 24)).alloc (.cells #[.slice none 0 0] 22)).alloc (.cells #[.int .i64 256] 3)).heap.size = w.heap.size + 3 := by simp
  have bO : Boxed (((w.alloc (.cells #[.slice none 0 0] 24)).alloc (.cells #[.slice none 0 0] 22)).alloc (.cells #[.int .i64 256] 3)) w.heap.size 24 (.slice none 0 0) :=
    ((Boxed.new w 24 (.slice none 0 0)).alloc _).alloc _
  have hcl : Cells (w.heap.size + 1) (w.heap.size + 1 + 1) (.slice none 0 0) (((w.alloc (.cells #[.slice none 0 0] 24)).alloc (.cells #[.slice none 0 0] 22)).alloc (.cells #[.int .i64 256] 3)) := by
    have b1 := Boxed.new (w.alloc (.cells #[.slice none 0 0] 24)) 22 (.slice none 0 0)
    have b2 := Boxed.new ((w.alloc (.cells #[.slice none 0 0] 24)).alloc (.cells #[.slice none 0 0] 22)) 3 (.int .i64 256)
    simp only [World.size_alloc] at b1 b2
    exact ⟨b1.alloc _, b2⟩
  have hB0 : Below w.heap.size w (((w.alloc (.cells #[.slice none 0 0] 24)).alloc (.cells #[.slice none 0 0] 22)).alloc (.cells #[.int .i64 256] 3)) :=
    (((Below.refl _ w).alloc (Nat.le_refl _) _).alloc (by simp) _).alloc (by simp; omega) _
  generalize (((w.alloc (.cells #[.slice none 0 0] 24)).alloc (.cells #[.slice none 0 0] 22)).alloc (.cells #[.int .i64 256] 3)) = W0 at *
  refine Rg.range_own rfl (by omega) (gf := 34) (lb := #[.pointer (some ⟨w.heap.size + 1, 0, none⟩), .pointer (some ⟨w.heap.size + 1 + 1, 0, none⟩)]) rfl trivial
    (enters_of Try.func34 (by kernel_rfl) rfl)
    (chunk_nil 3 (w.heap.size + 1) (w.heap.size + 1 + 1) (by omega) W0 (by omega) (by omega) hcl)
    (by rintro b h; cases h)
    (fun a b => ⟨b.1.trans a.1, b.2.trans a.2⟩)
    (fun W l o o' hl _ _ _ => ⟨World.putObj_heap_other (by omega), World.putObj_heap_other (by omega)⟩)
    (Below.refl _ _) (fun _ => rfl)
    (Held w.heap.size (w.heap.size + 3) Z 0 w) (fun _ _ _ => False)
    (held_own _ _ _ _ _ _ (Nat.le_refl _) (by omega)) (fun _ _ _ _ _ h _ _ => h)
    (fun _ _ _ _ h => h.elim)
    ⟨⟨.slice none 0 0, [], bO, World.ownsRow_nil _ _ _ _, ⟨rfl, fun j k h => by simp at h⟩⟩, hB0, by omega⟩
    (fun k => { tmps := #[.slice none 0 0, undef, .slice none 0 0, .pointer (some ⟨w.heap.size, 0, none⟩), .slice none 0 0, .slice none 0 0,
      .func (.func 34) #[] #[.pointer (some ⟨w.heap.size + 1, 0, none⟩), .pointer (some ⟨w.heap.size + 1 + 1, 0, none⟩)], .slice none 0 0, undef, undef, undef, undef, undef, undef], defers := [] })
    ?assign ?body ?done ?stop
  case assign =>
    intro l x W K hK
    gi_wp2
    exact hK
  case body =>
    rintro l pre k W _ hlt
    exact absurd hlt (by unfold cnt; omega)
  case done =>
    rintro D xs W hD rfl ⟨⟨v, vs, h1, h2, h3⟩, hB, hDW⟩ hK
    have hc := h1.cell
    have H1 := Lib.hid h1
    have H2 := Lib.hid h2
    have H3 := Lib.hid h3
    have HBB := Lib.hid hB
    clear h1 h2 h3 hB
    gi_wp2
    refine ⟨by simp, .inl ⟨_, _, rfl, run_takeDeferred hK, ?_⟩⟩
    have stay : ∀ (g : Nat) (cur : Array Value) (t : TypeId), W.heap[g]? = some (Obj.cells cur t (0, 0)) → (W.putObj D (.deferred none)).heap[g]? = W.heap[g]? := fun g cur t hg =>
      World.putObj_heap_other (by rintro rfl; rw [hK] at hg; cases hg)
    have q2 := row_stays H2.out (fun g cur hg => stay g cur _ hg)
    have q3 := H3.out.kept (fun g cur hg => stay g cur _ hg)
    rw [List.length_range] at q2
    exact ⟨_, results_tmp rfl _ _ _, v, vs, rfl, row_mono q2 (by omega), q3, HBB.out.trans (belowK_b (w := w) (Nat.le_refl _) W D _ _ (by omega) hK rfl rfl)⟩
  case stop =>
    rintro D c pre W _ _ h _
    exact h.elim

/-- record.Cut, of whatever bytes. -/
theorem cut_any {a : Option Addr} {len cap : Nat} {Z : Nat → Int} {w : World} (h : Bt.Bs w a len cap Z) (hl : len ≤ 100000) :
    Calls Try.prog 9 #[.slice a len cap] w (CutPost Z len w) := by
  rcases h.here with ⟨rfl, rfl, rfl⟩ | ⟨p, rfl, h1, h2⟩
  · exact callsIn_wide.1 (cut_nil Z w)
  · exact callsIn_wide.1 (cut_in p len cap h1 hl Z w (fun hp => h.old p rfl hp) (fun i hi => h.cell p rfl i hi))
end Rc
end Go.Proofs.Ytnljfhoibkeloaa
