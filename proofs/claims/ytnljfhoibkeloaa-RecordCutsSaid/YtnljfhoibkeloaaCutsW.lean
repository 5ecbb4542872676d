/- The walk of RecordCuts. -/
import Derived.Test.YtnljfhoibkeloaaCutC
import Derived.BigQuiet
import Derived.Deep.QuietTactic
import Derived.IntWalk
import Derived.Outline
namespace Go.Proofs.Ytnljfhoibkeloaa
open Go.RowKit
set_option linter.unusedVariables false
set_option linter.unusedSimpArgs false
namespace Rc
open Bt
/-- A slice of the pieces of some bytes. -/
def Cutted (B : Nat) (Z : Nat → Int) (len : Nat) (v : Value) (vs : List Value) (W : World) : Prop :=
  W.ownsRow B 22 1 v (cnt len) vs ∧ Pieces B Z len (List.range (cnt len)) vs W
theorem Cutted.below {B : Nat} {Z : Nat → Int} {len : Nat} {v : Value} {vs : List Value} {W W' : World} (h : Cutted B Z len v vs W) (hb : Below W.heap.size W W') : Cutted B Z len v vs W' :=
  ⟨row_stays h.1 fun g cur hg => hb.block g (Array.getElem?_eq_some_iff.1 hg).1, h.2.below hb⟩
theorem Cutted.length {B : Nat} {Z : Nat → Int} {len : Nat} {v : Value} {vs : List Value} {W : World} (h : Cutted B Z len v vs W) : vs.length = cnt len := by
  have := h.1.1; omega
theorem bytesAt_lst (Z : Nat → Int) (len k : Nat) : bytesAt Z len k = lst (fun i => Z (256 * k + i)) (min 256 (len - 256 * k)) := rfl
/-- Piece number j. -/
theorem Cutted.piece {B : Nat} {Z : Nat → Int} {len : Nat} {v : Value} {vs : List Value} {W : World} (h : Cutted B Z len v vs W) (hz : ∀ i, i < len → 0 ≤ Z i ∧ Z i < 256) (j : Nat) (hj : j < cnt len) :
    ∃ g c, vs[j]? = some (.slice (some ⟨g, 0, none⟩) (min 256 (len - 256 * j)) c) ∧ Bs W (some ⟨g, 0, none⟩) (min 256 (len - 256 * j)) c (fun i => Z (256 * j + i)) := by
  obtain ⟨u, h1, h2⟩ := h.2.2 j j (by simp [hj])
  have hpos : 0 < min 256 (len - 256 * j) := by unfold cnt at hj; omega
  obtain ⟨g, c, rfl⟩ := slice_of h2 (fun e => by subst e; rcases h2.2 with ⟨_, h0⟩ | ⟨g, cap, cur, e, _⟩; omega; cases e)
  refine ⟨g, c, h1, Bs.own (base := B) ?_ (fun i hi => hz _ (by omega))⟩
  rw [← bytesAt_lst]
  exact h2
/-- Its form, and the cells of the slice of slices. -/
theorem Cutted.cell {B : Nat} {Z : Nat → Int} {len : Nat} {v : Value} {vs : List Value} {W : World} (h : Cutted B Z len v vs W) (hpos : 0 < cnt len) :
    ∃ g c, v = .slice (some ⟨g, 0, none⟩) (cnt len) c ∧ ∀ j u, vs[j]? = some u → W.cell? ⟨g, j, none⟩ = some u := by
  obtain ⟨g, c, rfl⟩ := slice_of h.1 (fun e => by subst e; rcases h.1.2 with ⟨_, h0⟩ | ⟨g, cap, cur, e, _⟩; omega; cases e)
  refine ⟨g, c, rfl, fun j u hu => ?_⟩
  have := h.1.cells (g := g) rfl j u hu
  rwa [own_add] at this

set_option maxRecDepth 100000 in
set_option maxHeartbeats 1000000 in
theorem awake_any (w : World) : Calls Try.prog 8 #[] w fun e w' => e = .returned (.bool true) ∧ Below w.heap.size w w' := by
  obtain ⟨zz, hmk0, hbs⟩ := make_zeros 257 (by omega)
  have hmk : ∀ w : World, (Instr.makeSlice 22 (.int .i64 257) (.int .i64 257)).run Try.prog w = .ok (.slice (some ⟨w.heap.size, 0, none⟩) 257 257) (w.alloc (.cells zz 5)) := hmk0
  clear hmk0
  have HB := Lib.hid hbs
  clear hbs
  go_enter Try.func8, Try.ntmps8
  go_wp2_with fail
  refine (cut_any (HB.out _) (by omega)).mono ?_
  rintro e w1 ⟨v, vs, rfl, h1, h2, hb⟩
  have hC : Cutted _ _ 257 v vs w1 := ⟨h1, h2⟩
  obtain ⟨g, c, rfl, hcell⟩ := hC.cell (by decide)
  obtain ⟨g0, c0, e0, _⟩ := hC.piece (fun i _ => by omega) 0 (by decide)
  obtain ⟨g1, c1, e1, _⟩ := hC.piece (fun i _ => by omega) 1 (by decide)
  have k0 := hcell 0 _ e0
  have k1 := hcell 1 _ e1
  have hcnt : cnt 257 = 2 := by decide
  rw [hcnt]
  clear hC hcell e0 e1 h1 h2 hcnt
  have HBB := Lib.hid hb
  clear hb
  go_wp2_with fail
  go_ret
  exact ⟨rfl, ((Below.refl _ w).alloc (Nat.le_refl _) _).trans (HBB.out.mono (by simp))⟩

/-- A row of slices as what is appended. -/
theorem rowSrc {W : World} {B n : Nat} {v : Value} {xs : List Value} (h : W.ownsRow B 22 1 v n xs) (h1 : ∀ u ∈ xs, u.oneCell' = true) : Src Try.prog 1 24 v n xs W := by
  rcases h.2 with ⟨rfl, rfl⟩ | ⟨g, c, cur, rfl, _, _, _, _, _, _⟩
  · obtain rfl : xs = [] := List.eq_nil_of_length_eq_zero (by have := h.1; omega)
    exact Src.ofNil W Try.underlying24 0
  · exact Src.ofSlice W Try.underlying24 ⟨g, 0, none⟩ n c xs h.1 (h.cells (g := g) rfl) h1
/-- 'append(append([][]byte{}, x...), y...)'. -/
theorem two_rows {W : World} {B1 B2 nx ny : Nat} {vx vy : Value} {xs ys : List Value} (hx : W.ownsRow B1 22 1 vx nx xs) (hy : W.ownsRow B2 22 1 vy ny ys) (h1 : ∀ u ∈ xs, u.oneCell' = true) (h2 : ∀ u ∈ ys, u.oneCell' = true)
    (hnx : nx ≤ 10000000) (hny : ny ≤ 10000000) :
    ∃ v1 w1 g2 c2 w2, (Builtin.append_ #[24, 24] 24 #[.slice (some ⟨W.heap.size, 0, none⟩) 0 0, vx]).run Try.prog (W.alloc (.cells #[] 22)) = .ok v1 w1 ∧
      (Builtin.append_ #[24, 24] 24 #[v1, vy]).run Try.prog w1 = .ok (.slice (some ⟨g2, 0, none⟩) (nx + ny) c2) w2 ∧
      w2.ownsRow W.heap.size 22 1 (.slice (some ⟨g2, 0, none⟩) (nx + ny) c2) (nx + ny) (xs ++ ys) ∧ Below W.heap.size W w2 := by
  obtain ⟨i0, hi, hz0, hz1, hz2⟩ := info_parts info22
  have hB0 : Below W.heap.size W (W.alloc (.cells #[] 22)) := (Below.refl _ W).alloc (Nat.le_refl _) _
  have hg : (W.alloc (.cells #[] 22)).ownsRow W.heap.size 22 1 (.slice (some ⟨W.heap.size, 0, none⟩) 0 0) 0 [] :=
    ⟨rfl, .inr ⟨_, _, _, rfl, Nat.le_refl _, heap_alloc_new W _, Nat.le_refl _, Nat.zero_le _, rfl, rfl⟩⟩
  obtain ⟨v1, w1, r1, o1, g1, n1, _⟩ := App.run (P := Try.prog) W.heap.size 24 24 24 22 i0 (.slice none 0 0) 1 24 Try.underlying24 hi hz0 hz1 hz2 rfl (by decide) _ 0 [] hg vx nx xs (rowSrc (hx.alloc _) h1) (by unfold maxLen; omega) (by omega) hB0.size
  have hB1 : Below W.heap.size W w1 := hB0.grown g1 (by simp) (fun k e => by cases e; exact Nat.le_refl _)
  rw [Nat.zero_add, List.nil_append] at o1
  have hy1 : w1.ownsRow B2 22 1 vy ny ys := row_stays hy fun g cur hc => hB1.block g (Array.getElem?_eq_some_iff.1 hc).1
  obtain ⟨v2, w2, r2, o2, g2, n2, _⟩ := App.run (P := Try.prog) W.heap.size 24 24 24 22 i0 (.slice none 0 0) 1 24 Try.underlying24 hi hz0 hz1 hz2 rfl (by decide) v1 nx xs o1 vy ny ys (rowSrc hy1 h2) (by unfold maxLen; omega) (by omega) hB1.size
  rcases o2.2 with ⟨e, _⟩ | ⟨g, c, cur, e, _⟩
  · exact absurd (n1.1 (n2.1 e).1).1 (by simp)
  · subst e
    exact ⟨v1, w1, g, c, w2, r1, r2, o2, hB1.grown g2 hB1.size (fun k e => (o1.lt k e).1)⟩
theorem Cutted.ones {B : Nat} {Z : Nat → Int} {len : Nat} {v : Value} {vs : List Value} {W : World} (h : Cutted B Z len v vs W) : ∀ u ∈ vs, u.oneCell' = true := by
  intro u hu
  obtain ⟨j, hj, rfl⟩ := List.getElem_of_mem hu
  have hjc : j < cnt len := by rw [h.length] at hj; exact hj
  obtain ⟨u, h1, h2⟩ := h.2.2 j j (by simp [hjc])
  rw [List.getElem?_eq_getElem hj] at h1
  cases h1
  rcases h2.2 with ⟨e, _⟩ | ⟨g, cap, cur, e, _⟩ <;> rw [e] <;> rfl

theorem Bs.shorter {W : World} {a : Option Addr} {len cap : Nat} {Z : Nat → Int} (h : Bs W a len cap Z) {n : Nat} (hn : n ≤ len) : Bs W a n cap Z := by
  refine ⟨?_, fun x hx hl => h.old x hx (by omega), fun x hx i hi => h.cell x hx i (by omega), fun i hi => h.byte i (by omega)⟩
  rcases h.here with ⟨h1, h2, h3⟩ | ⟨x, h1, h2, h3⟩
  · exact .inl ⟨h1, by omega, h3⟩
  · exact .inr ⟨x, h1, by omega, h3⟩

theorem Cutted.form {B : Nat} {Z : Nat → Int} {len : Nat} {v : Value} {vs : List Value} {W : World} (h : Cutted B Z len v vs W) : ∃ a c, v = .slice a (cnt len) c := by
  rcases h.1.2 with ⟨rfl, h0⟩ | ⟨g, c, cur, rfl, _⟩
  · exact ⟨none, 0, by rw [h0]⟩
  · exact ⟨_, c, rfl⟩
theorem cnt_add (na lb : Nat) (h : na = 256 * (na / 256)) : cnt (na + lb) = cnt na + cnt lb := by unfold cnt; omega
/-- Piece k of the whole, and of the two parts: they are one string. -/
theorem same_piece {B1 B2 B3 na lb : Nat} {Za Zb : Nat → Int} {v1 v2 v3 : Value} {vs1 vs2 vs3 : List Value} {W : World} (hna : na = 256 * (na / 256)) (hza : ∀ i, i < na → 0 ≤ Za i ∧ Za i < 256) (hzb : ∀ i, i < lb → 0 ≤ Zb i ∧ Zb i < 256)
    (D1 : Cutted B1 Za na v1 vs1 W) (D2 : Cutted B2 Zb lb v2 vs2 W) (D3 : Cutted B3 (fun i => if i < na then Za i else Zb (i - na)) (na + lb) v3 vs3 W) (k : Nat) (hk : k < cnt na + cnt lb) :
    ∃ g c g' c' m S, vs3[k]? = some (.slice (some ⟨g, 0, none⟩) m c) ∧ (vs1 ++ vs2)[k]? = some (.slice (some ⟨g', 0, none⟩) m c') ∧
      (∀ n : Nat, (convert 22 9 (.slice (some ⟨g, 0, none⟩) m c)).run Try.prog (W.drewN n) = .ok (.string S) (W.drewN n)) ∧
      (∀ n : Nat, (convert 22 9 (.slice (some ⟨g', 0, none⟩) m c')).run Try.prog (W.drewN n) = .ok (.string S) (W.drewN n)) := by
  have hz3 : ∀ i, i < na + lb → 0 ≤ (fun i => if i < na then Za i else Zb (i - na)) i ∧ (fun i => if i < na then Za i else Zb (i - na)) i < 256 := by
    intro i hi
    show 0 ≤ (if i < na then Za i else Zb (i - na)) ∧ (if i < na then Za i else Zb (i - na)) < 256
    split
    · exact hza i ‹_›
    · exact hzb _ (by omega)
  have hd : ∀ {a : Option Addr} {l c : Nat} {Z : Nat → Int} (n : Nat), Bs W a l c Z → Bs (W.drewN n) a l c Z := fun n h => ⟨h.here, h.old, h.cell, h.byte⟩
  obtain ⟨g, c, e3, b3⟩ := D3.piece hz3 k (by rw [cnt_add _ _ hna]; exact hk)
  by_cases h1 : k < cnt na
  · obtain ⟨g', c', e1, b1⟩ := D1.piece hza k h1
    have hm : min 256 (na - 256 * k) = min 256 (na + lb - 256 * k) := by unfold cnt at h1; omega
    rw [hm] at e1 b1
    refine ⟨g, c, g', c', _, _, e3, ?_, fun n => (hd n b3).conv, fun n => ?_⟩
    · rw [List.getElem?_append_left (by rw [D1.length]; exact h1)]; exact e1
    · rw [lst_congr (Z' := fun i => Za (256 * k + i)) (fun i hi => ?_)]
      · exact (hd n b1).conv
      · show (if 256 * k + i < na then Za (256 * k + i) else Zb (256 * k + i - na)) = _
        rw [if_pos (by unfold cnt at h1; omega)]
  · obtain ⟨g', c', e1, b1⟩ := D2.piece hzb (k - cnt na) (by omega)
    have hm : min 256 (lb - 256 * (k - cnt na)) = min 256 (na + lb - 256 * k) := by unfold cnt at h1 ⊢; omega
    rw [hm] at e1 b1
    refine ⟨g, c, g', c', _, _, e3, ?_, fun n => (hd n b3).conv, fun n => ?_⟩
    · rw [List.getElem?_append_right (by rw [D1.length]; omega), D1.length]; exact e1
    · rw [lst_congr (Z' := fun i => Zb (256 * (k - cnt na) + i)) (fun i hi => ?_)]
      · exact (hd n b1).conv
      · show (if 256 * k + i < na then Za (256 * k + i) else Zb (256 * k + i - na)) = _
        rw [if_neg (by unfold cnt at h1; omega)]
        congr 1
        unfold cnt at h1 ⊢
        omega

set_option maxRecDepth 100000 in
set_option maxHeartbeats 2000000 in
theorem walk_small (x : Addr) (la ca : Nat) (Za : Nat → Int) (b : Option Addr) (lb cb : Nat) (Zb : Nat → Int) (W : World) (ha : Bs W (some x) la ca Za) (hb : Bs W b lb cb Zb) (hla : la ≤ 1500) (hlb : lb ≤ 1500) :
    Calls Try.prog 3 #[.slice (some x) la ca, .slice b lb cb] W fun e w' => e = .returned (.bool true) ∧ Below W.heap.size W w' := by
  have b1 : decide ((1500 : Int) < (la : Int)) = false := decide_eq_false (by omega)
  have b2 : decide ((1500 : Int) < (lb : Int)) = false := decide_eq_false (by omega)
  have b3 : ¬ (1500 < la) := by omega
  have b4 : ¬ (1500 < lb) := by omega
  have f1 : (la : Int).tdiv 256 = ((la / 256 : Nat) : Int) := by rw [Int.tdiv_eq_ediv_of_nonneg (by omega)]; omega
  have f2 : IntKind.i64.wrap (((la / 256 : Nat) : Int) * 256) = ((la / 256 * 256 : Nat) : Int) := by rw [IntKind.wrap_i64]; omega
  have HA := Lib.hid ha
  have HB := Lib.hid hb
  clear ha hb
  go_enter Try.func3, Try.ntmps3
  go_wp2_with fail
  refine (awake_any _).mono ?_
  rintro e w1 ⟨rfl, hw1⟩
  have HW1 := Lib.hid hw1
  clear hw1
  have f3 : (0 : Int) ≤ (la : Int) / 256 * 256 := by omega
  have f4 : (la : Int) / 256 * 256 ≤ (ca : Int) := by
    rcases HA.out.here with ⟨h, _⟩ | ⟨_, _, h, _⟩
    · cases h
    · omega
  go_wp2_with fail
  have ha1 : Bs W (some x) (la / 256 * 256) ca Za := Bs.shorter HA.out (by omega)
  obtain ⟨na, hna⟩ : ∃ n, la / 256 * 256 = n := ⟨_, rfl⟩
  have hn1 : na ≤ 1500 := by omega
  have hn2 : na = 256 * (na / 256) := by omega
  rw [hna] at ha1
  rw [hna]
  clear f1 f2 f3 f4 b1 b2 b3 b4 hna HA
  have HA := Lib.hid ha1
  have HN := Lib.hid hn2
  clear ha1 hn2
  refine (cut_any (HA.out.below HW1.out (Nat.le_refl _)) (by omega)).mono ?_
  rintro e w2 ⟨v1, vs1, rfl, p1, p2, hb2⟩
  have C1 : Hid (Cutted w1.heap.size Za na v1 vs1 w2) := ⟨p1, p2⟩
  have HW2 : Hid (Below W.heap.size W w2) := HW1.out.trans (hb2.mono HW1.out.size)
  clear p1 p2 hb2
  go_wp2_with fail
  refine (cut_any (HB.out.below HW2.out (Nat.le_refl _)) (by omega)).mono ?_
  rintro e w3 ⟨v2, vs2, rfl, q1, q2, hb3⟩
  have C2 : Hid (Cutted w2.heap.size Zb lb v2 vs2 w3) := ⟨q1, q2⟩
  have C1' : Hid (Cutted w1.heap.size Za na v1 vs1 w3) := C1.out.below hb3
  have HW3 : Hid (Below W.heap.size W w3) := HW2.out.trans (hb3.mono HW2.out.size)
  clear q1 q2 hb3 C1
  obtain ⟨g1, c1, w4, g2, c2, w5, r1, r2, hbs, hb5⟩ := two (HA.out.below HW3.out (Nat.le_refl _)) (HB.out.below HW3.out (Nat.le_refl _)) (by omega) (by omega)
  have HBS := Lib.hid hbs
  have HW5 : Hid (Below W.heap.size W w5) := HW3.out.trans (hb5.mono HW3.out.size)
  have C1'' : Hid (Cutted w1.heap.size Za na v1 vs1 w5) := C1'.out.below hb5
  have C2' : Hid (Cutted w2.heap.size Zb lb v2 vs2 w5) := C2.out.below hb5
  clear hbs hb5 C1' C2
  go_wp2_with (first | (at_builtin; refine App.wpList_run rfl (.tmp 33) (.tmp 34) _ _ rfl rfl rfl r1 ?_) | (at_builtin; refine App.wpList_run rfl (.tmp 35) (.tmp 36) _ _ rfl rfl rfl r2 ?_))
  clear r1 r2
  refine (cut_any HBS.out (by omega)).mono ?_
  rintro e w6 ⟨v3, vs3, rfl, q1, q2, hb6⟩
  have D3 : Hid (Cutted w5.heap.size _ (na + lb) v3 vs3 w6) := ⟨q1, q2⟩
  have D1 : Hid (Cutted w1.heap.size Za na v1 vs1 w6) := C1''.out.below hb6
  have D2 : Hid (Cutted w2.heap.size Zb lb v2 vs2 w6) := C2'.out.below hb6
  have HW6 : Hid (Below W.heap.size W w6) := HW5.out.trans (hb6.mono HW5.out.size)
  clear q1 q2 hb6 C1'' C2' HBS HW5 HW3 HW2 HW1
  obtain ⟨a1, k1, rfl⟩ := D1.out.form
  obtain ⟨a2, k2, rfl⟩ := D2.out.form
  obtain ⟨a3, k3, rfl⟩ := D3.out.form
  have hc3 := cnt_add na lb HN.out
  obtain ⟨n1, hn1'⟩ : ∃ n, cnt na = n := ⟨_, rfl⟩
  obtain ⟨n2, hn2'⟩ : ∃ n, cnt lb = n := ⟨_, rfl⟩
  have hb1 : n1 ≤ 10 := by rw [← hn1']; unfold cnt; omega
  have hb2 : n2 ≤ 10 := by rw [← hn2']; unfold cnt; omega
  obtain ⟨x1, y1, gg, cc, w7, r1, r2, o7, hb7⟩ := two_rows D1.out.1 D2.out.1 D1.out.ones D2.out.ones (by omega) (by omega)
  have HW7 : Hid (Below W.heap.size W w7) := HW6.out.trans (hb7.mono HW6.out.size)
  have E1 : Hid (Cutted w1.heap.size Za na _ vs1 w7) := D1.out.below hb7
  have E2 : Hid (Cutted w2.heap.size Zb lb _ vs2 w7) := D2.out.below hb7
  have E3 : Hid (Cutted w5.heap.size _ (na + lb) _ vs3 w7) := D3.out.below hb7
  have O7 := Lib.hid o7
  clear hb7 D1 D2 D3 o7 HW6
  rw [hn1'] at r1
  rw [hn1', hn2'] at r2
  rw [hn1', hn2', hc3, hn1', hn2']
  have HN1 := Lib.hid hn1'
  have HN2 := Lib.hid hn2'
  clear hn1' hn2' hc3
  have hne : ((n1 + n2 : Nat) : Int) = (n1 : Int) + (n2 : Int) := by omega
  go_wp2_with (first | (at_builtin; refine App.wpList_run rfl (.tmp 47) (.tmp 48) _ _ rfl rfl rfl r1 ?_) | (at_builtin; refine App.wpList_run rfl (.tmp 49) (.tmp 50) _ _ rfl rfl rfl r2 ?_))
  clear r1 r2
  go_loopw [8, 9, 53] (fun s8 s9 i wr => ∃ k : Nat, k ≤ n1 + n2 ∧ i = .int .i64 (k : Int) ∧ Hid (Below w7.heap.size w7 wr)) (fun _ _ i _ => n1 + n2 - (intOf i).toNat)
  case atStart => exact ⟨0, Nat.zero_le _, rfl, Below.refl _ _⟩
  case round =>
    obtain ⟨k, hk, rfl, HR⟩ := hrel
    by_cases hlt : k < n1 + n2
    · obtain ⟨g3, c3, he, hcell3⟩ := E3.out.cell (by rw [cnt_add _ _ HN.out, HN1.out, HN2.out]; omega)
      have hck : k < cnt na + cnt lb := by rw [HN1.out, HN2.out]; exact hlt
      obtain ⟨g, c, g', c', m, S, e3, e12, cv3, cv12⟩ := same_piece HN.out (fun i hi => HA.out.byte i hi) (fun i hi => HB.out.byte i hi) (E1.out.below (HR.out)) (E2.out.below HR.out) (E3.out.below HR.out) k hck
      have ha3 : a3 = some ⟨g3, 0, none⟩ := by injection he
      subst ha3
      have z1 := hcell3 k _ e3
      have z2 := O7.out.cells (g := gg) rfl k _ e12
      rw [own_add] at z2
      have z3 : wr.cell? ⟨g3, k, none⟩ = _ := (HR.out.cell (p := ⟨g3, k, none⟩) (cell_lt z1)).trans z1
      have z4 : wr.cell? ⟨gg, k, none⟩ = _ := (HR.out.cell (p := ⟨gg, k, none⟩) (cell_lt z2)).trans z2
      have cw3 := cv3 1
      have cw12 := cv12 1
      rw [show wr.drewN 1 = wr.drew from rfl] at cw3 cw12
      clear z1 z2 hcell3 e3 e12 he cv3 cv12 hck
      have b1 : decide ((k : Int) < (n1 : Int) + (n2 : Int)) = true := decide_eq_true (by omega)
      have b2 : (0 : Int) ≤ (k : Int) := by omega
      have b3 : (k : Int) < (n1 : Int) + (n2 : Int) := by omega
      go_wp2_with fail
      go_region
      clear cw3 cw12 z3 z4
      go_wp2_with fail
      go_roundw
      case rel => exact ⟨k + 1, by omega, by go_num, HR.out.drew⟩
      case measure => simp [intOf]; omega
    · obtain rfl : k = n1 + n2 := by omega
      have b1 : decide (((n1 + n2 : Nat) : Int) < (n1 : Int) + (n2 : Int)) = false := decide_eq_false (by omega)
      go_wp2_with fail
      go_ret
      exact ⟨rfl, HW7.out.trans (HR.out.mono HW7.out.size)⟩

set_option maxRecDepth 100000 in
set_option maxHeartbeats 2000000 in
theorem walk_great (a b : Option Addr) (la ca lb cb : Nat) (W : World) (h : 1500 < la ∨ 1500 < lb) (hla : la ≤ 9223372036854775807) (hlb : lb ≤ 9223372036854775807) :
    Calls Try.prog 3 #[.slice a la ca, .slice b lb cb] W fun e w' => e = .returned (.bool true) ∧ Below W.heap.size W w' := by
  by_cases h1 : 1500 < la
  · have b1 : decide ((1500 : Int) < (la : Int)) = true := decide_eq_true (by omega)
    go_enter Try.func3, Try.ntmps3
    go_wp2_with fail
    refine (awake_any _).mono ?_
    rintro e w1 ⟨rfl, hw1⟩
    have HW1 := Lib.hid hw1
    clear hw1
    go_wp2_with fail
    refine (awake_any _).mono ?_
    rintro e w2 ⟨rfl, hw2⟩
    have HW2 : Hid (Below W.heap.size W w2) := HW1.out.trans (hw2.mono HW1.out.size)
    clear hw2
    go_wp2_with fail
    go_ret
    exact ⟨rfl, HW2.out⟩
  · have b1 : decide ((1500 : Int) < (la : Int)) = false := decide_eq_false (by omega)
    have b2 : decide ((1500 : Int) < (lb : Int)) = true := decide_eq_true (by omega)
    have h2 : 1500 < lb := by omega
    go_enter Try.func3, Try.ntmps3
    go_wp2_with fail
    refine (awake_any _).mono ?_
    rintro e w1 ⟨rfl, hw1⟩
    have HW1 := Lib.hid hw1
    clear hw1
    go_wp2_with fail
    refine (awake_any _).mono ?_
    rintro e w2 ⟨rfl, hw2⟩
    have HW2 : Hid (Below W.heap.size W w2) := HW1.out.trans (hw2.mono HW1.out.size)
    clear hw2
    go_wp2_with fail
    go_ret
    exact ⟨rfl, HW2.out⟩
end Rc
end Go.Proofs.Ytnljfhoibkeloaa
