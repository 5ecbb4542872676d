/- Contracts for package path: the pieces of a text between slashes (the library's iterator SplitSeq). -/
import Derived.Test.YtjnpmabnnbngeaaDoorPathN
import Derived.Test.YtjnpmabnnbngeaaDoorRange
import Derived.Sort.LoopGhostIn
import Derived.OneCell
namespace Go.Proofs.YtjnpmabnnbngeaaDoor
open Go.RowKit Go.Shelf
set_option linter.unusedVariables false
set_option linter.unusedSimpArgs false
attribute [local go_sem] Oper.semAt_some
namespace Pa
abbrev tl (s : ByteArray) : List UInt8 := s.data.toList
/-- The pieces between slashes. -/
def parts : List UInt8 → List (List UInt8)
  | [] => [[]]
  | b :: l => if b = 47 then [] :: parts l else match parts l with | [] => [[b]] | p :: ps => (b :: p) :: ps
theorem parts_cons (b : UInt8) (l : List UInt8) : parts (b :: l) = if b = 47 then [] :: parts l else match parts l with | [] => [[b]] | p :: ps => (b :: p) :: ps := rfl
theorem parts_ne : ∀ l, parts l ≠ []
  | [] => by simp [parts]
  | b :: l => by unfold parts; split; simp; split <;> simp
theorem parts_none : ∀ l, Lib.indexByte l 47 = -1 → parts l = [l]
  | [], _ => rfl
  | b :: l, h => by
    unfold Lib.indexByte at h
    by_cases hb : b = 47
    · subst hb; simp at h
    · have hbb : (b == 47) = false := by simpa using hb
      rw [hbb] at h
      by_cases hl : Lib.indexByte l 47 = -1
      · rw [parts_cons, if_neg hb, parts_none l hl]
      · simp [hl] at h
        have : 0 ≤ Lib.indexByte l 47 ∨ Lib.indexByte l 47 = -1 := by
          clear h hl hbb hb b
          induction l with
          | nil => right; rfl
          | cons c l ih => unfold Lib.indexByte; split; left; omega; split; right; rfl; left; rcases ih with h | h; omega; simp_all
        omega
theorem index_range : ∀ l, Lib.indexByte l 47 = -1 ∨ (0 ≤ Lib.indexByte l 47 ∧ Lib.indexByte l 47 < l.length)
  | [] => .inl rfl
  | b :: l => by
    unfold Lib.indexByte
    split
    · right; simp
    · rcases index_range l with h | ⟨h1, h2⟩
      · left; simp [h]
      · right
        have : (Lib.indexByte l 47 == -1) = false := by rw [beq_eq_false_iff_ne]; omega
        rw [this]; simp; omega
theorem parts_some : ∀ l (k : Nat), Lib.indexByte l 47 = (k : Int) → parts l = l.take k :: parts (l.drop (k + 1))
  | [], k, h => by simp [Lib.indexByte] at h
  | b :: l, k, h => by
    unfold Lib.indexByte at h
    by_cases hb : b = 47
    · subst hb
      simp at h
      obtain rfl : k = 0 := by omega
      simp [parts]
    · have hbb : (b == 47) = false := by simpa using hb
      rw [hbb] at h
      rcases index_range l with hl | ⟨h1, h2⟩
      · simp [hl] at h
      · have : (Lib.indexByte l 47 == -1) = false := by rw [beq_eq_false_iff_ne]; omega
        rw [this] at h
        simp at h
        obtain ⟨m, rfl⟩ : ∃ m, k = m + 1 := ⟨k - 1, by omega⟩
        have ih := parts_some l m (by omega)
        rw [parts_cons, if_neg hb, ih]
        rfl

theorem extract_upto (s : ByteArray) (k : Nat) : tl (s.extract 0 k) = (tl s).take k := by
  simp [tl, ByteArray.data_extract]
set_option maxHeartbeats 400000 in
theorem splitSeq_any (s : ByteArray) (w : World) :
    Calls Tryd.prog 68 #[.string s, .string ⟨#[47]⟩] w fun e w' => e = .returned (.func (.func 137) #[] #[.pointer (some ⟨w.heap.size + 1, 0, none⟩), .pointer (some ⟨w.heap.size, 0, none⟩), .pointer (some ⟨w.heap.size + 2, 0, none⟩)]) ∧
      w' = ((w.alloc (.cells #[.string s] 9)).alloc (.cells #[.string ⟨#[47]⟩] 9)).alloc (.cells #[.int .i64 0] 3) := by
  go_enter Tryd.func68, Tryd.ntmps68
  go_wp2
  go_ret
  exact ⟨rfl, rfl⟩

/-- The three cells of the iterator. -/
structure Cells (Bsep Bs Bv : Nat) (t : ByteArray) (W : World) : Prop where
  sep : W.heap[Bsep]? = some (.cells #[.string ⟨#[47]⟩] 9 (0, 0))
  str : W.heap[Bs]? = some (.cells #[.string t] 9 (0, 0))
  sav : W.heap[Bv]? = some (.cells #[.int .i64 0] 3 (0, 0))
def Keep (Bsep Bs Bv : Nat) (W W' : World) : Prop := W'.heap[Bsep]? = W.heap[Bsep]? ∧ W'.heap[Bs]? = W.heap[Bs]? ∧ W'.heap[Bv]? = W.heap[Bv]?
theorem Cells.keep {Bsep Bs Bv : Nat} {t : ByteArray} {W W' : World} (h : Cells Bsep Bs Bv t W) (k : Keep Bsep Bs Bv W W') : Cells Bsep Bs Bv t W' :=
  ⟨k.1.trans h.sep, k.2.1.trans h.str, k.2.2.trans h.sav⟩

set_option maxRecDepth 100000 in
set_option maxHeartbeats 2000000 in
theorem split_iter (n Bsep Bs Bv : Nat) (hn : 1 ≤ n) (s : ByteArray) (w : World) (h1 : Bsep < w.heap.size) (h2 : Bs < w.heap.size) (h3 : Bv < w.heap.size) (d1 : Bsep ≠ Bs) (d2 : Bv ≠ Bs) (hc : Cells Bsep Bs Bv s w) (hs0 : s.size ≤ 9223372036854775807) :
    Rg.Iter Fence.wide n Tryd.prog 137 #[.pointer (some ⟨Bsep, 0, none⟩), .pointer (some ⟨Bs, 0, none⟩), .pointer (some ⟨Bv, 0, none⟩)] (fun x : ByteArray => #[Value.string x])
      (Keep Bsep Bs Bv) (fun ys => ys.map tl = parts (tl s)) (fun ys => ys.map tl <+: parts (tl s)) (parts (tl s)).length (fun b => b = Bs) w := by
  intro l J Jx W hW hJ hJx hbl hY h0
  have hc0 : Cells Bsep Bs Bv s W := ⟨(hW.block _ h1).trans hc.sep, (hW.block _ h2).trans hc.str, (hW.block _ h3).trans hc.sav⟩
  have HC0 := Lib.hid hc0
  have c1 := cell_of_one hc0.sep
  have c2 := cell_of_one hc0.str
  have c3 := cell_of_one hc0.sav
  clear hc0
  refine callsIn_of_wp Tryd.func137 rfl trivial ?_ rfl
  simp only [Tryd.ntmps137, List.size_toArray, List.length_cons, List.length_nil, Nat.reduceAdd, Nat.reduceSub, Array.replicate_succ, Array.replicate_zero, List.push_toArray, List.append_toArray, List.nil_append, List.cons_append]
  gi_wp2_with fail
  gi_loopg [7, 8] s.size (fun gf _ _ wr => ∃ (pre : List ByteArray) (t : ByteArray), Cells Bsep Bs Bv t wr ∧ J pre wr ∧ pre.map tl ++ parts (tl t) = parts (tl s) ∧ t.size ≤ gf ∧ t.size ≤ s.size)
  case atStart => exact ⟨[], s, HC0.out, h0, by simp, Nat.le_refl _, Nat.le_refl _⟩
  case round =>
    obtain ⟨pre, t, hct, hJp, hpp, hsz, hts⟩ := hrel
    have hne := parts_ne (tl t)
    have hlen : pre.length < (parts (tl s)).length := by
      rw [← hpp]; simp; exact List.length_pos_iff.2 hne
    have k1 := cell_of_one hct.sep
    have k2 := cell_of_one hct.str
    have k3 := cell_of_one hct.sav
    have f2 := free_of_one hct.str
    have HCT := Lib.hid hct
    have HPP := Lib.hid hpp
    clear hct hpp c1 c2 c3 hne
    rcases index_range (tl t) with hi | ⟨hi1, hi2⟩
    · have hin := Tryd.strings_Index_one t 47 wr
      rw [hi] at hin
      have HI := Lib.hid hi
      clear hi
      obtain ⟨fn, tmps, assign, body, hy, hR⟩ := hY pre t wr hJp hlen
      gi_wp2_with fail
      refine ⟨trivial, ?_⟩
      refine (callsIn_wide.2 hin).mono ?_
      rintro e w' ⟨rfl, hw⟩
      subst hw
      gi_wp2_with fail
      refine hR.mono ?_
      rintro e W3 (⟨rfl, hJ3, hk3⟩ | ⟨rfl, hJx3⟩)
      · gi_wp2_with fail
        go_end0
        refine ⟨⟨_, rfl⟩, .inl ⟨_, ?_, hJ3⟩⟩
        rw [← HPP.out, parts_none _ HI.out]; simp
      · gi_wp2_with fail
        go_end0
        refine ⟨⟨_, rfl⟩, .inr ⟨_, ?_, hJx3⟩⟩
        rw [← HPP.out, parts_none _ HI.out]; simp
    · obtain ⟨k, hk⟩ : ∃ k : Nat, Lib.indexByte (tl t) 47 = (k : Int) := ⟨(Lib.indexByte (tl t) 47).toNat, by omega⟩
      have hkl : k < t.size := by rw [hk] at hi2; simpa using hi2
      have hin := Tryd.strings_Index_one t 47 wr
      rw [hk] at hin
      have HK := Lib.hid hk
      have hlen2 : (parts ((tl t).drop (k + 1))).length + (pre.length + 1) = (parts (tl s)).length := by
        rw [← HPP.out, parts_some _ k hk]; simp; omega
      clear hi1 hi2 hk
      obtain ⟨gk', rfl⟩ : ∃ m, gk = m + 1 := ⟨gk - 1, by omega⟩
      obtain ⟨fn, tmps, assign, body, hy, hR⟩ := hY pre (t.extract 0 k) wr hJp hlen
      gi_wp2_with fail
      refine ⟨trivial, ?_⟩
      refine (callsIn_wide.2 hin).mono ?_
      rintro e w' ⟨rfl, hw⟩
      subst hw
      gi_wp2_with fail
      refine hR.mono ?_
      rintro e W3 (⟨rfl, hJ3, hk3⟩ | ⟨rfl, hJx3⟩)
      · have hct3 := HCT.out.keep hk3
        have q1 := cell_of_one hct3.sep
        have q2 := cell_of_one hct3.str
        have q3 := cell_of_one hct3.sav
        have g2 := free_of_one hct3.str
        have HCT3 := Lib.hid hct3
        clear hct3 hk3 k1 k2 k3 f2
        have e1 : tl (t.extract 0 k) = (tl t).take k := extract_upto t k
        have e2 : tl (t.extract (k + 1) t.size) = (tl t).drop (k + 1) := Lib.extract_to_end t (k + 1)
        have e3 : (t.extract (k + 1) t.size).size = t.size - (k + 1) := by simp
        have E1 := Lib.hid e1
        have E2 := Lib.hid e2
        have E3 := Lib.hid e3
        clear e1 e2 e3
        gi_wp2_with fail
        go_roundg gk'
        case measure => omega
        case rel =>
          refine ⟨pre ++ [t.extract 0 k], t.extract (k + 1) t.size, ⟨?_, ?_, ?_⟩, hbl _ _ _ _ rfl hJ3, ?_, ?_, ?_⟩
          · exact (Below.heap_setCell _ _ _ _ d1).trans HCT3.out.sep
          · exact one_setCell HCT3.out.str
          · exact (Below.heap_setCell _ _ _ _ d2).trans HCT3.out.sav
          · rw [← HPP.out, parts_some _ _ HK.out, List.map_append, E2.out]
            simp [E1.out]
          · rw [E3.out]; omega
          · rw [E3.out]; omega
      · have e1 : tl (t.extract 0 k) = (tl t).take k := extract_upto t k
        have E1 := Lib.hid e1
        clear e1
        gi_wp2_with fail
        refine bodyPost_ret (results_none rfl _ _ _) rfl ?_
        refine ⟨⟨_, rfl⟩, .inr ⟨_, ?_, hJx3⟩⟩
        rw [← HPP.out, parts_some _ _ HK.out, List.map_append]
        simp [E1.out]
end Pa
end Go.Proofs.YtjnpmabnnbngeaaDoor
