/- The contract for path.First. -/
import Derived.Test.YtjnpmabnnbngeaaDoorPathC
import Derived.Deep.LoopGhost
namespace Go.Proofs.YtjnpmabnnbngeaaDoor
open Go.RowKit Go.Shelf
set_option linter.unusedVariables false
set_option linter.unusedSimpArgs false
namespace Pa
theorem cell_lt {W : World} {q : Addr} {v : Value} (h : W.cell? q = some v) : q.block < W.heap.size := by
  unfold World.cell? at h
  cases hh : W.heap[q.block]? with
  | none => rw [hh] at h; cases h
  | some o => exact (Array.getElem?_eq_some_iff.1 hh).1
/-- A row of texts in memory. -/
def StrRow (W : World) (a : Option Addr) (len cap : Nat) (Z : Nat → ByteArray) : Prop :=
  (a = none ∧ len = 0 ∧ cap = 0) ∨ ∃ p : Addr, a = some p ∧ (0 < len → p.block < W.heap.size) ∧ len ≤ cap ∧ cap ≤ maxLen ∧ ∀ i, i < len → W.cell? (p.add i) = some (.string (Z i)) ∧ (Z i).size ≤ maxLen
theorem StrRow.below {W W' : World} {a : Option Addr} {len cap : Nat} {Z : Nat → ByteArray} (h : StrRow W a len cap Z) (hb : Below W.heap.size W W') : StrRow W' a len cap Z := by
  rcases h with h | ⟨p, rfl, h1, h2, h3, h4⟩
  · exact .inl h
  · exact .inr ⟨p, rfl, fun h => Nat.lt_of_lt_of_le (h1 h) hb.size, h2, h3, fun i hi => ⟨(hb.cell (p := p.add i) (by unfold Addr.add; split <;> exact h1 (by omega))).trans (h4 i hi).1, (h4 i hi).2⟩⟩

/-- Are they the same, or does one lie in the other? -/
def hitB (a b : ByteArray) : Bool := (tl a == tl b) || (inB (tl a) (tl b) || inB (tl b) (tl a))
/-- What First tells. -/
def Firsts (n : Nat) (Z : Nat → ByteArray) (a b : ByteArray) (ok : Bool) : Prop :=
  (ok = false ∧ a = ⟨#[]⟩ ∧ b = ⟨#[]⟩ ∧ ∀ k i, k < n → i < k → hitB (Z i) (Z k) = false) ∨
  (ok = true ∧ ∃ k i, k < n ∧ i < k ∧ a = Z i ∧ b = Z k ∧ hitB (Z i) (Z k) = true ∧ (∀ k' i', k' < k → i' < k' → hitB (Z i') (Z k') = false) ∧ ∀ i', i' < i → hitB (Z i') (Z k) = false)

def FirstPost (n : Nat) (Z : Nat → ByteArray) (w : World) (e : Ending) (w' : World) : Prop :=
  ∃ a b ok, e = .returned (.tuple #[.string a, .string b, .bool ok]) ∧ Firsts n Z a b ok ∧ w = w'
theorem toList_ne {X Y : ByteArray} (h : X ≠ Y) : X.toList ≠ Y.toList := fun e => h (by
  rw [ByteArray.toList_eq, ByteArray.toList_eq] at e
  exact ByteArray.ext (Array.toList_inj.1 e))
theorem hit_eq (X : ByteArray) : hitB X X = true := by unfold hitB; simp
theorem hit_ne {X Y : ByteArray} (h : X ≠ Y) : hitB X Y = (inB (tl X) (tl Y) || inB (tl Y) (tl X)) := by
  have := toList_ne h
  rw [ByteArray.toList_eq, ByteArray.toList_eq] at this
  unfold hitB
  rw [beq_eq_false_iff_ne.2 this, Bool.false_or]

set_option maxHeartbeats 2000000 in
theorem first_any (p : Addr) (len cap : Nat) (Z : Nat → ByteArray) (h1 : len ≤ 30) (h2 : len ≤ cap) (w : World) (hz : ∀ i, i < len → w.cell? (p.add i) = some (.string (Z i)) ∧ (Z i).size ≤ 1000000) :
    Calls Tryd.prog 19 #[.slice (some p) len cap] w (FirstPost len Z w) := by
  have HZ := Lib.hid hz
  clear hz
  go_enter Tryd.func19, Tryd.ntmps19
  go_wp2_with fail
  go_loopg [11] len (fun gf o wx => ∃ k : Nat, o = .int .i64 k ∧ wx = w ∧ k + gf = len ∧ Hid (∀ k' i', k' < k → i' < k' → hitB (Z i') (Z k') = false))
  case atStart => exact ⟨0, rfl, rfl, by omega, fun _ _ h => absurd h (Nat.not_lt_zero _)⟩
  case round =>
    obtain ⟨k, rfl, rfl, hg, HN⟩ := hrel
    by_cases hk : k < len
    · have b1 : decide (k < len) = true := decide_eq_true hk
      obtain ⟨g', rfl⟩ : ∃ g', gk = g' + 1 := ⟨gk - 1, by omega⟩
      have hc := (HZ.out k hk).1
      have HYs := Lib.hid (HZ.out k hk).2
      have hkc : k ≤ cap := by omega
      obtain ⟨Y, hY⟩ : ∃ Y, Z k = Y := ⟨_, rfl⟩
      rw [hY] at hc HYs
      have HY := Lib.hid hY
      clear hY
      go_wp2_with fail
      go_loopg [20] k (fun gf o wx => ∃ i : Nat, o = .int .i64 i ∧ wx = wr ∧ i + gf = k ∧ Hid (∀ i', i' < i → hitB (Z i') Y = false))
      case atStart => exact ⟨0, rfl, rfl, by omega, fun _ h => absurd h (Nat.not_lt_zero _)⟩
      case round =>
        obtain ⟨i, rfl, rfl, hg2, HM⟩ := hrel
        by_cases hi : i < k
        · have b2 : decide (i < k) = true := decide_eq_true hi
          rename_i gk2
          obtain ⟨g2, rfl⟩ : ∃ g', gk = g' + 1 := ⟨gk - 1, by omega⟩
          have hx := (HZ.out i (by omega)).1
          have HXs := Lib.hid (HZ.out i (by omega)).2
          obtain ⟨X, hX⟩ : ∃ X, Z i = X := ⟨_, rfl⟩
          rw [hX] at hx HXs
          have HX := Lib.hid hX
          clear hX
          by_cases hq : X = Y
          · subst hq
            go_wp2_with fail
            refine bodyPost_ret (v := .tuple #[.string X, .string X, .bool true]) (by simp [results, Tryd.f19, go_sem]) rfl ?_
            exact ⟨X, X, true, rfl, .inr ⟨rfl, k, i, hk, hi, HX.out.symm, HY.out.symm, by rw [HX.out, HY.out]; exact hit_eq X, HN.out, fun i' h => by rw [HY.out]; exact HM.out i' h⟩, rfl⟩
          · have hq1 := toList_ne hq
            have hq2 : (X.toList == Y.toList) = false := beq_eq_false_iff_ne.2 hq1
            have cc := fun w => clash_any X Y HXs.out HYs.out w
            have hh := hit_ne hq
            rw [← hh] at cc
            cases hb : hitB X Y with
            | true =>
              rw [hb] at cc
              have HH := Lib.hid hb
              have CC := Lib.hid cc
              clear hb cc hh
              go_wp2_with fail
              refine (CC.out _).mono ?_
              rintro e w' ⟨rfl, rfl⟩
              go_wp2_with fail
              refine bodyPost_ret (v := .tuple #[.string X, .string Y, .bool true]) (by simp [results, Tryd.f19, go_sem]) rfl ?_
              exact ⟨X, Y, true, rfl, .inr ⟨rfl, k, i, hk, hi, HX.out.symm, HY.out.symm, by rw [HX.out, HY.out]; exact HH.out, HN.out, fun i' h => by rw [HY.out]; exact HM.out i' h⟩, rfl⟩
            | false =>
              rw [hb] at cc
              have HH := Lib.hid hb
              have CC := Lib.hid cc
              clear hb cc hh
              go_wp2_with fail
              refine (CC.out _).mono ?_
              rintro e w' ⟨rfl, rfl⟩
              go_wp2_with fail
              go_roundg g2
              case measure => omega
              case rel => exact ⟨i + 1, rfl, rfl, by omega, fun i' h => by
                rcases Nat.lt_succ_iff_lt_or_eq.1 h with h' | rfl
                · exact HM.out i' h'
                · rw [HX.out]; exact HH.out⟩
        · have b2 : decide (i < k) = false := decide_eq_false hi
          go_wp2_with fail
          go_roundg g'
          case measure => omega
          case rel => exact ⟨k + 1, rfl, rfl, by omega, fun k' i' h h' => by
            rcases Nat.lt_succ_iff_lt_or_eq.1 h with h2 | rfl
            · exact HN.out k' i' h2 h'
            · rw [HY.out]; exact HM.out i' (by omega)⟩
    · have b1 : decide (k < len) = false := decide_eq_false hk
      have hke : k = len := by omega
      go_wp2_with fail
      refine bodyPost_ret (v := .tuple #[.string ⟨#[]⟩, .string ⟨#[]⟩, .bool false]) (by simp [results, Tryd.f19, go_sem]) rfl ?_
      exact ⟨⟨#[]⟩, ⟨#[]⟩, false, rfl, .inl ⟨rfl, rfl, rfl, fun k' i' h h' => HN.out k' i' (by omega) h'⟩, rfl⟩

set_option maxHeartbeats 400000 in
theorem first_none (Z : Nat → ByteArray) (w : World) :
    Calls Tryd.prog 19 #[.slice none 0 0] w (FirstPost 0 Z w) := by
  go_enter Tryd.func19, Tryd.ntmps19
  go_wp2_with fail
  refine wp_loop_once ?_
  go_wp2_with fail
  refine bodyPost_ret (v := .tuple #[.string ⟨#[]⟩, .string ⟨#[]⟩, .bool false]) (by simp [results, Tryd.f19, go_sem]) rfl ?_
  exact ⟨⟨#[]⟩, ⟨#[]⟩, false, rfl, .inl ⟨rfl, rfl, rfl, fun k' i' h h' => absurd h (Nat.not_lt_zero _)⟩, rfl⟩
end Pa
end Go.Proofs.YtjnpmabnnbngeaaDoor
