/- The contract for the decimal text of a number (reference of layer 7). -/
import Derived.Test.YtjnpmabnnbngeaaDoorPathK
import Derived.Lib.AppendIntMem
import Derived.Deep.RegionHeld3
import Derived.IntWalk
import Derived.Lib.SlBytesRow
namespace Go.Proofs.YtjnpmabnnbngeaaDoor
open Go.RowKit Go.Shelf
set_option linter.unusedVariables false
set_option linter.unusedSimpArgs false
namespace Pa
theorem dec_small (n : Nat) (h : n < 10) : Lib.decDigits n = [UInt8.ofNat (48 + n)] := by
  unfold Lib.decDigits; rw [dif_pos h]
theorem dec_more (n : Nat) (h : ¬ n < 10) : Lib.decDigits n = Lib.decDigits (n / 10) ++ [UInt8.ofNat (48 + n % 10)] := by
  rw [Lib.decDigits, dif_neg h]
theorem dec_le : ∀ (k u : Nat), u < 10 ^ (k + 1) → (Lib.decDigits u).length ≤ k + 1
  | 0, u, h => by rw [dec_small u (by simpa using h)]; simp
  | k + 1, u, h => by
    by_cases hu : u < 10
    · rw [dec_small u hu]; simp
    · rw [dec_more u hu, List.length_append]
      have := dec_le k (u / 10) (by rw [Nat.pow_succ] at h; omega)
      simp; omega
theorem chain {n : Nat} {w a b : World} (h : Hid (Below n w a)) (k : Below a.heap.size a b) (hn : n ≤ w.heap.size := by exact Nat.le_refl _) : Hid (Below n w b) := h.out.trans (k.mono (Nat.le_trans hn h.out.size))
theorem drew_hid {n : Nat} {w a : World} (h : Hid (Below n w a)) : Hid (Below n w a.drew) := h.out.drew
theorem alloc_hid {n : Nat} {w a : World} (h : Hid (Below n w a)) (o : Obj) (hn : n ≤ w.heap.size := by exact Nat.le_refl _) : Hid (Below n w (a.alloc o)) := h.out.alloc (Nat.le_trans hn h.out.size) o
theorem conv_one (W : World) (c : Nat) (h : c < 256) :
    (convert 31 9 (.slice (some ⟨W.heap.size, 0, none⟩) 1 1)).run Tryd.prog (W.alloc (.cells #[.int .u8 c] 5)) = .ok (.string ⟨#[UInt8.ofNat c]⟩) (W.alloc (.cells #[.int .u8 c] 5)) := by
  refine Lib.run_convert_whole (W.alloc (.cells #[.int .u8 c] 5)) 31 5 9 Tryd.underlying31 Tryd.underlying5 Tryd.underlying9 W.heap.size 0 ⟨#[UInt8.ofNat c]⟩ ?_ 1
  intro i hi
  have hi1 : (⟨#[UInt8.ofNat c]⟩ : ByteArray).size = 1 := rfl
  obtain rfl : i = 0 := by omega
  have e : ((⟨#[UInt8.ofNat c]⟩ : ByteArray)[0]).toNat = c := by
    show (UInt8.ofNat c).toNat = c
    rw [UInt8.toNat_ofNat']; omega
  rw [e]
  exact (Boxed.new W 5 (.int .u8 c)).cell
theorem conv_at (W : World) (B : Nat) (z : Int) (S : ByteArray) (h : 0 ≤ z ∧ z < 256) (hS : (⟨#[UInt8.ofNat z.toNat]⟩ : ByteArray) = S) (hc : W.cell? ⟨B, 0, none⟩ = some (.int .u8 z)) :
    (convert 31 9 (.slice (some ⟨B, 0, none⟩) 1 1)).run Tryd.prog W = .ok (.string S) W := by
  subst hS
  refine Lib.run_convert_whole W 31 5 9 Tryd.underlying31 Tryd.underlying5 Tryd.underlying9 B 0 ⟨#[UInt8.ofNat z.toNat]⟩ ?_ 1
  intro i hi
  have hi1 : (⟨#[UInt8.ofNat z.toNat]⟩ : ByteArray).size = 1 := rfl
  obtain rfl : i = 0 := by omega
  have e : (((⟨#[UInt8.ofNat z.toNat]⟩ : ByteArray)[0]).toNat : Int) = z := by
    show (((UInt8.ofNat z.toNat).toNat : Nat) : Int) = z
    rw [UInt8.toNat_ofNat']; omega
  rw [e]
  exact hc
theorem conv_kept {W w2 : World} (B : Nat) (z : Int) (S : ByteArray) (h : 0 ≤ z ∧ z < 256) (hS : (⟨#[UInt8.ofNat z.toNat]⟩ : ByteArray) = S) (hB : W.heap.size = B)
    (hb : Below (W.alloc (.cells #[.int .u8 z] 5)).drew.heap.size (W.alloc (.cells #[.int .u8 z] 5)).drew w2) :
    (convert 31 9 (.slice (some ⟨B, 0, none⟩) 1 1)).run Tryd.prog w2 = .ok (.string S) w2 := by
  subst hB
  have hb2 : Below (W.alloc (.cells #[.int .u8 z] 5)).heap.size (W.alloc (.cells #[.int .u8 z] 5)) w2 := ⟨hb.os, hb.tape, hb.output, hb.size, hb.block⟩
  exact conv_at w2 _ z S h hS ((hb2.cell (by simp)).trans (Boxed.new W 5 (.int .u8 z)).cell)
set_option maxHeartbeats 1000000 in
set_option maxRecDepth 100000 in
theorem decimal_any : ∀ (m n : Nat), n ≤ m → m ≤ 100000 → ∀ w : World,
    Calls Tryd.prog 81 #[.int .i64 n] w fun e w' => e = .returned (.string ⟨(Lib.decDigits n).toArray⟩) ∧ Below w.heap.size w w' := by
  intro m
  induction m using Nat.strongRecOn with
  | _ m ih =>
  intro n hn hm w
  by_cases h : n < 10
  · rw [dec_small n h]
    have b1 : decide ((n : Int) < 10) = true := decide_eq_true (by omega)
    go_enter Tryd.func81, Tryd.ntmps81
    have hcv := conv_one w (48 + n) (by omega)
    obtain ⟨S, hS⟩ : ∃ S, (⟨#[UInt8.ofNat (48 + n)]⟩ : ByteArray) = S := ⟨_, rfl⟩
    rw [hS] at hcv
    rw [show [UInt8.ofNat (48 + n)].toArray = #[UInt8.ofNat (48 + n)] from rfl, hS]
    clear hS
    rw [Int.natCast_add] at hcv
    simp only [Int.cast_ofNat_Int] at hcv
    go_wp2_with fail
    go_ret
    exact ⟨rfl, (Below.refl _ _).alloc (Nat.le_refl _) _⟩
  · rw [dec_more n h]
    have b1 : decide ((n : Int) < 10) = false := decide_eq_false (by omega)
    have c := ih (n / 10) (by omega) (n / 10) (Nat.le_refl _) (by omega)
    simp only [Int.natCast_ediv, Int.cast_ofNat_Int] at c
    have C := Lib.hid c
    clear c ih
    go_enter Tryd.func81, Tryd.ntmps81
    go_wp2_with fail
    have hcv := fun W => conv_one W (48 + n % 10) (by omega)
    simp only [Int.natCast_add, Int.natCast_emod, Int.cast_ofNat_Int] at hcv
    obtain ⟨S, hS⟩ : ∃ S, (⟨#[UInt8.ofNat (48 + n % 10)]⟩ : ByteArray) = S := ⟨_, rfl⟩
    simp only [hS] at hcv
    have HS := Lib.hid hS
    clear hS
    have hd : (Lib.decDigits (n / 10)).length ≤ 20 := Nat.le_trans (dec_le 5 (n / 10) (by omega)) (by omega)
    obtain ⟨D, hD⟩ : ∃ D, (⟨(Lib.decDigits (n / 10)).toArray⟩ : ByteArray) = D := ⟨_, rfl⟩
    rw [hD] at C
    have HD := Lib.hid hD
    have hDs : D.size ≤ 20 := by rw [← hD]; exact hd
    have hSs : S.size = 1 := by rw [← HS.out]; rfl
    clear hD hd
    have f6 : D.size + S.size ≤ 9223372036854775807 := by omega
    have f7 : D.size + 1 ≤ 9223372036854775807 := by omega
    have FZ : Hid (0 ≤ 48 + (n : Int) % 10 ∧ 48 + (n : Int) % 10 < 256) := Lib.hid (by omega)
    have FS : Hid ((⟨#[UInt8.ofNat (48 + (n : Int) % 10).toNat]⟩ : ByteArray) = S) := by
      have e1 : (48 + (n : Int) % 10).toNat = 48 + n % 10 := by omega
      rw [e1]
      exact HS.out
    have hcvd := fun W : World => conv_at (W.alloc (.cells #[.int .u8 (48 + (n : Int) % 10)] 5)).drew W.heap.size (48 + (n : Int) % 10) S FZ.out FS.out (Boxed.new W 5 (.int .u8 (48 + (n : Int) % 10))).cell
    have H0 : Hid (Below w.heap.size w w) := Below.refl _ _
    have f1 : (n : Int).tdiv 10 = (n : Int) / 10 := Int.tdiv_eq_ediv_of_nonneg (by omega)
    have f2 : (n : Int).tmod 10 = (n : Int) % 10 := Int.tmod_eq_emod_of_nonneg (by omega)
    have f3 : IntKind.i64.wrap (48 + (n : Int) % 10) = 48 + (n : Int) % 10 := IntWalk.i64_in _ (by omega)
    have f4 : IntKind.i64.wrap ((n : Int) / 10) = (n : Int) / 10 := IntWalk.i64_in _ (by omega)
    have f5 : IntKind.u8.wrap (48 + (n : Int) % 10) = 48 + (n : Int) % 10 := IntWalk.u8_in _ (by omega)
    go_region_with (first | (go_at_call 81; (with_reducible refine (C.out _).mono ?_); rintro e w2 ⟨rfl, hw2⟩; (try have hcv2 := conv_kept w.heap.size (48 + (n : Int) % 10) S FZ.out FS.out rfl hw2); replace hw2 := chain (n := w.heap.size) (w := w) (by first | assumption | exact drew_hid H0 | exact alloc_hid H0 _ | exact drew_hid (alloc_hid H0 _)) hw2))
    all_goals
      go_wp2_with fail
      go_ret
      refine ⟨?_, Hid.out (by first | assumption | exact alloc_hid (by assumption) _ | exact drew_hid (by assumption))⟩
      rw [← HD.out, ← HS.out]
      refine congrArg (fun x => Ending.returned (Value.string x)) (ByteArray.ext ?_)
      simp
end Pa
end Go.Proofs.YtjnpmabnnbngeaaDoor
