/- A loop over a function whose iterator keeps state of its own in cells: a law for the caller ('priv' names the blocks of those cells). No program in sight. -/
import Derived.RangeFuncNested
import Derived.RangeFuncBound
import Derived.RangeFuncCalls
import Derived.RangeFuncLeaves
import Derived.Shelf.Abstract
import Derived.Shelf.RegionOpen
import Derived.WalkKit
import Derived.OwnWalkIn
import Derived.TacticsInMore
import Derived.LoopNIn
import Derived.LoopIn
namespace Go.Proofs.Ytnljfhoibkeloaa
open Go.RowKit
set_option linter.unusedVariables false
set_option linter.unusedSimpArgs false
namespace Rg
/-- J does not look at the cells of the iterator's own blocks. -/
def Blind {β : Type} (priv : Nat → Prop) (J : β → World → Prop) : Prop := ∀ s W b v, priv b → J s W → J s (W.setCell ⟨b, 0, none⟩ v)

/-- What an iterator promises: it hands over, in order, values whose whole list meets S; or a beginning that meets Sp, a round having said 'no more'. -/
def Iter {α : Type} (F : Fence) (n : Nat) (P : Program) (g : Nat) (lb : Array Value) (encs : α → Array Value) (Kp : World → World → Prop) (S Sp : List α → Prop) (N : Nat) (priv : Nat → Prop) (w : World) : Prop :=
  ∀ (l : Nat) (J Jx : List α → World → Prop) (W : World), Below w.heap.size w W → AbidesFrom W.heap.size J → AbidesFrom W.heap.size Jx → Blind priv J →
    (∀ pre x V, J pre V → pre.length < N → YieldAt F (n - 1) P l (encs x) V fun e V' =>
      (e = .returned (.bool true) ∧ J (pre ++ [x]) V' ∧ Kp V V') ∨ (e = .returned (.bool false) ∧ Jx (pre ++ [x]) V')) →
    J [] W →
    CallsIn F n P g (#[.func (.yield l) #[] #[]] ++ lb) W fun e V' => (∃ v, e = .returned v) ∧ ((∃ xs, S xs ∧ J xs V') ∨ (∃ pre, Sp pre ∧ Jx pre V'))

variable {F : Fence} {n : Nat} {P : Program}
theorem range_own {α : Type} {g : Operand} {ps : Array Tmp} {assign body : Code} {Q : Exit → Act → World → Prop} {a : Act} {w : World}
    (hro : F.round = none) (h1 : 1 ≤ n) {gf : Nat} {lb : Array Value} (hg : a.eval g = .func (.func gf) #[] lb) (hFg : F.fn gf) (eg : ∀ args w, (callFunc gf args).run P w = .ok (.enter gf args) w)
    {encs : α → Array Value} {Kp : World → World → Prop} {S Sp : List α → Prop} {N : Nat} {w0 : World} {priv : Nat → Prop} (hseq : Iter F (n - 1) P gf lb encs Kp S Sp N priv w0) (hpr : ∀ b, priv b → b < w.heap.size)
    (hKt : ∀ {A B C : World}, Kp A B → Kp B C → Kp A C) (hKb : ∀ (W : World) (l : Nat) (o o' : Obj), w.heap.size ≤ l → W.heap[l]? = some o → o.isCells = false → o.isWalk = false → Kp W (W.putObj l o')) (hb0 : Below w0.heap.size w0 w) (hps : ∀ x, (encs x).size = ps.size)
    (I : List α → World → Prop) (Ix : Code → List α → World → Prop) (hI : OwnFrom w.heap.size I) (hIx : ∀ c, OwnFrom w.heap.size (Ix c)) (hIb : Blind priv I) (h0 : I [] w) (a₁ : α → Act)
    (hassign : ∀ (l : Nat) (x : α) (W : World) (K : Act → World → Prop), K (a₁ x) W →
      assign.wpIn (F.inRound l) (n - 1 - 1) P (Exit.then K (fun _ _ _ => False)) { tmps := (ps.zip (encs x)).foldl (fun t (p, v) => t.setIfInBounds p v) a.tmps, defers := [] } W)
    (hbody : ∀ (l : Nat) (pre : List α) (x : α) (W : World), I pre W → pre.length < N → body.wpIn (F.inRound l) (n - 1 - 1) P (ownPostG w.heap.size Kp I Ix (pre ++ [x]) W) (a₁ x) W)
    (hdone : ∀ (D : Nat) (xs : List α) (W : World), w.heap.size ≤ D → S xs → I xs W → W.heap[D]? = some (.deferred (some [])) → Q .normal { a with defers := { target := .collected D, args := #[] } :: a.defers } W)
    (hstop : ∀ (D : Nat) (c : Code) (pre : List α) (W : World), w.heap.size ≤ D → Sp pre → Ix c pre W → W.heap[D]? = some (.deferred (some [])) → c.wpIn F n P Q { a with defers := { target := .collected D, args := #[] } :: a.defers } W) :
    (Code.rangeFunc g ps assign body).wpIn F n P Q a w := by
  refine wpIn_rangeFunc fun fn hfn => ?_
  rw [hro]
  -- the two new blocks: the rounds' deferred calls, and the loop
  generalize hD : w.heap.size = D at *
  let at_ (st : LoopState) (pe : Option Code) : Loop := { state := st, pending := pe, fn := fn, tmps := a.tmps, params := ps, assign := assign, body := body, defers := D }
  obtain ⟨mk, hmk⟩ : ∃ mk : LoopState → Option Code → Obj, mk = fun st pe => .loop (at_ st pe) := ⟨_, rfl⟩
  obtain ⟨V, hV⟩ : ∃ V, (w.alloc (.deferred (some []))).alloc (mk .ready none) = V := ⟨_, rfl⟩
  have hsz : V.heap.size = D + 2 := by rw [← hV]; simp [hD]
  have onV : V.heap[D + 1]? = some (mk .ready none) ∧ V.heap[D]? = some (.deferred (some [])) := by
    rw [← hV]
    constructor
    · have := World.alloc_heap_new (w.alloc (.deferred (some []))) (mk .ready none)
      rwa [World.size_alloc, hD] at this
    · have := World.alloc_heap_new w (.deferred (some []))
      rw [hD] at this
      exact (Below.heap_alloc _ _ _ (by simp [hD])).trans this
  have hIV : I [] V := by rw [← hV]; exact hI.alloc _ (hI.alloc _ h0)
  have hbV : Below w0.heap.size w0 V := by
    rw [← hV]
    refine hb0.trans ?_
    have b1 : Below w.heap.size w (w.alloc (.deferred (some []))) := (Below.refl _ w).alloc (Nat.le_refl _) _
    exact (b1.alloc (by simp) _).mono hb0.size
  have henter : (Instr.enterLoop fn a.tmps ps assign body none).run P w = .ok (D + 1, [{ target := .collected D, args := #[] }]) V := by
    have := run_enterLoop_outer (P := P) (w := w) fn a.tmps ps assign body
    rw [hD] at this
    rw [this, ← hV, hmk]
  refine ⟨D + 1, [{ target := .collected D, args := #[] }], V, { target := .fn (.func gf) lb, args := #[.func (.yield (D + 1)) #[] #[]] }, V, gf, #[.func (.yield (D + 1)) #[] #[]] ++ lb, V, henter, ?_, ?_, ?_, fun _ => h1, ?_⟩
  · simp only [resolve, hg]; simp [go_sem]
  · intro f' hf'; simp [Target.leads] at hf'; subst hf'; exact hFg
  · simp [invoke, go_sem, eg]
  -- a block that is no cells and no walk lies on under a step of the iterator's own
  have lies : ∀ {A B : World} {row : Option Nat} {k : Nat} {o : Obj}, A.grownBy B row → (∀ r, row = some r → V.heap.size ≤ r ∧ ∃ o : Obj, A.heap[r]? = some o ∧ o.isWalk = true) → A.heap[k]? = some o → k < V.heap.size → B.heap[k]? = some o := by
    intro A B row k o hgr hrow hk hlt
    refine (hgr.block k (Array.getElem?_eq_some_iff.1 hk).1 fun e => ?_).trans hk
    have := (hrow k e.symm).1
    omega
  have kept : ∀ {A B : World} {row : Option Nat}, (∀ r, row = some r → V.heap.size ≤ r ∧ ∃ o : Obj, A.heap[r]? = some o ∧ o.isWalk = true) → (∀ r, row = some r → D ≤ r ∧ ∃ o : Obj, A.heap[r]? = some o ∧ o.isCells = false) := by
    intro A B row hrow r e
    obtain ⟨h1, o, ho, hw⟩ := hrow r e
    exact ⟨by omega, o, ho, Obj.not_cells_of_walk hw⟩
  have blind : ∀ (A : World) (b k : Nat) (v : Value), priv b → D ≤ k → (A.setCell ⟨b, 0, none⟩ v).heap[k]? = A.heap[k]? := by
    intro A b k v hb hk
    refine Below.heap_setCell _ _ _ _ ?_
    have := hpr b hb
    show k ≠ b
    omega
  have noWalk : (mk .ready none).isCells = false ∧ (mk .ready none).isWalk = false := by rw [hmk]; exact ⟨rfl, rfl⟩
  refine (hseq (D + 1) (fun pre W => I pre W ∧ W.heap[D + 1]? = some (mk .ready none) ∧ W.heap[D]? = some (.deferred (some [])))
    (fun pre W => ∃ c, Ix c pre W ∧ W.heap[D + 1]? = some (mk .done (some c)) ∧ W.heap[D]? = some (.deferred (some []))) V hbV ?ab ?abx ?bl ?round ⟨hIV, onV⟩).mono ?behind
  case ab =>
    rintro s A B row ⟨hi, hl, hk⟩ hgr hrow
    exact ⟨hI s A B row hi hgr (kept (B := B) hrow), lies hgr hrow hl (by omega), lies hgr hrow hk (by omega)⟩
  case abx =>
    rintro s A B row ⟨c, hi, hl, hk⟩ hgr hrow
    exact ⟨c, hIx c s A B row hi hgr (kept (B := B) hrow), lies hgr hrow hl (by omega), lies hgr hrow hk (by omega)⟩
  case bl =>
    rintro s A b v hb ⟨hi, hl, hk⟩
    exact ⟨hIb s A b v hb hi, (blind A b _ v hb (by omega)).trans hl, (blind A b _ v hb (by omega)).trans hk⟩
  case round =>
    rintro pre x W ⟨hi, hl, hk⟩ hlen
    have hlt : D + 1 < W.heap.size := (Array.getElem?_eq_some_iff.1 hl).1
    have hl' := hl
    rw [hmk] at hl'
    have hy := run_yield (P := P) (args := encs x) hl' (hps x)
    refine ⟨fn, _, assign, body, hy, roundIn_of_wpIn hfn (hassign _ x W _ ⟨_, run_beginRound hl' rfl, ?_⟩)⟩
    obtain ⟨busy, hbusy⟩ : ∃ busy : Obj, busy = mk .busy none := ⟨_, rfl⟩
    have eb : (Obj.loop { at_ .ready none with state := .busy }) = busy := by rw [hbusy, hmk]
    have cb : busy.isCells = false ∧ busy.isWalk = false := by rw [hbusy, hmk]; exact ⟨rfl, rfl⟩
    change body.wpIn (F.inRound (D + 1)) (n - 1 - 1) P _ (a₁ x) (W.putObj (D + 1) (.loop { at_ .ready none with state := .busy }))
    rw [eb]
    have hl2 : (W.putObj (D + 1) busy).heap[D + 1]? = some busy := World.putObj_heap_same hlt
    have hk2 : (W.putObj (D + 1) busy).heap[D]? = some (.deferred (some [])) := (World.putObj_heap_other (by omega)).trans hk
    have hkp : Kp W (W.putObj (D + 1) busy) := hKb _ _ _ _ (by omega) hl noWalk.1 noWalk.2
    refine wpIn_mono (hbody _ pre x _ (hI.putObj _ hi (by omega) hl noWalk.1) hlen) ?_
    have fin : ∀ (jump : Option Code) (X : World), KeepsFrom D (W.putObj (D + 1) busy) X →
        X.heap[D + 1]? = some busy ∧ (Instr.endRound (D + 1) jump).run P X = .ok (.bool jump.isNone) (X.putObj (D + 1) (mk (if jump.isNone then .ready else .done) jump)) ∧
        (X.putObj (D + 1) (mk (if jump.isNone then .ready else .done) jump)).heap[D + 1]? = some (mk (if jump.isNone then .ready else .done) jump) ∧
        (X.putObj (D + 1) (mk (if jump.isNone then .ready else .done) jump)).heap[D]? = some (.deferred (some [])) := by
      intro jump X hX
      have h3 := hX.same _ _ (by omega) hl2 cb.1
      have h4 := hX.same _ _ (Nat.le_refl _) hk2 rfl
      refine ⟨h3, ?_, World.putObj_heap_same (Array.getElem?_eq_some_iff.1 h3).1, (World.putObj_heap_other (by omega)).trans h4⟩
      have h3' := h3
      rw [hbusy, hmk] at h3'
      have := run_endRound (P := P) jump h3'
      rw [hmk]; exact this
    rintro e a3 X hp
    cases e with
    | normal =>
      obtain ⟨hX, hkX, hiX⟩ := hp
      obtain ⟨x0, x1, x2, x3⟩ := fin none X hX
      exact ⟨_, _, x1, .inl ⟨rfl, ⟨hI.putObj _ hiX (by omega) x0 cb.1, x2, x3⟩, hKt (hKt hkp hkX) (hKb _ _ _ _ (by omega) x0 cb.1 cb.2)⟩⟩
    | ret =>
      obtain ⟨hX, hiX⟩ := hp
      obtain ⟨x0, x1, x2, x3⟩ := fin (some .ret) X hX
      exact ⟨_, _, x1, .inr ⟨rfl, .ret, (hIx _).putObj _ hiX (by omega) x0 cb.1, x2, x3⟩⟩
    | exit id =>
      obtain ⟨hX, hiX⟩ := hp
      obtain ⟨x0, x1, x2, x3⟩ := fin (some (.exit id)) X hX
      exact ⟨_, _, x1, .inr ⟨rfl, .exit id, (hIx _).putObj _ hiX (by omega) x0 cb.1, x2, x3⟩⟩
    | goto t =>
      obtain ⟨hX, hiX⟩ := hp
      obtain ⟨x0, x1, x2, x3⟩ := fin (some (.goto t)) X hX
      exact ⟨_, _, x1, .inr ⟨rfl, .goto t, (hIx _).putObj _ hiX (by omega) x0 cb.1, x2, x3⟩⟩
    | panic ch => exact hp.elim
    | outgrown => exact hp.elim
  case behind =>
    rintro e X ⟨⟨v, rfl⟩, hX⟩
    rcases hX with ⟨xs, hS, hi, hl, hk⟩ | ⟨pre, hS, c, hi, hl, hk⟩
    · have hl' := hl
      rw [hmk] at hl'
      exact ⟨none, _, run_endLoop (P := P) hl' (by simp [at_]), hdone _ xs _ (Nat.le_refl _) hS (hI.putObj _ hi (by omega) hl noWalk.1) ((World.putObj_heap_other (by omega)).trans hk)⟩
    · have hl' := hl
      rw [hmk] at hl'
      exact ⟨some c, _, run_endLoop (P := P) hl' (by simp [at_]), hstop _ c pre _ (Nat.le_refl _) hS ((hIx c).putObj _ hi (by omega) hl (by rw [hmk]; rfl)) ((World.putObj_heap_other (by omega)).trans hk)⟩
end Rg
end Go.Proofs.Ytnljfhoibkeloaa
