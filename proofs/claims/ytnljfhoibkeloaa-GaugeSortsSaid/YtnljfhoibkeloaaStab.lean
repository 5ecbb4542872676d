/- Merging in place by rotations, and putting one element in its place: plain laws on arrays. No program in sight. -/
import Derived.Sort.LotA
namespace Go.Proofs.Ytnljfhoibkeloaa
set_option linter.unusedVariables false
set_option linter.unusedSimpArgs false
namespace St
open Go.Sort
variable {α : Type} [Inhabited α] {lt : α → α → Bool}

/-- d' is d with the parts [a, m) and [m, b) exchanged. -/
structure Rot (a m b : Nat) (d d' : Array α) : Prop where
  perm : PermIn a b d d'
  left : ∀ k, k < b - m → d'[a + k]! = d[m + k]!
  right : ∀ k, k < m - a → d'[a + (b - m) + k]! = d[a + k]!

theorem Rot.refl_left (m b : Nat) (d : Array α) : Rot m m b d d := ⟨permIn_refl _ _ _, fun k _ => rfl, fun k h => by omega⟩
theorem Rot.refl_right (a m : Nat) (d : Array α) : Rot a m m d d := ⟨permIn_refl _ _ _, fun k h => by omega, fun k _ => by rw [Nat.sub_self, Nat.add_zero]⟩

theorem srt_sub {a b a' b' : Nat} {d : Array α} (h : SortedIn lt a b d) (ha : a ≤ a') (hb : b' ≤ b) : SortedIn lt a' b' d :=
  fun i j h1 h2 h3 => h i j (by omega) h2 (by omega)
theorem srt_one (a : Nat) (d : Array α) (b : Nat) (hb : b ≤ a + 1) : SortedIn lt a b d := fun i j h1 h2 h3 => by omega
theorem srt_congr {a b : Nat} {d d' : Array α} (h : SortedIn lt a b d) (he : ∀ p, a ≤ p → p < b → d'[p]! = d[p]!) : SortedIn lt a b d' :=
  fun i j h1 h2 h3 => by rw [he i h1 (by omega), he j (by omega) h3]; exact h i j h1 h2 h3

/-- Behind the rotation both halves are merges of two sorted parts, and nothing on the left is above anything on the right. -/
theorem merge_cut {a m b start e mid : Nat} {d d1 : Array α} (s1 : SortedIn lt a m d) (s2 : SortedIn lt m b d)
    (he : e + start = mid + m) (h1 : a ≤ start) (h2 : start ≤ m) (h3 : m ≤ e) (h4 : e ≤ b) (c1 : ∀ x y, a ≤ x → x < start → e ≤ y → y < b → lt d[y]! d[x]! = false)
    (c2 : ∀ x y, start ≤ x → x < m → m ≤ y → y < e → lt d[x]! d[y]! = false) (hir : ∀ x, lt x x = false) (R : Rot start m e d d1) :
    SortedIn lt a start d1 ∧ SortedIn lt start mid d1 ∧ SortedIn lt mid e d1 ∧ SortedIn lt e b d1 ∧ (∀ x y, a ≤ x → x < mid → mid ≤ y → y < b → lt d1[y]! d1[x]! = false) := by
  have g1 : ∀ x, x < start → d1[x]! = d[x]! := fun x hx => R.perm.2.1 x (.inl hx)
  have g2 : ∀ x, start ≤ x → x < mid → d1[x]! = d[m + (x - start)]! := fun x h h' => by
    have := R.left (x - start) (by omega)
    rwa [show start + (x - start) = x by omega] at this
  have g3 : ∀ x, mid ≤ x → x < e → d1[x]! = d[start + (x - mid)]! := fun x h h' => by
    have := R.right (x - mid) (by omega)
    rwa [show start + (e - m) + (x - mid) = x by omega] at this
  have g4 : ∀ x, e ≤ x → d1[x]! = d[x]! := fun x hx => R.perm.2.1 x (.inr hx)
  refine ⟨?_, ?_, ?_, ?_, ?_⟩
  · exact srt_congr (srt_sub s1 (Nat.le_refl _) h2) fun p _ hp => g1 p hp
  · intro i j hi hij hj
    rw [g2 i hi (by omega), g2 j (by omega) hj]
    exact s2 _ _ (by omega) (by omega) (by omega)
  · intro i j hi hij hj
    rw [g3 i hi (by omega), g3 j (by omega) hj]
    exact s1 _ _ (by omega) (by omega) (by omega)
  · exact srt_congr (srt_sub s2 h3 (Nat.le_refl _)) fun p hp _ => g4 p hp
  · intro x y hx hx' hy hy'
    by_cases hxs : x < start
    · rw [g1 x hxs]
      by_cases hye : y < e
      · rw [g3 y hy hye]
        exact s1 _ _ hx (by omega) (by omega)
      · rw [g4 y (by omega)]
        exact c1 x y hx hxs (by omega) hy'
    · rw [g2 x (by omega) hx']
      by_cases hye : y < e
      · rw [g3 y hy hye]
        exact c2 _ _ (by omega) (by omega) (by omega) (by omega)
      · rw [g4 y (by omega)]
        exact s2 _ _ (by omega) (by omega) hy'

/-- Two sorted halves, none on the left above any on the right. -/
theorem merge_join {a mid b : Nat} {d : Array α} (s1 : SortedIn lt a mid d) (s2 : SortedIn lt mid b d) (c : ∀ x y, a ≤ x → x < mid → mid ≤ y → y < b → lt d[y]! d[x]! = false) : SortedIn lt a b d := by
  intro i j hi hij hj
  by_cases h1 : j < mid
  · exact s1 i j hi hij h1
  · by_cases h2 : i < mid
    · exact c i j hi h2 (by omega) hj
    · exact s2 i j (by omega) hij hj

/-- Each half permuted: still none on the left above any on the right. -/
theorem cross_perm {a mid b : Nat} {d d1 d2 : Array α} (hb : b ≤ d.size) (hm : a ≤ mid) (hmb : mid ≤ b) (p1 : PermIn a mid d d1) (p2 : PermIn mid b d1 d2)
    (c : ∀ x y, a ≤ x → x < mid → mid ≤ y → y < b → lt d[y]! d[x]! = false) : ∀ x y, a ≤ x → x < mid → mid ≤ y → y < b → lt d2[y]! d2[x]! = false := by
  have c' : ∀ x y, a ≤ x → x < mid → mid ≤ y → y < b → lt d1[y]! d1[x]! = false := by
    intro x y h1 h2 h3 h4
    rw [p1.2.1 y (.inr h3)]
    exact permIn_all d d1 a mid (fun v => lt d[y]! v = false) (by omega) p1 (fun i hi hi' => c i y hi hi' h3 h4) x h1 h2
  intro x y h1 h2 h3 h4
  rw [p2.2.1 x (.inl h2)]
  have hs := p1.1
  exact permIn_all d1 d2 mid b (fun v => lt v d1[x]! = false) (by omega) p2 (fun i hi hi' => c' x i h1 h2 hi hi') y h3 h4

/-- What the search for the cut has shown when it stops. -/
theorem search_done {a m b lo r0 start n : Nat} {d : Array α} (hS : SWO lt) (s1 : SortedIn lt a m d) (s2 : SortedIn lt m b d) (ham : a ≤ m) (hmb : m ≤ b)
    (hlo : lo ≤ start) (hr : start ≤ r0) (hrm : r0 ≤ m) (hal : a ≤ lo) (hn : n = (a + b) / 2 + m)
    (hl0 : lo = a ∨ lo + b = n) (hr0 : r0 = m ∨ r0 + m = n) (hlb : n ≤ lo + b) (hrb : r0 + m ≤ n)
    (no : ∀ c, lo ≤ c → c < start → lt d[n - 1 - c]! d[c]! = false) (yes : ∀ c, start ≤ c → c < r0 → lt d[n - 1 - c]! d[c]! = true) :
    (∀ x y, a ≤ x → x < start → n - start ≤ y → y < b → lt d[y]! d[x]! = false) ∧ (∀ x y, start ≤ x → x < m → m ≤ y → y < n - start → lt d[x]! d[y]! = false) := by
  refine ⟨fun x y h1 h2 h3 h4 => ?_, fun x y h1 h2 h3 h4 => ?_⟩
  · by_cases hs : start = lo
    · rcases hl0 with h | h <;> omega
    · have := no (start - 1) (by omega) (by omega)
      rw [show n - 1 - (start - 1) = n - start by omega] at this
      have a1 : lt d[y]! d[n - start]! = false := by
        by_cases e : y = n - start
        · subst e; exact hS.irrefl _
        · exact s2 _ _ (by omega) (by omega) h4
      have a2 : lt d[start - 1]! d[x]! = false := by
        by_cases e : x = start - 1
        · subst e; exact hS.irrefl _
        · exact s1 _ _ h1 (by omega) (by omega)
      exact hS.ntrans _ _ _ a1 (hS.ntrans _ _ _ this a2)
  · by_cases hs : start = r0
    · rcases hr0 with h | h <;> omega
    · have := yes start (by omega) (by omega)
      rw [show n - 1 - start = n - start - 1 by omega] at this
      have a0 := hS.asymmA this
      have a1 : lt d[n - start - 1]! d[y]! = false := by
        by_cases e : y = n - start - 1
        · subst e; exact hS.irrefl _
        · exact s2 _ _ h3 (by omega) (by omega)
      have a2 : lt d[x]! d[start]! = false := by
        by_cases e : x = start
        · subst e; exact hS.irrefl _
        · exact s1 _ _ (by omega) (by omega) h2
      exact hS.ntrans _ _ _ a2 (hS.ntrans _ _ _ a0 a1)

/-- One answer of the search tells of all to its left, or to its right. -/
theorem search_no {a m b n c : Nat} {d : Array α} (hS : SWO lt) (s1 : SortedIn lt a m d) (s2 : SortedIn lt m b d) (hc : c < m) (hcn : n - 1 - c < b) (h : lt d[n - 1 - c]! d[c]! = false) (c' : Nat) (hac : a ≤ c') (hcc : c' ≤ c) (hlo : n ≤ c' + b) (hb : m + c + 1 ≤ n) :
    lt d[n - 1 - c']! d[c']! = false := by
  by_cases e : c' = c
  · subst e; exact h
  · have a1 : lt d[n - 1 - c']! d[n - 1 - c]! = false := s2 _ _ (by omega) (by omega) (by omega)
    have a2 : lt d[c]! d[c']! = false := s1 _ _ hac (by omega) hc
    exact hS.ntrans _ _ _ a1 (hS.ntrans _ _ _ h a2)
theorem search_yes {a m b n c : Nat} {d : Array α} (hS : SWO lt) (s1 : SortedIn lt a m d) (s2 : SortedIn lt m b d) (hac : a ≤ c) (h : lt d[n - 1 - c]! d[c]! = true) (c' : Nat) (hcc : c ≤ c') (hc' : c' < m) (hb : m + c' + 1 ≤ n) (hcb : n ≤ c + b) :
    lt d[n - 1 - c']! d[c']! = true := by
  by_cases e : c' = c
  · subst e; exact h
  · have a1 : lt d[n - 1 - c]! d[n - 1 - c']! = false := s2 _ _ (by omega) (by omega) (by omega)
    have a2 : lt d[c']! d[c]! = false := s1 _ _ hac (by omega) hc'
    cases hx : lt d[n - 1 - c']! d[c']! with
    | true => rfl
    | false =>
      have := hS.ntrans _ _ _ a1 (hS.ntrans _ _ _ hx a2)
      rw [h] at this; cases this

/-- The element at a, moved up to k: what lies between has moved down by one. -/
structure Up (a k : Nat) (d d' : Array α) : Prop where
  size : d'.size = d.size
  mid : ∀ i, a ≤ i → i < k → d'[i]! = d[i + 1]!
  here : d'[k]! = d[a]!
  rest : ∀ i, i < a ∨ k < i → d'[i]! = d[i]!
theorem Up.start (a : Nat) (d : Array α) : Up a a d d := ⟨rfl, fun i h h' => by omega, rfl, fun i _ => rfl⟩
theorem Up.step {a k : Nat} {d d' : Array α} (h : Up a k d d') (hak : a ≤ k) (hk : k + 1 < d.size) : Up a (k + 1) d (swp d' k (k + 1)) := by
  have hs := h.size
  have g := swp_get d' (i := k) (j := k + 1) (by omega) (by omega)
  refine ⟨by rw [swp_size]; exact hs, fun i h1 h2 => ?_, ?_, fun i hi => ?_⟩
  · rw [g]
    by_cases e : i = k
    · subst e; rw [if_neg (by omega), if_pos rfl, h.rest _ (.inr (by omega))]
    · rw [if_neg (by omega), if_neg e]; exact h.mid i h1 (by omega)
  · rw [g, if_pos rfl]; exact h.here
  · rw [g, if_neg (by omega), if_neg (by omega)]; exact h.rest i (by omega)
/-- The element at m, moved down to k: what lies between has moved up by one. -/
structure Down (m k : Nat) (d d' : Array α) : Prop where
  size : d'.size = d.size
  mid : ∀ i, k < i → i ≤ m → d'[i]! = d[i - 1]!
  here : d'[k]! = d[m]!
  rest : ∀ i, i < k ∨ m < i → d'[i]! = d[i]!
theorem Down.start (m : Nat) (d : Array α) : Down m m d d := ⟨rfl, fun i h h' => by omega, rfl, fun i _ => rfl⟩
theorem Down.step {m k : Nat} {d d' : Array α} (h : Down m (k + 1) d d') (hkm : k + 1 ≤ m) (hm : m < d.size) : Down m k d (swp d' (k + 1) k) := by
  have hs := h.size
  have g := swp_get d' (i := k + 1) (j := k) (by omega) (by omega)
  refine ⟨by rw [swp_size]; exact hs, fun i h1 h2 => ?_, ?_, fun i hi => ?_⟩
  · rw [g]
    by_cases e : i = k + 1
    · subst e; rw [if_neg (by omega), if_pos rfl, h.rest _ (.inl (by omega)), Nat.add_sub_cancel]
    · rw [if_neg (by omega), if_neg e]; exact h.mid i (by omega) h2
  · rw [g, if_pos rfl]; exact h.here
  · rw [g, if_neg (by omega), if_neg (by omega)]; exact h.rest i (by omega)

/-- One element ahead of a sorted part, put in its place. -/
theorem up_sorted {a b i : Nat} {d d' : Array α} (hS : SWO lt) (s : SortedIn lt (a + 1) b d) (h1 : a + 1 ≤ i) (h2 : i ≤ b) (no : ∀ x, a + 1 ≤ x → x < i → lt d[x]! d[a]! = true) (yes : ∀ x, i ≤ x → x < b → lt d[x]! d[a]! = false)
    (U : Up a (i - 1) d d') : SortedIn lt a b d' := by
  intro p q hp hpq hq
  by_cases q1 : q < i - 1
  · rw [U.mid p hp (by omega), U.mid q (by omega) q1]; exact s _ _ (by omega) (by omega) (by omega)
  · by_cases q2 : q = i - 1
    · rw [q2, U.here, U.mid p hp (by omega)]; exact hS.asymmA (no _ (by omega) (by omega))
    · rw [U.rest q (.inr (by omega))]
      by_cases p1 : p < i - 1
      · rw [U.mid p hp p1]; exact s _ _ (by omega) (by omega) hq
      · by_cases p2 : p = i - 1
        · rw [p2, U.here]; exact yes _ (by omega) hq
        · rw [U.rest p (.inr (by omega))]; exact s _ _ (by omega) hpq hq
/-- One element behind a sorted part, put in its place. -/
theorem down_sorted {a m i : Nat} {d d' : Array α} (hS : SWO lt) (s : SortedIn lt a m d) (h1 : a ≤ i) (h2 : i ≤ m) (no : ∀ x, a ≤ x → x < i → lt d[m]! d[x]! = false) (yes : ∀ x, i ≤ x → x < m → lt d[m]! d[x]! = true)
    (U : Down m i d d') : SortedIn lt a (m + 1) d' := by
  intro p q hp hpq hq
  by_cases q1 : q < i
  · rw [U.rest p (.inl (by omega)), U.rest q (.inl q1)]; exact s _ _ hp hpq (by omega)
  · by_cases q2 : q = i
    · rw [q2, U.here, U.rest p (.inl (by omega))]; exact no _ hp (by omega)
    · rw [U.mid q (by omega) (by omega)]
      by_cases p1 : p < i
      · rw [U.rest p (.inl p1)]; exact s _ _ hp (by omega) (by omega)
      · by_cases p2 : p = i
        · rw [p2, U.here]; exact hS.asymmA (yes _ (by omega) (by omega))
        · rw [U.mid p (by omega) (by omega)]; exact s _ _ (by omega) (by omega) (by omega)

/-- A binary search's halves. -/
theorem bs_no {i h : Nat} {P : Nat → Prop} (lo : Nat) (h1 : ∀ x, lo ≤ x → x < i → P x) (h2 : ∀ x, i ≤ x → x ≤ h → P x) : ∀ x, lo ≤ x → x < h + 1 → P x := fun x hx hx' => by
  by_cases e : x < i
  · exact h1 x hx e
  · exact h2 x (by omega) (by omega)

/-- The exchange of two ranges of k elements each, as far as i. -/
structure Ranges (a b i : Nat) (d d' : Array α) : Prop where
  size : d'.size = d.size
  one : ∀ k, k < i → d'[a + k]! = d[b + k]!
  two : ∀ k, k < i → d'[b + k]! = d[a + k]!
  rest : ∀ k, (k < a ∨ a + i ≤ k) → (k < b ∨ b + i ≤ k) → d'[k]! = d[k]!
theorem Ranges.start (a b : Nat) (d : Array α) : Ranges a b 0 d d := ⟨rfl, fun k h => by omega, fun k h => by omega, fun k _ _ => rfl⟩
theorem Ranges.step {a b i : Nat} {d d' : Array α} (h : Ranges a b i d d') (hab : a + i < b) (hb : b + i < d.size) : Ranges a b (i + 1) d (swp d' (a + i) (b + i)) := by
  have hs := h.size
  have g := swp_get d' (i := a + i) (j := b + i) (by omega) (by omega)
  refine ⟨by rw [swp_size]; exact hs, fun k hk => ?_, fun k hk => ?_, fun k h1 h2 => ?_⟩
  · rw [g, if_neg (by omega)]
    by_cases e : k = i
    · subst e; rw [if_pos rfl, h.rest _ (by omega) (by omega)]
    · rw [if_neg (by omega)]; exact h.one k (by omega)
  · rw [g]
    by_cases e : k = i
    · subst e; rw [if_pos rfl, h.rest _ (by omega) (by omega)]
    · rw [if_neg (by omega), if_neg (by omega)]; exact h.two k (by omega)
  · rw [g, if_neg (by omega), if_neg (by omega)]; exact h.rest k (by omega) (by omega)

/-- What dk would be with [m - i, m) and [m, m + j) exchanged. -/
def view (m i j : Nat) (dk : Array α) (k : Nat) : α :=
  if m - i ≤ k ∧ k < m + j then (if k - (m - i) < j then dk[m + (k - (m - i))]! else dk[k - j]!) else dk[k]!
theorem view_left {m i j : Nat} {dk d2 : Array α} (hj : j < i) (hi : i ≤ m) (R : Ranges (m - i) m j dk d2) (k : Nat) : view m (i - j) j d2 k = view m i j dk k := by
  unfold view
  by_cases h1 : k < m - i
  · rw [if_neg (by omega), if_neg (by omega), R.rest k (by omega) (by omega)]
  · by_cases h2 : m + j ≤ k
    · rw [if_neg (by omega), if_neg (by omega), R.rest k (by omega) (by omega)]
    · rw [if_pos (c := m - i ≤ k ∧ k < m + j) (by omega)]
      by_cases h3 : k - (m - i) < j
      · have := R.one (k - (m - i)) h3
        rw [show m - i + (k - (m - i)) = k by omega] at this
        rw [if_neg (by omega), if_pos h3, this]
      · rw [if_neg h3, if_pos (by omega)]
        by_cases h4 : k - (m - (i - j)) < j
        · have := R.two (k - (m - (i - j))) h4
          rw [if_pos h4, this]
          congr 1; omega
        · rw [if_neg h4, R.rest (k - j) (by omega) (by omega)]
theorem view_right {m i j : Nat} {dk d2 : Array α} (hj : i < j) (hi : i ≤ m) (R : Ranges (m - i) (m + j - i) i dk d2) (k : Nat) : view m i (j - i) d2 k = view m i j dk k := by
  unfold view
  by_cases h1 : k < m - i
  · rw [if_neg (by omega), if_neg (by omega), R.rest k (by omega) (by omega)]
  · by_cases h2 : m + j ≤ k
    · rw [if_neg (by omega), if_neg (by omega), R.rest k (by omega) (by omega)]
    · rw [if_pos (c := m - i ≤ k ∧ k < m + j) (by omega)]
      by_cases h5 : m + (j - i) ≤ k
      · have := R.two (k - (m + j - i)) (by omega)
        rw [show m + j - i + (k - (m + j - i)) = k by omega] at this
        rw [if_neg (by omega), if_neg (by omega), this]
        congr 1; omega
      · rw [if_pos (c := m - i ≤ k ∧ k < m + (j - i)) (by omega)]
        by_cases h3 : k - (m - i) < j - i
        · rw [if_pos h3, if_pos (by omega), R.rest _ (by omega) (by omega)]
        · rw [if_neg h3]
          have := R.one (k - (j - i) - (m - i)) (by omega)
          rw [show m - i + (k - (j - i) - (m - i)) = k - (j - i) by omega] at this
          rw [this]
          by_cases h6 : k - (m - i) < j
          · rw [if_pos h6]; congr 1; omega
          · omega
theorem view_done {m i : Nat} {dk d2 : Array α} (hi : i ≤ m) (R : Ranges (m - i) m i dk d2) (k : Nat) : d2[k]! = view m i i dk k := by
  unfold view
  by_cases h1 : k < m - i
  · rw [if_neg (by omega), R.rest k (by omega) (by omega)]
  · by_cases h2 : m + i ≤ k
    · rw [if_neg (by omega), R.rest k (by omega) (by omega)]
    · rw [if_pos (by omega)]
      by_cases h3 : k - (m - i) < i
      · have := R.one _ h3
        rw [show m - i + (k - (m - i)) = k by omega] at this
        rw [if_pos h3, this]
      · have := R.two (k - m) (by omega)
        rw [show m + (k - m) = k by omega] at this
        rw [if_neg h3, this]
        congr 1; omega
theorem rot_of {a m b : Nat} {d d' : Array α} (ham : a ≤ m) (hmb : m ≤ b) (hP : PermIn a b d d') (h : ∀ k, d'[k]! = view m (m - a) (b - m) d k) : Rot a m b d d' := by
  refine ⟨hP, fun k hk => ?_, fun k hk => ?_⟩
  · rw [h]; unfold view
    rw [if_pos (by omega), if_pos (by omega)]; congr 1; omega
  · rw [h]; unfold view
    rw [if_pos (by omega), if_neg (by omega)]; congr 1; omega
end St
end Go.Proofs.Ytnljfhoibkeloaa
