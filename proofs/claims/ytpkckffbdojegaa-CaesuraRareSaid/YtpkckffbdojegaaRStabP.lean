/- Stable sorting by blocks that are merged in their place: what each step comes to, in plain words. No condition. -/
import Derived.Sort.LotA
import Derived.Sort.WalkA
set_option linter.unusedVariables false
set_option linter.unusedSimpArgs false
namespace Go.Proofs.R
open Go Go.Sort
set_option linter.unusedVariables false
variable {α : Type} [Inhabited α]

def SortedBy (lt : α → α → Prop) (d : Array α) (a b : Nat) : Prop := ∀ i j, a ≤ i → i < j → j < b → lt d[i]! d[j]!
/-- the test of the later one against the earlier one tells their order -/
def CrossB (lt : α → α → Prop) (cf : α → α → Int) (x y : α) : Prop := (cf y x < 0 → lt y x) ∧ (¬ cf y x < 0 → lt x y)
structure MergeIn (lt : α → α → Prop) (cf : α → α → Int) (d : Array α) (a m b : Nat) : Prop where
  l : SortedBy lt d a m
  r : SortedBy lt d m b
  x : ∀ i j, a ≤ i → i < m → m ≤ j → j < b → CrossB lt cf d[i]! d[j]!

theorem perm_mem {d d' : Array α} {a b : Nat} (hb : b ≤ d.size) (h : PermIn a b d d') {k : Nat} (h1 : a ≤ k) (h2 : k < b) : ∃ k', a ≤ k' ∧ k' < b ∧ d'[k]! = d[k']! :=
  permIn_all d d' a b (fun x => ∃ k', a ≤ k' ∧ k' < b ∧ x = d[k']!) hb h (fun i hi hi' => ⟨i, hi, hi', rfl⟩) k h1 h2

/-! ### exchanges -/
theorem swp_ix (d : Array α) {i j : Nat} (hi : i < d.size) (hj : j < d.size) (q : Nat) : ∃ q', (swp d i j)[q]! = d[q']! ∧ ((q = j ∧ q' = i) ∨ (q ≠ j ∧ q = i ∧ q' = j) ∨ (q ≠ i ∧ q ≠ j ∧ q' = q)) := by
  rw [swp_get d hi hj]
  by_cases h1 : q = j
  · exact ⟨i, by rw [if_pos h1], by omega⟩
  · by_cases h2 : q = i
    · exact ⟨j, by rw [if_neg h1, if_pos h2], by omega⟩
    · exact ⟨q, by rw [if_neg h1, if_neg h2], by omega⟩
def swapFrom (a b n i : Nat) (d : Array α) : Array α := if i < n then swapFrom a b n (i + 1) (swp d (a + i) (b + i)) else d
termination_by n - i
theorem swapFrom_go {a b n i : Nat} {d : Array α} (h : i < n) : swapFrom a b n i d = swapFrom a b n (i + 1) (swp d (a + i) (b + i)) := by
  conv => lhs; unfold swapFrom
  rw [if_pos h]
theorem swapFrom_stop {a b n i : Nat} {d : Array α} (h : ¬ i < n) : swapFrom a b n i d = d := by
  unfold swapFrom; rw [if_neg h]
theorem swapFrom_size (a b n : Nat) : ∀ (k i : Nat) (d : Array α), n - i ≤ k → (swapFrom a b n i d).size = d.size
  | 0, i, d, h => by rw [swapFrom_stop (by omega)]
  | k + 1, i, d, h => by
    by_cases hi : i < n
    · rw [swapFrom_go hi, swapFrom_size a b n k _ _ (by omega), size_swp]
    · rw [swapFrom_stop hi]
theorem swapFrom_ix (a b n : Nat) (hab : a + n ≤ b) : ∀ (k i : Nat) (d : Array α), n - i ≤ k → b + n ≤ d.size → ∀ q, ∃ q', (swapFrom a b n i d)[q]! = d[q']! ∧ ((a + i ≤ q ∧ q < a + n ∧ q' = q - a + b) ∨ (b + i ≤ q ∧ q < b + n ∧ q' = q - b + a) ∨ (¬ (a + i ≤ q ∧ q < a + n) ∧ ¬ (b + i ≤ q ∧ q < b + n) ∧ q' = q))
  | 0, i, d, h, hs, q => ⟨q, by rw [swapFrom_stop (by omega)], by omega⟩
  | k + 1, i, d, h, hs, q => by
    by_cases hi : i < n
    · rw [swapFrom_go hi]
      obtain ⟨q1, e1, h1⟩ := swapFrom_ix a b n hab k (i + 1) (swp d (a + i) (b + i)) (by omega) (by rw [size_swp]; exact hs) q
      obtain ⟨q2, e2, h2⟩ := swp_ix d (show a + i < d.size by omega) (show b + i < d.size by omega) q1
      exact ⟨q2, by rw [e1, e2], by omega⟩
    · exact ⟨q, by rw [swapFrom_stop hi], by omega⟩
theorem swapFrom_get (a b n : Nat) (hab : a + n ≤ b) (k i : Nat) (d : Array α) (h : n - i ≤ k) (hs : b + n ≤ d.size) (q : Nat) : (swapFrom a b n i d)[q]! = d[if a + i ≤ q ∧ q < a + n then q - a + b else if b + i ≤ q ∧ q < b + n then q - b + a else q]! := by
  obtain ⟨q', e, h1⟩ := swapFrom_ix a b n hab k i d h hs q
  rw [e]; congr 1
  (repeat' split) <;> omega
theorem swapFrom_perm (a b n x y : Nat) (hx : x ≤ a) (hab : a + n ≤ b) (hy : b + n ≤ y) : ∀ (k i : Nat) (d : Array α), n - i ≤ k → y ≤ d.size → PermIn x y d (swapFrom a b n i d)
  | 0, i, d, h, hs => by rw [swapFrom_stop (by omega)]; exact permIn_refl _ _ _
  | k + 1, i, d, h, hs => by
    by_cases hi : i < n
    · rw [swapFrom_go hi]
      exact permIn_trans _ _ _ _ _ (swp_permIn d x y _ _ (by omega) (by omega) (by omega) (by omega) hs) (swapFrom_perm a b n x y hx hab hy k _ _ (by omega) (by rw [size_swp]; exact hs))
    · rw [swapFrom_stop hi]; exact permIn_refl _ _ _

/-! ### rotation -/
def rotI (a m b k : Nat) : Nat := if a ≤ k ∧ k < a + (b - m) then k + (m - a) else if a + (b - m) ≤ k ∧ k < b then k - (b - m) else k
/-- the two parts of a place have changed places -/
structure RotD (d d' : Array α) (a m b : Nat) : Prop where
  perm : PermIn a b d d'
  get : ∀ k, d'[k]! = d[rotI a m b k]!
/-- what is left to be done of a rotation: i elements and j elements -/
structure RotW (d dk : Array α) (a m b i j : Nat) : Prop where
  perm : PermIn a b d dk
  get : ∀ k, dk[rotI (m - i) m (m + j) k]! = d[rotI a m b k]!
  i0 : 0 < i
  j0 : 0 < j
  il : a + i ≤ m
  jl : m + j ≤ b
theorem RotW.start {d : Array α} {a m b : Nat} (h1 : a < m) (h2 : m < b) : RotW d d a m b (m - a) (b - m) := by
  refine ⟨permIn_refl _ _ _, fun k => ?_, by omega, by omega, by omega, by omega⟩
  rw [show m - (m - a) = a by omega, show m + (b - m) = b by omega]
theorem RotW.gt {d dk : Array α} {a m b i j : Nat} (h : RotW d dk a m b i j) (hb : b ≤ d.size) (hij : j < i) : RotW d (swapFrom (m - i) m j 0 dk) a m b (i - j) j := by
  obtain ⟨h1, h2, h3, h4, h5, h6⟩ := h
  have hsz : dk.size = d.size := h1.1
  refine ⟨permIn_trans _ _ _ _ _ h1 (swapFrom_perm _ _ _ a b (by omega) (by omega) (by omega) j 0 dk (by omega) (by omega)), fun k => ?_, by omega, h4, by omega, h6⟩
  rw [← h2 k, swapFrom_get _ _ _ (by omega) j 0 dk (by omega) (by omega)]
  congr 1
  unfold rotI
  (repeat' split) <;> omega
theorem RotW.lt {d dk : Array α} {a m b i j : Nat} (h : RotW d dk a m b i j) (hb : b ≤ d.size) (hij : i < j) : RotW d (swapFrom (m - i) (m + j - i) i 0 dk) a m b i (j - i) := by
  obtain ⟨h1, h2, h3, h4, h5, h6⟩ := h
  have hsz : dk.size = d.size := h1.1
  refine ⟨permIn_trans _ _ _ _ _ h1 (swapFrom_perm _ _ _ a b (by omega) (by omega) (by omega) i 0 dk (by omega) (by omega)), fun k => ?_, h3, by omega, h5, by omega⟩
  rw [← h2 k, swapFrom_get _ _ _ (by omega) i 0 dk (by omega) (by omega)]
  congr 1
  unfold rotI
  (repeat' split) <;> omega
theorem RotW.done {d dk : Array α} {a m b i : Nat} (h : RotW d dk a m b i i) (hb : b ≤ d.size) : RotD d (swapFrom (m - i) m i 0 dk) a m b := by
  obtain ⟨h1, h2, h3, h4, h5, h6⟩ := h
  have hsz : dk.size = d.size := h1.1
  refine ⟨permIn_trans _ _ _ _ _ h1 (swapFrom_perm _ _ _ a b (by omega) (by omega) (by omega) i 0 dk (by omega) (by omega)), fun k => ?_⟩
  rw [← h2 k, swapFrom_get _ _ _ (by omega) i 0 dk (by omega) (by omega)]
  congr 1
  unfold rotI
  (repeat' split) <;> omega
theorem RotD.none {d : Array α} {a m b : Nat} (h : m ≤ a ∨ b ≤ m) (h1 : a ≤ m) (h2 : m ≤ b) : RotD d d a m b := by
  refine ⟨permIn_refl _ _ _, fun k => ?_⟩
  congr 1
  unfold rotI
  (repeat' split) <;> omega

/-! ### merging -/
section
variable {lt : α → α → Prop} {cf : α → α → Int}

/-- the place 'start', found -/
structure CutAt (cf : α → α → Int) (d : Array α) (n lo hi s : Nat) : Prop where
  l : lo ≤ s
  h : s ≤ hi
  below : s = lo ∨ ¬ cf d[n - 1 - (s - 1)]! d[s - 1]! < 0
  above : s = hi ∨ cf d[n - 1 - s]! d[s]! < 0

/-- the parts behind the rotation -/
structure Parts (lt : α → α → Prop) (cf : α → α → Int) (d : Array α) (a s mid e b : Nat) : Prop where
  left : MergeIn lt cf d a s mid
  right : MergeIn lt cf d mid e b
  low : ∀ i j, a ≤ i → i < mid → mid ≤ j → j < b → lt d[i]! d[j]!
  h1 : a ≤ s
  h2 : s ≤ mid
  h3 : mid ≤ e
  h4 : e ≤ b

theorem parts_of (tr : ∀ x y z, lt x y → lt y z → lt x z) {d d1 : Array α} {a m b mid lo hi s : Nat} (h : MergeIn lt cf d a m b) (ham : a < m) (hmb : m < b) (hmid : mid = (a + b) / 2)
    (hlo : lo = if mid < m then mid + m - b else a) (hhi : hi = if mid < m then mid else m) (hc : CutAt cf d (mid + m) lo hi s) (hr : RotD d d1 s m (mid + m - s)) : Parts lt cf d1 a s mid (mid + m - s) b := by
  obtain ⟨c1, c2, c3, c4⟩ := hc
  have hs1 : a ≤ s := by rw [hlo] at c1; split at c1 <;> omega
  have hs2 : s ≤ m := by rw [hhi] at c2; split at c2 <;> omega
  have hs3 : s ≤ mid := by rw [hhi] at c2; split at c2 <;> omega
  have he : mid + m - s ≤ b := by rw [hlo] at c1; split at c1 <;> omega
  have he2 : mid ≤ mid + m - s := by omega
  have he3 : m ≤ mid + m - s := by omega
  -- what lies where
  have g1 : ∀ k, a ≤ k → k < s → d1[k]! = d[k]! := fun k h1 h2 => by
    rw [hr.get]; congr 1; unfold rotI; rw [if_neg (by omega), if_neg (by omega)]
  have g2 : ∀ k, s ≤ k → k < mid → d1[k]! = d[k + (m - s)]! := fun k h1 h2 => by
    rw [hr.get]; congr 1; unfold rotI; rw [if_pos (by omega)]
  have g3 : ∀ k, mid ≤ k → k < mid + m - s → d1[k]! = d[k - (mid - s)]! := fun k h1 h2 => by
    rw [hr.get]; congr 1; unfold rotI; rw [if_neg (by omega), if_pos (by omega)]; omega
  have g4 : ∀ k, mid + m - s ≤ k → k < b → d1[k]! = d[k]! := fun k h1 h2 => by
    rw [hr.get]; congr 1; unfold rotI; rw [if_neg (by omega), if_neg (by omega)]
  refine ⟨⟨?_, ?_, ?_⟩, ⟨?_, ?_, ?_⟩, ?_, hs1, hs3, he2, he⟩
  · intro i j hi hij hj
    rw [g1 i hi (by omega), g1 j (by omega) hj]; exact h.l i j hi hij (by omega)
  · intro i j hi hij hj
    rw [g2 i hi (by omega), g2 j (by omega) hj]; exact h.r _ _ (by omega) (by omega) (by omega)
  · intro i j hi his hj hjm
    rw [g1 i hi his, g2 j hj hjm]; exact h.x _ _ hi (by omega) (by omega) (by omega)
  · intro i j hi hij hj
    rw [g3 i hi (by omega), g3 j (by omega) hj]; exact h.l _ _ (by omega) (by omega) (by omega)
  · intro i j hi hij hj
    rw [g4 i hi (by omega), g4 j (by omega) hj]; exact h.r _ _ (by omega) hij hj
  · intro i j hi his hj hjm
    rw [g3 i hi his, g4 j hj hjm]; exact h.x _ _ (by omega) (by omega) (by omega) hjm
  · -- below the middle, above the middle
    have key1 : ∀ i j, a ≤ i → i < s → mid + m - s ≤ j → j < b → lt d[i]! d[j]! := by
      intro i j h1 h2 h3 h4
      rcases c3 with c3 | c3
      · exfalso
        rw [hlo] at c3
        split at c3 <;> omega
      · have e1 : mid + m - 1 - (s - 1) = mid + m - s := by omega
        rw [e1] at c3
        have h5 := (h.x (s - 1) (mid + m - s) (by omega) (by omega) (by omega) (by omega)).2 c3
        have h6 : lt d[i]! d[mid + m - s]! := by
          by_cases hi : i = s - 1
          · subst hi; exact h5
          · exact tr _ _ _ (h.l i (s - 1) h1 (by omega) (by omega)) h5
        by_cases hj : j = mid + m - s
        · subst hj; exact h6
        · exact tr _ _ _ h6 (h.r _ _ (by omega) (by omega) h4)
    have key2 : ∀ i j, s ≤ i → i < m → m ≤ j → j < mid + m - s → lt d[j]! d[i]! := by
      intro i j h1 h2 h3 h4
      rcases c4 with c4 | c4
      · exfalso
        rw [hhi] at c4
        split at c4 <;> omega
      · have h5 := (h.x s (mid + m - 1 - s) (by omega) (by omega) (by omega) (by omega)).1 c4
        have h6 : lt d[j]! d[s]! := by
          by_cases hj : j = mid + m - 1 - s
          · subst hj; exact h5
          · exact tr _ _ _ (h.r j _ h3 (by omega) (by omega)) h5
        by_cases hi : i = s
        · subst hi; exact h6
        · exact tr _ _ _ h6 (h.l _ _ (by omega) (by omega) h2)
    intro i j h1 h2 h3 h4
    by_cases hi : i < s
    · rw [g1 i h1 hi]
      by_cases hj : j < mid + m - s
      · rw [g3 j h3 hj]; exact h.l _ _ h1 (by omega) (by omega)
      · rw [g4 j (by omega) h4]; exact key1 i j h1 hi (by omega) h4
    · rw [g2 i (by omega) h2]
      by_cases hj : j < mid + m - s
      · rw [g3 j h3 hj]; exact key2 _ _ (by omega) (by omega) (by omega) (by omega)
      · rw [g4 j (by omega) h4]; exact h.r _ _ (by omega) (by omega) h4

/-- what merging comes to -/
structure Merged (lt : α → α → Prop) (d d' : Array α) (a b : Nat) : Prop where
  perm : PermIn a b d d'
  srt : SortedBy lt d' a b
theorem Merged.none {d : Array α} {a m b : Nat} (h : MergeIn lt cf d a m b) (h1 : ¬ (a < m ∧ m < b)) (h2 : a ≤ m) (h3 : m ≤ b) : Merged lt d d a b := by
  refine ⟨permIn_refl _ _ _, fun i j h4 h5 h6 => ?_⟩
  by_cases ha : a = m
  · subst ha; exact h.r i j h4 h5 h6
  · have : m = b := by omega
    subst this; exact h.l i j h4 h5 h6
theorem MergeIn.same {d d' : Array α} {a m b : Nat} (h : MergeIn lt cf d a m b) (he : ∀ k, a ≤ k → k < b → d'[k]! = d[k]!) (h2 : a ≤ m) (h3 : m ≤ b) : MergeIn lt cf d' a m b :=
  ⟨fun i j h4 h5 h6 => by rw [he i h4 (by omega), he j (by omega) (by omega)]; exact h.l i j h4 h5 h6,
   fun i j h4 h5 h6 => by rw [he i (by omega) (by omega), he j (by omega) (by omega)]; exact h.r i j h4 h5 h6,
   fun i j h4 h5 h6 h7 => by rw [he i h4 (by omega), he j (by omega) h7]; exact h.x i j h4 h5 h6 h7⟩
theorem Parts.second {d1 d2 : Array α} {a s mid e b : Nat} (h : Parts lt cf d1 a s mid e b) (h2 : Merged lt d1 d2 a mid) : MergeIn lt cf d2 mid e b :=
  h.right.same (fun k hk _ => h2.perm.2.1 k (.inr hk)) h.h3 h.h4
theorem Parts.join {d d1 d2 d3 : Array α} {a s mid e b : Nat} (h : Parts lt cf d1 a s mid e b) (hb : b ≤ d.size) (hp : PermIn a b d d1) (h2 : Merged lt d1 d2 a mid) (h3 : Merged lt d2 d3 mid b) : Merged lt d d3 a b := by
  have hmid : a ≤ mid ∧ mid ≤ b := ⟨by have := h.h1; have := h.h2; omega, by have := h.h3; have := h.h4; omega⟩
  have s1 : d1.size = d.size := hp.1
  have s2 : d2.size = d1.size := h2.perm.1
  refine ⟨permIn_trans _ _ _ _ _ hp (permIn_trans _ _ _ _ _ (permIn_mono _ _ a mid a b (Nat.le_refl _) hmid.2 (by omega) h2.perm) (permIn_mono _ _ mid b a b hmid.1 (Nat.le_refl _) (by omega) h3.perm)), ?_⟩
  intro i j h4 h5 h6
  by_cases hi : i < mid
  · have ei : d3[i]! = d2[i]! := h3.perm.2.1 i (.inl hi)
    by_cases hj : j < mid
    · rw [ei, h3.perm.2.1 j (.inl hj)]; exact h2.srt i j h4 h5 hj
    · obtain ⟨i', q1, q2, q3⟩ := perm_mem (by omega) h2.perm h4 hi
      obtain ⟨j', q4, q5, q6⟩ := perm_mem (by omega) h3.perm (by omega : mid ≤ j) h6
      rw [ei, q3, q6, h2.perm.2.1 j' (.inr q4)]
      exact h.low i' j' q1 q2 q4 q5
  · exact h3.srt i j (by omega) h5 h6

/-! ### one element, laid into its place -/
def shiftR (e k : Nat) (d : Array α) : Array α := if k < e then shiftR e (k + 1) (swp d k (k + 1)) else d
termination_by e - k
theorem shiftR_go {e k : Nat} {d : Array α} (h : k < e) : shiftR e k d = shiftR e (k + 1) (swp d k (k + 1)) := by
  conv => lhs; unfold shiftR
  rw [if_pos h]
theorem shiftR_stop {e k : Nat} {d : Array α} (h : ¬ k < e) : shiftR e k d = d := by
  unfold shiftR; rw [if_neg h]
theorem shiftR_ix (e : Nat) : ∀ (n k : Nat) (d : Array α), e - k ≤ n → e < d.size → ∀ q, ∃ q', (shiftR e k d)[q]! = d[q']! ∧ ((k ≤ q ∧ q < e ∧ q' = q + 1) ∨ (q = e ∧ k ≤ e ∧ q' = k) ∨ (¬ (k ≤ q ∧ q ≤ e) ∧ q' = q))
  | 0, k, d, h, hs, q => ⟨q, by rw [shiftR_stop (by omega)], by omega⟩
  | n + 1, k, d, h, hs, q => by
    by_cases hk : k < e
    · rw [shiftR_go hk]
      obtain ⟨q1, e1, h1⟩ := shiftR_ix e n (k + 1) (swp d k (k + 1)) (by omega) (by rw [size_swp]; exact hs) q
      obtain ⟨q2, e2, h2⟩ := swp_ix d (show k < d.size by omega) (show k + 1 < d.size by omega) q1
      exact ⟨q2, by rw [e1, e2], by omega⟩
    · exact ⟨q, by rw [shiftR_stop hk], by omega⟩
theorem shiftR_get (e n k : Nat) (d : Array α) (h : e - k ≤ n) (hs : e < d.size) (q : Nat) : (shiftR e k d)[q]! = d[if k ≤ q ∧ q < e then q + 1 else if q = e ∧ k ≤ e then k else q]! := by
  obtain ⟨q', e1, h1⟩ := shiftR_ix e n k d h hs q
  rw [e1]; congr 1
  (repeat' split) <;> omega
theorem shiftR_perm (e x y : Nat) (hey : e < y) : ∀ (n k : Nat) (d : Array α), e - k ≤ n → x ≤ k → y ≤ d.size → PermIn x y d (shiftR e k d)
  | 0, k, d, h, hx, hs => by rw [shiftR_stop (by omega)]; exact permIn_refl _ _ _
  | n + 1, k, d, h, hx, hs => by
    by_cases hk : k < e
    · rw [shiftR_go hk]
      exact permIn_trans _ _ _ _ _ (swp_permIn d x y _ _ (by omega) (by omega) (by omega) (by omega) hs) (shiftR_perm e x y hey n _ _ (by omega) (by omega) (by rw [size_swp]; exact hs))
    · rw [shiftR_stop hk]; exact permIn_refl _ _ _
def shiftL (i k : Nat) (d : Array α) : Array α := if i < k then shiftL i (k - 1) (swp d k (k - 1)) else d
termination_by k
theorem shiftL_go {i k : Nat} {d : Array α} (h : i < k) : shiftL i k d = shiftL i (k - 1) (swp d k (k - 1)) := by
  conv => lhs; unfold shiftL
  rw [if_pos h]
theorem shiftL_stop {i k : Nat} {d : Array α} (h : ¬ i < k) : shiftL i k d = d := by
  unfold shiftL; rw [if_neg h]
theorem shiftL_ix (i : Nat) : ∀ (n k : Nat) (d : Array α), k ≤ n → k < d.size → ∀ q, ∃ q', (shiftL i k d)[q]! = d[q']! ∧ ((i < q ∧ q ≤ k ∧ q' = q - 1) ∨ (q = i ∧ i ≤ k ∧ q' = k) ∨ (¬ (i ≤ q ∧ q ≤ k) ∧ q' = q))
  | 0, k, d, h, hs, q => ⟨q, by rw [shiftL_stop (by omega)], by omega⟩
  | n + 1, k, d, h, hs, q => by
    by_cases hk : i < k
    · rw [shiftL_go hk]
      obtain ⟨q1, e1, h1⟩ := shiftL_ix i n (k - 1) (swp d k (k - 1)) (by omega) (by rw [size_swp]; omega) q
      obtain ⟨q2, e2, h2⟩ := swp_ix d (show k < d.size by omega) (show k - 1 < d.size by omega) q1
      exact ⟨q2, by rw [e1, e2], by omega⟩
    · exact ⟨q, by rw [shiftL_stop hk], by omega⟩
theorem shiftL_get (i n k : Nat) (d : Array α) (h : k ≤ n) (hs : k < d.size) (q : Nat) : (shiftL i k d)[q]! = d[if i < q ∧ q ≤ k then q - 1 else if q = i ∧ i ≤ k then k else q]! := by
  obtain ⟨q', e1, h1⟩ := shiftL_ix i n k d h hs q
  rw [e1]; congr 1
  (repeat' split) <;> omega
theorem shiftL_perm (i x y : Nat) (hx : x ≤ i) : ∀ (n k : Nat) (d : Array α), k ≤ n → k < y → y ≤ d.size → PermIn x y d (shiftL i k d)
  | 0, k, d, h, hy, hs => by rw [shiftL_stop (by omega)]; exact permIn_refl _ _ _
  | n + 1, k, d, h, hy, hs => by
    by_cases hk : i < k
    · rw [shiftL_go hk]
      exact permIn_trans _ _ _ _ _ (swp_permIn d x y _ _ (by omega) (by omega) (by omega) (by omega) hs) (shiftL_perm i x y hx n _ _ (by omega) (by omega) (by rw [size_swp]; exact hs))
    · rw [shiftL_stop hk]; exact permIn_refl _ _ _

/-- the first one, laid into the later part -/
theorem Merged.first (tr : ∀ x y z, lt x y → lt y z → lt x z) {d : Array α} {a m b i : Nat} (h : MergeIn lt cf d a m b) (hm : m = a + 1) (hb : b ≤ d.size) (h1 : m ≤ i) (h2 : i ≤ b) (h3 : i = m ∨ cf d[i - 1]! d[a]! < 0) (h4 : i = b ∨ ¬ cf d[i]! d[a]! < 0) :
    Merged lt d (shiftR (i - 1) a d) a b := by
  subst hm
  refine ⟨shiftR_perm _ _ _ (by omega) _ _ _ (Nat.le_refl _) (Nat.le_refl _) hb, ?_⟩
  have g := shiftR_get (i - 1) _ a d (Nat.le_refl _) (by omega)
  have k1 : ∀ q, a + 1 ≤ q → q < i → lt d[q]! d[a]! := by
    intro q q1 q2
    rcases h3 with h3 | h3
    · omega
    · have h5 := (h.x a (i - 1) (by omega) (by omega) (by omega) (by omega)).1 h3
      by_cases hq : q = i - 1
      · subst hq; exact h5
      · exact tr _ _ _ (h.r q (i - 1) q1 (by omega) (by omega)) h5
  have k2 : ∀ q, i ≤ q → q < b → lt d[a]! d[q]! := by
    intro q q1 q2
    rcases h4 with h4 | h4
    · omega
    · have h5 := (h.x a i (by omega) (by omega) (by omega) (by omega)).2 h4
      by_cases hq : q = i
      · subst hq; exact h5
      · exact tr _ _ _ h5 (h.r i q (by omega) (by omega) (by omega))
  intro p q h5 h6 h7
  rw [g, g]
  by_cases c1 : a ≤ p ∧ p < i - 1
  · rw [if_pos c1]
    by_cases c2 : a ≤ q ∧ q < i - 1
    · rw [if_pos c2]; exact h.r _ _ (by omega) (by omega) (by omega)
    · rw [if_neg c2]
      by_cases c3 : q = i - 1 ∧ a ≤ i - 1
      · rw [if_pos c3]; exact k1 _ (by omega) (by omega)
      · rw [if_neg c3]; exact h.r _ _ (by omega) (by omega) (by omega)
  · rw [if_neg c1]
    by_cases c4 : p = i - 1 ∧ a ≤ i - 1
    · rw [if_pos c4, if_neg (by omega), if_neg (by omega)]
      exact k2 _ (by omega) h7
    · rw [if_neg c4, if_neg (by omega), if_neg (by omega)]
      exact h.r _ _ (by omega) h6 h7
/-- the last one, laid into the earlier part -/
theorem Merged.last (tr : ∀ x y z, lt x y → lt y z → lt x z) {d : Array α} {a m b i : Nat} (h : MergeIn lt cf d a m b) (hm : b = m + 1) (ham : a ≤ m) (hb : b ≤ d.size) (h1 : a ≤ i) (h2 : i ≤ m) (h3 : i = a ∨ ¬ cf d[m]! d[i - 1]! < 0) (h4 : i = m ∨ cf d[m]! d[i]! < 0) :
    Merged lt d (shiftL i m d) a b := by
  subst hm
  refine ⟨shiftL_perm _ _ _ h1 _ _ _ (Nat.le_refl _) (by omega) hb, ?_⟩
  have g := shiftL_get i _ m d (Nat.le_refl _) (by omega)
  have k1 : ∀ q, a ≤ q → q < i → lt d[q]! d[m]! := by
    intro q q1 q2
    rcases h3 with h3 | h3
    · omega
    · have h5 := (h.x (i - 1) m (by omega) (by omega) (by omega) (by omega)).2 h3
      by_cases hq : q = i - 1
      · subst hq; exact h5
      · exact tr _ _ _ (h.l q (i - 1) q1 (by omega) (by omega)) h5
  have k2 : ∀ q, i ≤ q → q < m → lt d[m]! d[q]! := by
    intro q q1 q2
    rcases h4 with h4 | h4
    · omega
    · have h5 := (h.x i m (by omega) (by omega) (by omega) (by omega)).1 h4
      by_cases hq : q = i
      · subst hq; exact h5
      · exact tr _ _ _ h5 (h.l i q (by omega) (by omega) (by omega))
  intro p q h5 h6 h7
  rw [g, g]
  by_cases c1 : i < p ∧ p ≤ m
  · rw [if_pos c1, if_pos (by omega)]; exact h.l _ _ (by omega) (by omega) (by omega)
  · rw [if_neg c1]
    by_cases c4 : p = i ∧ i ≤ m
    · rw [if_pos c4]
      rw [if_pos (by omega)]; exact k2 _ (by omega) (by omega)
    · rw [if_neg c4]
      by_cases c2 : i < q ∧ q ≤ m
      · rw [if_pos c2]; exact h.l _ _ (by omega) (by omega) (by omega)
      · rw [if_neg c2]
        by_cases c3 : q = i ∧ i ≤ m
        · rw [if_pos c3]; exact k1 _ (by omega) (by omega)
        · rw [if_neg c3]; exact h.l p q h5 h6 (by omega)

/-! ### insertion -/
structure InsW (lt : α → α → Prop) (cf : α → α → Int) (d : Array α) (a j i : Nat) : Prop where
  rest : ∀ p q, a ≤ p → p < q → q ≤ i → p ≠ j → q ≠ j → lt d[p]! d[q]!
  right : ∀ q, j < q → q ≤ i → lt d[j]! d[q]!
  x : ∀ p, a ≤ p → p < j → CrossB lt cf d[p]! d[j]!
theorem insInner_by (tr : ∀ x y z, lt x y → lt y z → lt x z) (a i : Nat) : ∀ (j : Nat) (d : Array α), a ≤ j → j ≤ i → i < d.size → InsW lt cf d a j i → Merged lt d (insInner (fun x y => decide (cf x y < 0)) a j d) a (i + 1)
  | 0, d, h1, h2, h3, h => by
    refine ⟨permIn_refl _ _ _, ?_⟩
    show SortedBy lt d a (i + 1)
    intro p q h5 h6 h7
    by_cases hp : p = 0
    · subst hp; exact h.right q h6 (by omega)
    · exact h.rest p q h5 h6 (by omega) hp (by omega)
  | j + 1, d, h1, h2, h3, h => by
    unfold insInner
    by_cases hc : a < j + 1 ∧ cf d[j + 1]! d[j]! < 0
    · have hcond : ((decide (j + 1 > a)) && decide (cf d[j + 1]! d[j]! < 0)) = true := by simp [hc.1, hc.2]
      rw [if_pos hcond]
      have g := swp_get d (show j + 1 < d.size by omega) (show j < d.size by omega)
      have hlt := (h.x j (by omega) (by omega)).1 hc.2
      have := insInner_by tr a i j (swp d (j + 1) j) (by omega) (by omega) (by rw [size_swp]; exact h3) (by
        refine ⟨?_, ?_, ?_⟩
        · intro p q h5 h6 h7 h8 h9
          rw [g, g, if_neg h8, if_neg h9]
          by_cases c1 : q = j + 1
          · rw [if_pos c1, if_neg (by omega)]
            exact h.rest p j h5 (by omega) (by omega) (by omega) (by omega)
          · rw [if_neg c1]
            by_cases c2 : p = j + 1
            · rw [if_pos c2]; exact h.rest j q (by omega) (by omega) h7 (by omega) (by omega)
            · rw [if_neg c2]; exact h.rest p q h5 h6 h7 c2 c1
        · intro q h5 h6
          rw [g, g, if_pos rfl, if_neg (by omega : ¬ q = j)]
          by_cases c1 : q = j + 1
          · rw [if_pos c1]; exact hlt
          · rw [if_neg c1]; exact h.right q (by omega) h6
        · intro p h5 h6
          rw [g, g, if_pos rfl, if_neg (by omega : ¬ p = j), if_neg (by omega : ¬ p = j + 1)]
          exact h.x p h5 (by omega))
      refine ⟨permIn_trans _ _ _ _ _ (swp_permIn d a (i + 1) _ _ (by omega) (by omega) (by omega) (by omega) (by omega)) this.perm, this.srt⟩
    · have hcond : ((decide (j + 1 > a)) && decide (cf d[j + 1]! d[j]! < 0)) = false := by
        rcases Classical.not_and_iff_not_or_not.1 hc with h5 | h5
        · simp [show ¬ (j + 1 > a) from h5]
        · simp [h5]
      rw [if_neg (by rw [hcond]; simp)]
      refine ⟨permIn_refl _ _ _, ?_⟩
      have hl : ∀ p, a ≤ p → p < j + 1 → lt d[p]! d[j + 1]! := by
        intro p h5 h6
        rcases Classical.not_and_iff_not_or_not.1 hc with h7 | h7
        · omega
        · have h8 := (h.x j (by omega) (by omega)).2 h7
          by_cases hp : p = j
          · subst hp; exact h8
          · exact tr _ _ _ (h.rest p j h5 (by omega) (by omega) (by omega) (by omega)) h8
      intro p q h5 h6 h7
      by_cases hq : q = j + 1
      · subst hq; exact hl p h5 h6
      · by_cases hp : p = j + 1
        · subst hp; exact h.right q h6 (by omega)
        · exact h.rest p q h5 h6 (by omega) hp hq
theorem insOuter_by (tr : ∀ x y z, lt x y → lt y z → lt x z) {d0 : Array α} {a b : Nat} (hb : b ≤ d0.size) (hx : ∀ p q, a ≤ p → p < q → q < b → CrossB lt cf d0[p]! d0[q]!) : ∀ (n i : Nat) (d : Array α), b - i ≤ n → a ≤ i → i ≤ b →
    Merged lt d0 d a i → Merged lt d0 (insOuter (fun x y => decide (cf x y < 0)) a b i d) a b
  | 0, i, d, h1, h2, h3, h => by
    unfold insOuter
    rw [if_neg (by omega)]
    have : i = b := by omega
    subst this; exact h
  | n + 1, i, d, h1, h2, h3, h => by
    unfold insOuter
    have hsz : d.size = d0.size := h.perm.1
    by_cases hi : i < b
    · rw [if_pos hi]
      have hm := insInner_by (lt := lt) (cf := cf) tr a i i d h2 (Nat.le_refl _) (by omega) ⟨fun p q h5 h6 h7 h8 h9 => h.srt p q h5 h6 (by omega), fun q h5 h6 => by omega, fun p h5 h6 => by
        obtain ⟨p', q1, q2, q3⟩ := perm_mem (by omega) h.perm h5 h6
        rw [q3, h.perm.2.1 i (.inr (Nat.le_refl _))]
        exact hx p' i q1 q2 hi⟩
      exact insOuter_by tr hb hx n (i + 1) _ (by omega) (by omega) (by omega) ⟨permIn_trans _ _ _ _ _ (permIn_mono _ _ a i a (i + 1) (Nat.le_refl _) (by omega) (by omega) h.perm) hm.perm, hm.srt⟩
    · rw [if_neg hi]
      have : i = b := by omega
      subst this; exact h
theorem insertion_by (tr : ∀ x y z, lt x y → lt y z → lt x z) {d : Array α} {a b : Nat} (hab : a ≤ b) (hb : b ≤ d.size) (hx : ∀ p q, a ≤ p → p < q → q < b → CrossB lt cf d[p]! d[q]!) : Merged lt d (insertionSort (fun x y => decide (cf x y < 0)) d a b) a b := by
  unfold insertionSort
  by_cases h : a + 1 ≤ b
  · exact insOuter_by tr hb hx _ (a + 1) d (Nat.le_refl _) (by omega) h ⟨permIn_refl _ _ _, fun i j h1 h2 h3 => by omega⟩
  · unfold insOuter
    rw [if_neg (by omega)]
    exact ⟨permIn_refl _ _ _, fun i j h1 h2 h3 => by omega⟩
end
/-! ### blocks -/
section
variable {lt : α → α → Prop} {cf : α → α → Int} {tg : α → Nat}
theorem SortedBy.same {d d' : Array α} {a b : Nat} (h : SortedBy lt d a b) (he : ∀ k, a ≤ k → k < b → d'[k]! = d[k]!) : SortedBy lt d' a b := by
  intro i j h1 h2 h3
  rw [he i h1 (by omega), he j (by omega) h3]; exact h i j h1 h2 h3
theorem perm_tag {d d' : Array α} {a b n bs : Nat} (hp : PermIn a b d d') (hbn : b ≤ n) (hn : n ≤ d.size) (h : ∀ k, k < n → tg d[k]! / bs = k / bs) (hab : ∀ i j, a ≤ i → i < b → a ≤ j → j < b → i / bs = j / bs) : ∀ k, k < n → tg d'[k]! / bs = k / bs := by
  intro k hk
  by_cases h1 : a ≤ k ∧ k < b
  · obtain ⟨k', q1, q2, q3⟩ := perm_mem (by omega) hp h1.1 h1.2
    rw [q3, h k' (by omega)]
    exact hab _ _ q1 q2 h1.1 h1.2
  · rw [hp.2.1 k (by omega)]; exact h k hk
/-- the first blocks are sorted -/
structure Blk1 (lt : α → α → Prop) (tg : α → Nat) (d0 dk : Array α) (n a : Nat) : Prop where
  perm : PermIn 0 n d0 dk
  mul : a % 20 = 0
  srt : ∀ q, q * 20 < a → SortedBy lt dk (q * 20) (q * 20 + 20)
  tag : ∀ k, k < n → tg dk[k]! / 20 = k / 20
  rest : ∀ k, a ≤ k → k < n → tg dk[k]! = k
/-- all blocks are sorted -/
structure Blks (lt : α → α → Prop) (tg : α → Nat) (d0 dk : Array α) (n bs : Nat) : Prop where
  perm : PermIn 0 n d0 dk
  srt : ∀ q, SortedBy lt dk (q * bs) (min (q * bs + bs) n)
  tag : ∀ k, k < n → tg dk[k]! / bs = k / bs
/-- the blocks ahead of a are merged two by two -/
structure BlkW (lt : α → α → Prop) (tg : α → Nat) (d0 dk : Array α) (n bs q : Nat) : Prop where
  perm : PermIn 0 n d0 dk
  srt2 : ∀ p, p < q → SortedBy lt dk (p * (2 * bs)) (p * (2 * bs) + 2 * bs)
  srt : ∀ p, 2 * q ≤ p → SortedBy lt dk (p * bs) (min (p * bs + bs) n)
  tag2 : ∀ k, k < n → tg dk[k]! / (2 * bs) = k / (2 * bs)
  tag : ∀ k, q * (2 * bs) ≤ k → k < n → tg dk[k]! / bs = k / bs
theorem Blk1.start {d0 : Array α} {n : Nat} (ht : ∀ k, k < n → tg d0[k]! = k) : Blk1 lt tg d0 d0 n 0 :=
  ⟨permIn_refl _ _ _, rfl, fun q h => by omega, fun k hk => by rw [ht k hk], fun k _ hk => ht k hk⟩
theorem Blk1.step (tr : ∀ x y z, lt x y → lt y z → lt x z) (hX : ∀ x y, tg x < tg y → CrossB lt cf x y) {d0 dk : Array α} {n a b : Nat} (h : Blk1 lt tg d0 dk n a) (hn : n ≤ d0.size) (hab : a ≤ b) (hb : b ≤ n) (hb2 : b ≤ a + 20) :
    Merged lt dk (insertionSort (fun x y => decide (cf x y < 0)) dk a b) a b := by
  have hs : dk.size = d0.size := h.perm.1
  refine insertion_by tr hab (by omega) fun p q h1 h2 h3 => hX _ _ ?_
  rw [h.rest p h1 (by omega), h.rest q (by omega) (by omega)]; exact h2
theorem Blk1.next {d0 dk d' : Array α} {n a : Nat} (h : Blk1 lt tg d0 dk n a) (hn : n ≤ d0.size) (hb : a + 20 ≤ n) (hm : Merged lt dk d' a (a + 20)) : Blk1 lt tg d0 d' n (a + 20) := by
  have hs : dk.size = d0.size := h.perm.1
  have hmul := h.mul
  refine ⟨permIn_trans _ _ _ _ _ h.perm (permIn_mono _ _ a (a + 20) 0 n (Nat.zero_le _) hb (by omega) hm.perm), by omega, fun q hq => ?_, perm_tag hm.perm hb (by omega) h.tag fun i j h1 h2 h3 h4 => by omega, fun k h1 h2 => by rw [hm.perm.2.1 k (.inr h1)]; exact h.rest k (by omega) h2⟩
  by_cases h1 : q * 20 < a
  · exact (h.srt q h1).same fun k h2 h3 => hm.perm.2.1 k (.inl (by omega))
  · have : q * 20 = a := by omega
    rw [this]; exact hm.srt
theorem Blk1.last {d0 dk d' : Array α} {n a : Nat} (h : Blk1 lt tg d0 dk n a) (hn : n ≤ d0.size) (ha : a ≤ n) (hb : n < a + 20) (hm : Merged lt dk d' a n) : Blks lt tg d0 d' n 20 := by
  have hs : dk.size = d0.size := h.perm.1
  have hmul := h.mul
  refine ⟨permIn_trans _ _ _ _ _ h.perm (permIn_mono _ _ a n 0 n (Nat.zero_le _) (Nat.le_refl _) (by omega) hm.perm), fun q => ?_, perm_tag hm.perm (Nat.le_refl _) (by omega) h.tag fun i j h1 h2 h3 h4 => by omega⟩
  by_cases h1 : q * 20 < a
  · rw [Nat.min_eq_left (by omega)]
    exact (h.srt q h1).same fun k h2 h3 => hm.perm.2.1 k (.inl (by omega))
  · intro i j h2 h3 h4
    by_cases h5 : q * 20 = a
    · refine hm.srt i j (by omega) h3 (by omega)
    · exfalso
      have : min (q * 20 + 20) n ≤ n := Nat.min_le_right _ _
      omega
theorem Blks.whole {d0 dk : Array α} {n bs : Nat} (h : Blks lt tg d0 dk n bs) (hb : n ≤ bs) : Merged lt d0 dk 0 n := by
  refine ⟨h.perm, ?_⟩
  have := h.srt 0
  rw [Nat.zero_mul, Nat.zero_add, Nat.min_eq_right hb] at this
  exact this
theorem tag_double {t k bs : Nat} (h : t / bs = k / bs) : t / (2 * bs) = k / (2 * bs) := by
  rw [Nat.mul_comm, ← Nat.div_div_eq_div_mul, ← Nat.div_div_eq_div_mul, h]
theorem BlkW.start {d0 dk : Array α} {n bs : Nat} (h : Blks lt tg d0 dk n bs) : BlkW lt tg d0 dk n bs 0 :=
  ⟨h.perm, fun p hp => by omega, fun p _ => h.srt p, fun k hk => tag_double (h.tag k hk), fun k _ hk => h.tag k hk⟩
theorem two_mul_mul (q bs : Nat) : q * (2 * bs) = 2 * q * bs := by rw [← Nat.mul_assoc, Nat.mul_comm q 2]
theorem div_in {bs p k : Nat} (hb : 0 < bs) (h1 : p * bs ≤ k) (h2 : k < p * bs + bs) : k / bs = p := by
  refine Nat.div_eq_of_lt_le h1 ?_
  rw [Nat.add_mul, Nat.one_mul]; exact h2
theorem BlkW.merge (hX : ∀ x y, tg x < tg y → CrossB lt cf x y) {d0 dk : Array α} {n bs q b : Nat} (h : BlkW lt tg d0 dk n bs q) (hbs : 0 < bs) (hm : q * (2 * bs) + bs < b) (hb : b ≤ n) (hb2 : b ≤ q * (2 * bs) + 2 * bs) (hb3 : b = n ∨ b = q * (2 * bs) + 2 * bs) :
    MergeIn lt cf dk (q * (2 * bs)) (q * (2 * bs) + bs) b := by
  have e := two_mul_mul q bs
  refine ⟨?_, ?_, ?_⟩
  · have := h.srt (2 * q) (Nat.le_refl _)
    rw [← e, Nat.min_eq_left (by omega)] at this
    exact this
  · have := h.srt (2 * q + 1) (by omega)
    rw [Nat.add_mul, Nat.one_mul, ← e] at this
    intro i j h1 h2 h3
    refine this i j h1 h2 ?_
    rw [Nat.lt_min]; omega
  · intro i j h1 h2 h3 h4
    refine hX _ _ ?_
    have t1 := h.tag i h1 (by omega)
    have t2 := h.tag j (by omega) (by omega)
    rw [div_in (k := i) hbs (p := 2 * q) (by omega) (by omega)] at t1
    rw [div_in (k := j) hbs (p := 2 * q + 1) (by rw [Nat.add_mul, Nat.one_mul]; omega) (by rw [Nat.add_mul, Nat.one_mul]; omega)] at t2
    refine Classical.byContradiction fun hn => ?_
    have := Nat.div_le_div_right (c := bs) (Nat.le_of_not_lt hn)
    omega
theorem perm_tag2 {d0 dk d' : Array α} {n bs q b : Nat} (h : BlkW lt tg d0 dk n bs q) (hbs : 0 < bs) (hn : n ≤ d0.size) (hb : b ≤ n) (hb2 : b ≤ q * (2 * bs) + 2 * bs) (hm : PermIn (q * (2 * bs)) b dk d') : ∀ k, k < n → tg d'[k]! / (2 * bs) = k / (2 * bs) := by
  have hs : dk.size = d0.size := h.perm.1
  refine perm_tag hm hb (by omega) h.tag2 fun i j h1 h2 h3 h4 => ?_
  rw [div_in (by omega) h1 (by omega), div_in (by omega) h3 (by omega)]
theorem BlkW.next {d0 dk d' : Array α} {n bs q : Nat} (h : BlkW lt tg d0 dk n bs q) (hbs : 0 < bs) (hn : n ≤ d0.size) (hb : q * (2 * bs) + 2 * bs ≤ n) (hm : Merged lt dk d' (q * (2 * bs)) (q * (2 * bs) + 2 * bs)) : BlkW lt tg d0 d' n bs (q + 1) := by
  have hs : dk.size = d0.size := h.perm.1
  have e : (q + 1) * (2 * bs) = q * (2 * bs) + 2 * bs := by rw [Nat.add_mul, Nat.one_mul]
  refine ⟨permIn_trans _ _ _ _ _ h.perm (permIn_mono _ _ _ _ 0 n (Nat.zero_le _) hb (by omega) hm.perm), fun p hp => ?_, fun p hp => ?_, perm_tag2 h hbs hn hb (Nat.le_refl _) hm.perm, fun k h1 h2 => ?_⟩
  · by_cases h1 : p = q
    · subst h1; exact hm.srt
    · have h2 : (p + 1) * (2 * bs) ≤ q * (2 * bs) := Nat.mul_le_mul_right _ (by omega)
      rw [Nat.add_mul, Nat.one_mul] at h2
      exact (h.srt2 p (by omega)).same fun k h3 h4 => hm.perm.2.1 k (.inl (by omega))
  · have h2 : 2 * (q + 1) * bs ≤ p * bs := Nat.mul_le_mul_right _ hp
    rw [← two_mul_mul, e] at h2
    exact (h.srt p (by omega)).same fun k h3 h4 => hm.perm.2.1 k (.inr (by omega))
  · rw [e] at h1
    rw [hm.perm.2.1 k (.inr h1)]; exact h.tag k (by omega) h2
theorem BlkW.last {d0 dk d' : Array α} {n bs q : Nat} (h : BlkW lt tg d0 dk n bs q) (hbs : 0 < bs) (hn : n ≤ d0.size) (hb : n < q * (2 * bs) + 2 * bs) (hm1 : q * (2 * bs) + bs < n) (hm : Merged lt dk d' (q * (2 * bs)) n) : Blks lt tg d0 d' n (2 * bs) := by
  have hs : dk.size = d0.size := h.perm.1
  refine ⟨permIn_trans _ _ _ _ _ h.perm (permIn_mono _ _ _ _ 0 n (Nat.zero_le _) (Nat.le_refl _) (by omega) hm.perm), fun p => ?_, perm_tag2 h hbs hn (Nat.le_refl _) (by omega) hm.perm⟩
  by_cases h1 : p < q
  · have h2 : (p + 1) * (2 * bs) ≤ q * (2 * bs) := Nat.mul_le_mul_right _ h1
    rw [Nat.add_mul, Nat.one_mul] at h2
    rw [Nat.min_eq_left (by omega)]
    exact (h.srt2 p h1).same fun k h3 h4 => hm.perm.2.1 k (.inl (by omega))
  · by_cases h2 : p = q
    · subst h2; rw [Nat.min_eq_right (by omega)]; exact hm.srt
    · have h3 : (q + 1) * (2 * bs) ≤ p * (2 * bs) := Nat.mul_le_mul_right _ (by omega)
      rw [Nat.add_mul, Nat.one_mul] at h3
      intro i j h4 h5 h6
      have : min (p * (2 * bs) + 2 * bs) n ≤ n := Nat.min_le_right _ _
      omega
theorem BlkW.rest {d0 dk : Array α} {n bs q : Nat} (h : BlkW lt tg d0 dk n bs q) (hbs : 0 < bs) (hn : n ≤ d0.size) (hm1 : n ≤ q * (2 * bs) + bs) : Blks lt tg d0 dk n (2 * bs) := by
  refine ⟨h.perm, fun p => ?_, h.tag2⟩
  by_cases h1 : p < q
  · intro i j h4 h5 h6
    rw [Nat.lt_min] at h6
    exact h.srt2 p h1 i j h4 h5 h6.1
  · by_cases h2 : p = q
    · subst h2
      have := h.srt (2 * p) (Nat.le_refl _)
      rw [← two_mul_mul, Nat.min_eq_right hm1] at this
      rw [Nat.min_eq_right (by omega)]; exact this
    · have h3 : (q + 1) * (2 * bs) ≤ p * (2 * bs) := Nat.mul_le_mul_right _ (by omega)
      rw [Nat.add_mul, Nat.one_mul] at h3
      intro i j h4 h5 h6
      have : min (p * (2 * bs) + 2 * bs) n ≤ n := Nat.min_le_right _ _
      omega
end
/-! ### what halving knows -/
structure BsA (cf : α → α → Int) (d : Array α) (a m b i j : Nat) : Prop where
  l : i = m ∨ cf d[i - 1]! d[a]! < 0
  h : j = b ∨ ¬ cf d[j]! d[a]! < 0
structure BsB (cf : α → α → Int) (d : Array α) (a m i j : Nat) : Prop where
  l : i = a ∨ ¬ cf d[m]! d[i - 1]! < 0
  h : j = m ∨ cf d[m]! d[j]! < 0
structure BsC (cf : α → α → Int) (d : Array α) (n lo hi i j : Nat) : Prop where
  l : i = lo ∨ ¬ cf d[n - 1 - (i - 1)]! d[i - 1]! < 0
  h : j = hi ∨ cf d[n - 1 - j]! d[j]! < 0
end Go.Proofs.R
