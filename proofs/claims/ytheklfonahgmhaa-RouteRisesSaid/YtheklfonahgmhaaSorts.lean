/- slices.SortFunc at structs does with a row what the evaluator tells. -/
import Derived.Test.YtheklfonahgmhaaMachine0
import Derived.Shelf.SlSortCmp.WholeK
import Derived.Shelf.SlSortCmp.NoneTotal
import Derived.Sort.LotA
import Derived.Sort.WalkA
import Derived.Shelf.SlSortCmp.Insertion1
set_option linter.unusedVariables false
set_option linter.unusedSimpArgs false
section
namespace Go.Proofs.R
open Go Go.Shelf Go.Sort
set_option linter.unusedVariables false
set_option linter.unusedSimpArgs false
theorem flatK_list {α : Type} [Inhabited α] {enc : α → List Value} {k : Nat} (hk : ∀ x, (enc x).length = k) (d : List α) : flatK enc k d.toArray = (d.flatMap enc).toArray := by
 have hlen : ∀ l : List α, (l.flatMap enc).length = l.length * k := by
  intro l
  induction l with
  | nil => simp
  | cons y l ih => rw [List.flatMap_cons, List.length_append, ih, hk, List.length_cons, Nat.add_mul]; omega
 have hget : ∀ (l : List α) (t : Nat), t < l.length * k → ((l.flatMap enc)[t]?).getD undef = (enc (l.toArray[t / k]!))[t % k]! := by
  intro l
  induction l with
  | nil => intro t ht; simp at ht
  | cons y l ih =>
   intro t ht
   have hk0 : 0 < k := by
    rcases Nat.eq_zero_or_pos k with h | h
    ·subst h; simp at ht
    ·exact h
   rw [List.flatMap_cons]
   by_cases h1 : t < k
   ·rw [List.getElem?_append_left (by rw [hk]; exact h1), Nat.div_eq_of_lt h1, Nat.mod_eq_of_lt h1]
    have : t < (enc y).length := by rw [hk]; exact h1
    simp [this]
   ·have h2 : k ≤ t := by omega
    rw [List.getElem?_append_right (by rw [hk]; exact h2), hk, ih (t - k) (by rw [List.length_cons, Nat.add_mul] at ht; omega)]
    have e1 : t / k = (t - k) / k + 1 := by rw [Nat.div_eq_sub_div hk0 h2]
    have e2 : t % k = (t - k) % k := by rw [Nat.mod_eq_sub_mod h2]
    rw [e1, e2]
    congr 2
    by_cases h3 : (t - k) / k < l.length
    ·simp [h3]
    ·simp [h3]
 apply Array.ext
 ·simp [hlen]
 ·intro t h1 h2
  have ht : t < d.length * k := by simpa using h1
  have h3 := get_flatK enc k d.toArray t (by simpa using ht)
  rw [getElem!_pos _ t h1] at h3
  rw [h3, ← hget d t ht]
  have : t < (d.flatMap enc).length := by rw [hlen]; exact ht
  rw [List.getElem?_eq_getElem this]; rfl
theorem put_cells_id {zs pre cs rest : List Value} (hl : cs.length = zs.length) : putCells id pre.length zs.toArray (pre ++ (cs ++ rest)).toArray = (pre ++ (zs ++ rest)).toArray := by
 apply Array.ext
 ·simp [putCells, hl]
 ·intro k h1 h2
  simp only [putCells, Array.getElem_mapIdx, List.size_toArray]
  by_cases hk : pre.length ≤ k ∧ k < pre.length + zs.length
  ·rw [if_pos hk, getElem!_pos zs.toArray (k - pre.length) (by rw [List.size_toArray]; omega)]
   simp only [List.getElem_toArray, id]
   rw [List.getElem_append_right (by omega), List.getElem_append_left (by omega)]
  ·rw [if_neg hk]
   simp only [List.getElem_toArray]
   by_cases h3 : k < pre.length
   ·rw [List.getElem_append_left h3, List.getElem_append_left h3]
   ·rw [List.getElem_append_right (by omega), List.getElem_append_right (by omega), List.getElem_append_right (by omega), List.getElem_append_right (by omega)]
    simp [hl]
theorem holds_row {w : World} {b : Nat} {te : TypeId} {pre zs rest : List Value} (h : w.heap[b]? = some (.cells (pre ++ (zs ++ rest)).toArray te (0, 0))) : Holds id w b pre.length zs.toArray := by
 intro j hj
 have hj' : j < zs.length := by simpa using hj
 refine ⟨?_, ?_⟩
 ·rw [getElem!_pos _ j hj]
  simp only [World.cell?, h]
  simp [List.getElem?_append_right, List.getElem?_append_left hj']
 ·simp only [World.frozen?, h]
  simp
theorem sortW_of {α : Type} [Inhabited α] {enc : α → List Value} {k : Nat} (hk : ∀ x, (enc x).length = k) {w : World} {b : Nat} {te : TypeId} {pre rest : List Value} {d dk : List α} (hl : dk.length = d.length)
  (h : w.heap[b]? = some (.cells (pre ++ (d.flatMap enc ++ rest)).toArray te (0, 0))) (m : Nat) (os : Array Obj) :
  SortedW w b te (pre ++ (dk.flatMap enc ++ rest)).toArray (sortWorldK enc k w b pre.length m dk.toArray os) := by
 have hlen : ∀ l : List α, (l.flatMap enc).length = l.length * k := by
  intro l
  induction l with
  | nil => simp
  | cons y l ih => rw [List.flatMap_cons, List.length_append, ih, hk, List.length_cons, Nat.add_mul]; omega
 have hb := (Array.getElem?_eq_some_iff.1 h).1
 unfold sortWorldK putRowK putRow mapBlock Sort.ahead Sort.grow
 rw [flatK_list hk]
 refine ⟨rfl, rfl, rfl, Nat.le_add_right _ _, ?_, ?_, ?_⟩
 ·simp
 ·simp only
  rw [Array.getElem?_append_left (by simpa using hb), Array.getElem?_modify, if_pos rfl, h]
  simp only [Option.map_some, onCells]
  rw [put_cells_id (by rw [hlen, hlen, hl])]
 ·intro i hi hne
  simp only
  rw [Array.getElem?_append_left (by simpa using hi), Array.getElem?_modify, if_neg (Ne.symm hne)]
theorem grown_eq {w w' : World} (h : Grown w w') : ∃ q os, w' = Sort.grow (w.drewN q) os := by
 obtain ⟨k1, k2, k3, k4, k5, k6⟩ := h
 refine ⟨w'.drawn - w.drawn, w'.heap.extract w.heap.size w'.heap.size, ?_⟩
 have hh : w'.heap = w.heap ++ w'.heap.extract w.heap.size w'.heap.size := by
  apply Array.ext_getElem?
  intro i
  by_cases hi : i < w.heap.size
  ·rw [Array.getElem?_append_left hi]; exact k6 i hi
  ·rw [Array.getElem?_append_right (by omega), Array.getElem?_extract]
   by_cases hi2 : i < w'.heap.size
   ·rw [if_pos (by omega)]; congr 1; omega
   ·rw [if_neg (by omega)]; exact Array.getElem?_eq_none (by omega)
 obtain ⟨h1, h2, h3, h4, h5⟩ := w'
 simp only at k1 k2 k3 k4 k5 k6 hh
 subst k1; subst k2; subst k3
 unfold Sort.grow World.drewN
 simp only
 rw [← hh]
 congr 1
 omega
theorem swo_of {α : Type} {cf : α → α → Int} (h : ∀ xs : List α, SortsBy cf xs) : SWO (ltOf cf) := by
 refine ⟨fun x => ?_, fun x y z h1 h2 => ?_, fun x y z h1 h2 => ?_⟩
 ·exact decide_eq_false ((h [x]).irr x (by simp))
 ·exact decide_eq_true ((h [x, y, z]).tr x (by simp) y (by simp) z (by simp) (of_decide_eq_true h1) (of_decide_eq_true h2))
 ·exact decide_eq_false ((h [x, y, z]).ntr x (by simp) y (by simp) z (by simp) (of_decide_eq_false h1) (of_decide_eq_false h2))
theorem sort_intr {P : Program} {ρ : Ren} (L : SlLaysF0.n6 P ρ) (k : Nat) (aE : ∀ w, (isAgg (ρ.t 24)).run P w = .ok true w) (zE : ∀ w, (Go.sizeOf (ρ.t 24)).run P w = .ok k w) (T : TypeId)
  (hT : ∀ e i, P.underlying T = some (.slice e) → P.info? e = some i → i.size = k) : IntrOk P (ρ.f 6) (.sort T true false) := by
 intro sl g cb
 refine ⟨?_, ?_⟩
 ·rintro A cap rfl w
  refine (AnyF.slices_SortFunc_none L A cap _ w).mono ?_
  rintro e w' ⟨rfl, rfl⟩
  exact ⟨rfl, rfl, rfl, rfl, Nat.le_refl _, Nat.le_refl _, fun _ _ => rfl⟩
 ·intro e i hu hi α _ enc cf b cap pre rest d w te hsl hk h1 hby eg hw hd hcmp
  subst hsl
  have hk' : ∀ x, (enc x).length = k := fun x => (hk x).trans (hT e i hu hi)
  have := AnyQ.slices_SortFunc L k aE zE enc hk' h1 cf (swo_of hby) g cb b pre.length cap d.toArray w eg ?_ ?_ ?_ ?_
  ·rw [List.size_toArray] at this
   refine this.mono ?_
   rintro ee w' ⟨rfl, d', n, os, hp, hs, rfl⟩
   obtain ⟨p1, _, p3⟩ := hp
   have hl : d'.toList.length = d.length := by simpa using p1
   refine ⟨rfl, d'.toList, ⟨?_, ?_, fun h => by cases h⟩, sortW_of hk' hl hw n os⟩
   ·have p1' : d'.size = d.length := by simpa using p1
    have e1 : (d'.extract 0 d.length).toList = d'.toList := by rw [← p1']; simp
    have e2 : (d.toArray.extract 0 d.length).toList = d := by simp
    rw [e1, e2] at p3; exact p3
   ·rw [List.pairwise_iff_getElem]
    intro x y hx hy hxy
    have := hs x y (Nat.zero_le _) hxy (by rw [← hl]; exact hy)
    have hx' : x < d'.size := by simpa using hx
    have hy' : y < d'.size := by simpa using hy
    rw [getElem!_pos d' x hx', getElem!_pos d' y hy'] at this
    have := of_decide_eq_false this
    simpa using this
  ·intro m os dk hdk x y
   have hW := sortW_of (dk := dk.toList) (d := d) hk' (by simpa using hdk) hw m os
   have := hcmp dk.toList _ (by simpa using hdk) hW x y
   refine this.mono ?_
   rintro ee w' ⟨rfl, hg⟩
   exact ⟨rfl, grown_eq hg⟩
  ·show Holds id w b pre.length (flatK enc k d.toArray)
   rw [flatK_list hk']
   exact holds_row hw
  ·exact (Array.getElem?_eq_some_iff.1 hw).1
  ·rw [List.size_toArray]; omega
end Go.Proofs.R
end
section
namespace Go.Proofs.R
open Go Go.Sort
set_option linter.unusedVariables false
variable {α : Type} [Inhabited α]
def SortedBy (lt : α → α → Prop) (d : Array α) (a b : Nat) : Prop := ∀ i j, a ≤ i → i < j → j < b → lt d[i]! d[j]!
def CrossB (lt : α → α → Prop) (cf : α → α → Int) (x y : α) : Prop := (cf y x < 0 → lt y x) ∧ (¬ cf y x < 0 → lt x y)
structure MergeIn (lt : α → α → Prop) (cf : α → α → Int) (d : Array α) (a m b : Nat) : Prop where
 l : SortedBy lt d a m
 r : SortedBy lt d m b
 x : ∀ i j, a ≤ i → i < m → m ≤ j → j < b → CrossB lt cf d[i]! d[j]!
theorem perm_mem {d d' : Array α} {a b : Nat} (hb : b ≤ d.size) (h : PermIn a b d d') {k : Nat} (h1 : a ≤ k) (h2 : k < b) : ∃ k', a ≤ k' ∧ k' < b ∧ d'[k]! = d[k']! :=
 permIn_all d d' a b (fun x => ∃ k', a ≤ k' ∧ k' < b ∧ x = d[k']!) hb h (fun i hi hi' => ⟨i, hi, hi', rfl⟩) k h1 h2
/-! ### exchanges -/
theorem swp_ix (d : Array α) {i j : Nat} (hi : i < d.size) (hj : j < d.size) (q : Nat) : ∃ q', (swp d i j)[q]! = d[q']! ∧ ((q = j ∧ q' = i) ∨ (q ≠ j ∧ q = i ∧ q' = j) ∨ (q ≠ i ∧ q ≠ j ∧ q' = q)) := by
 rw [swp_get d hi hj]
 by_cases h1 : q = j
 ·exact ⟨i, by rw [if_pos h1], by omega⟩
 ·by_cases h2 : q = i
  ·exact ⟨j, by rw [if_neg h1, if_pos h2], by omega⟩
  ·exact ⟨q, by rw [if_neg h1, if_neg h2], by omega⟩
def swapFrom (a b n i : Nat) (d : Array α) : Array α := if i < n then swapFrom a b n (i + 1) (swp d (a + i) (b + i)) else d
termination_by n - i
theorem swapFrom_go {a b n i : Nat} {d : Array α} (h : i < n) : swapFrom a b n i d = swapFrom a b n (i + 1) (swp d (a + i) (b + i)) := by
 conv => lhs; unfold swapFrom
 rw [if_pos h]
theorem swapFrom_stop {a b n i : Nat} {d : Array α} (h : ¬ i < n) : swapFrom a b n i d = d := by
 unfold swapFrom; rw [if_neg h]
theorem swapFrom_size (a b n : Nat) : ∀ (k i : Nat) (d : Array α), n - i ≤ k → (swapFrom a b n i d).size = d.size
 | 0, i, d, h => by rw [swapFrom_stop (by omega)]
 | k + 1, i, d, h => by
  by_cases hi : i < n
  ·rw [swapFrom_go hi, swapFrom_size a b n k _ _ (by omega), size_swp]
  ·rw [swapFrom_stop hi]
theorem swapFrom_ix (a b n : Nat) (hab : a + n ≤ b) : ∀ (k i : Nat) (d : Array α), n - i ≤ k → b + n ≤ d.size → ∀ q, ∃ q', (swapFrom a b n i d)[q]! = d[q']! ∧ ((a + i ≤ q ∧ q < a + n ∧ q' = q - a + b) ∨ (b + i ≤ q ∧ q < b + n ∧ q' = q - b + a) ∨ (¬ (a + i ≤ q ∧ q < a + n) ∧ ¬ (b + i ≤ q ∧ q < b + n) ∧ q' = q))
 | 0, i, d, h, hs, q => ⟨q, by rw [swapFrom_stop (by omega)], by omega⟩
 | k + 1, i, d, h, hs, q => by
  by_cases hi : i < n
  ·rw [swapFrom_go hi]
   obtain ⟨q1, e1, h1⟩ := swapFrom_ix a b n hab k (i + 1) (swp d (a + i) (b + i)) (by omega) (by rw [size_swp]; exact hs) q
   obtain ⟨q2, e2, h2⟩ := swp_ix d (show a + i < d.size by omega) (show b + i < d.size by omega) q1
   exact ⟨q2, by rw [e1, e2], by omega⟩
  ·exact ⟨q, by rw [swapFrom_stop hi], by omega⟩
theorem swapFrom_get (a b n : Nat) (hab : a + n ≤ b) (k i : Nat) (d : Array α) (h : n - i ≤ k) (hs : b + n ≤ d.size) (q : Nat) : (swapFrom a b n i d)[q]! = d[if a + i ≤ q ∧ q < a + n then q - a + b else if b + i ≤ q ∧ q < b + n then q - b + a else q]! := by
 obtain ⟨q', e, h1⟩ := swapFrom_ix a b n hab k i d h hs q
 rw [e]; congr 1
 (repeat' split) <;> omega
theorem swapFrom_perm (a b n x y : Nat) (hx : x ≤ a) (hab : a + n ≤ b) (hy : b + n ≤ y) : ∀ (k i : Nat) (d : Array α), n - i ≤ k → y ≤ d.size → PermIn x y d (swapFrom a b n i d)
 | 0, i, d, h, hs => by rw [swapFrom_stop (by omega)]; exact permIn_refl _ _ _
 | k + 1, i, d, h, hs => by
  by_cases hi : i < n
  ·rw [swapFrom_go hi]
   exact permIn_trans _ _ _ _ _ (swp_permIn d x y _ _ (by omega) (by omega) (by omega) (by omega) hs) (swapFrom_perm a b n x y hx hab hy k _ _ (by omega) (by rw [size_swp]; exact hs))
  ·rw [swapFrom_stop hi]; exact permIn_refl _ _ _
/-! ### rotation -/
def rotI (a m b k : Nat) : Nat := if a ≤ k ∧ k < a + (b - m) then k + (m - a) else if a + (b - m) ≤ k ∧ k < b then k - (b - m) else k
structure RotD (d d' : Array α) (a m b : Nat) : Prop where
 perm : PermIn a b d d'
 get : ∀ k, d'[k]! = d[rotI a m b k]!
structure RotW (d dk : Array α) (a m b i j : Nat) : Prop where
 perm : PermIn a b d dk
 get : ∀ k, dk[rotI (m - i) m (m + j) k]! = d[rotI a m b k]!
 i0 : 0 < i
 j0 : 0 < j
 il : a + i ≤ m
 jl : m + j ≤ b
theorem RotW.start {d : Array α} {a m b : Nat} (h1 : a < m) (h2 : m < b) : RotW d d a m b (m - a) (b - m) := by
 refine ⟨permIn_refl _ _ _, fun k => ?_, by omega, by omega, by omega, by omega⟩
 rw [show m - (m - a) = a by omega, show m + (b - m) = b by omega]
theorem RotW.gt {d dk : Array α} {a m b i j : Nat} (h : RotW d dk a m b i j) (hb : b ≤ d.size) (hij : j < i) : RotW d (swapFrom (m - i) m j 0 dk) a m b (i - j) j := by
 obtain ⟨h1, h2, h3, h4, h5, h6⟩ := h
 have hsz : dk.size = d.size := h1.1
 refine ⟨permIn_trans _ _ _ _ _ h1 (swapFrom_perm _ _ _ a b (by omega) (by omega) (by omega) j 0 dk (by omega) (by omega)), fun k => ?_, by omega, h4, by omega, h6⟩
 rw [← h2 k, swapFrom_get _ _ _ (by omega) j 0 dk (by omega) (by omega)]
 congr 1
 unfold rotI
 (repeat' split) <;> omega
theorem RotW.lt {d dk : Array α} {a m b i j : Nat} (h : RotW d dk a m b i j) (hb : b ≤ d.size) (hij : i < j) : RotW d (swapFrom (m - i) (m + j - i) i 0 dk) a m b i (j - i) := by
 obtain ⟨h1, h2, h3, h4, h5, h6⟩ := h
 have hsz : dk.size = d.size := h1.1
 refine ⟨permIn_trans _ _ _ _ _ h1 (swapFrom_perm _ _ _ a b (by omega) (by omega) (by omega) i 0 dk (by omega) (by omega)), fun k => ?_, h3, by omega, h5, by omega⟩
 rw [← h2 k, swapFrom_get _ _ _ (by omega) i 0 dk (by omega) (by omega)]
 congr 1
 unfold rotI
 (repeat' split) <;> omega
theorem RotW.done {d dk : Array α} {a m b i : Nat} (h : RotW d dk a m b i i) (hb : b ≤ d.size) : RotD d (swapFrom (m - i) m i 0 dk) a m b := by
 obtain ⟨h1, h2, h3, h4, h5, h6⟩ := h
 have hsz : dk.size = d.size := h1.1
 refine ⟨permIn_trans _ _ _ _ _ h1 (swapFrom_perm _ _ _ a b (by omega) (by omega) (by omega) i 0 dk (by omega) (by omega)), fun k => ?_⟩
 rw [← h2 k, swapFrom_get _ _ _ (by omega) i 0 dk (by omega) (by omega)]
 congr 1
 unfold rotI
 (repeat' split) <;> omega
theorem RotD.none {d : Array α} {a m b : Nat} (h : m ≤ a ∨ b ≤ m) (h1 : a ≤ m) (h2 : m ≤ b) : RotD d d a m b := by
 refine ⟨permIn_refl _ _ _, fun k => ?_⟩
 congr 1
 unfold rotI
 (repeat' split) <;> omega
/-! ### merging -/
section
variable {lt : α → α → Prop} {cf : α → α → Int}
structure CutAt (cf : α → α → Int) (d : Array α) (n lo hi s : Nat) : Prop where
 l : lo ≤ s
 h : s ≤ hi
 below : s = lo ∨ ¬ cf d[n - 1 - (s - 1)]! d[s - 1]! < 0
 above : s = hi ∨ cf d[n - 1 - s]! d[s]! < 0
structure Parts (lt : α → α → Prop) (cf : α → α → Int) (d : Array α) (a s mid e b : Nat) : Prop where
 left : MergeIn lt cf d a s mid
 right : MergeIn lt cf d mid e b
 low : ∀ i j, a ≤ i → i < mid → mid ≤ j → j < b → lt d[i]! d[j]!
 h1 : a ≤ s
 h2 : s ≤ mid
 h3 : mid ≤ e
 h4 : e ≤ b
theorem parts_of (tr : ∀ x y z, lt x y → lt y z → lt x z) {d d1 : Array α} {a m b mid lo hi s : Nat} (h : MergeIn lt cf d a m b) (ham : a < m) (hmb : m < b) (hmid : mid = (a + b) / 2)
  (hlo : lo = if mid < m then mid + m - b else a) (hhi : hi = if mid < m then mid else m) (hc : CutAt cf d (mid + m) lo hi s) (hr : RotD d d1 s m (mid + m - s)) : Parts lt cf d1 a s mid (mid + m - s) b := by
 obtain ⟨c1, c2, c3, c4⟩ := hc
 have hs1 : a ≤ s := by rw [hlo] at c1; split at c1 <;> omega
 have hs2 : s ≤ m := by rw [hhi] at c2; split at c2 <;> omega
 have hs3 : s ≤ mid := by rw [hhi] at c2; split at c2 <;> omega
 have he : mid + m - s ≤ b := by rw [hlo] at c1; split at c1 <;> omega
 have he2 : mid ≤ mid + m - s := by omega
 have he3 : m ≤ mid + m - s := by omega
 have g1 : ∀ k, a ≤ k → k < s → d1[k]! = d[k]! := fun k h1 h2 => by
  rw [hr.get]; congr 1; unfold rotI; rw [if_neg (by omega), if_neg (by omega)]
 have g2 : ∀ k, s ≤ k → k < mid → d1[k]! = d[k + (m - s)]! := fun k h1 h2 => by
  rw [hr.get]; congr 1; unfold rotI; rw [if_pos (by omega)]
 have g3 : ∀ k, mid ≤ k → k < mid + m - s → d1[k]! = d[k - (mid - s)]! := fun k h1 h2 => by
  rw [hr.get]; congr 1; unfold rotI; rw [if_neg (by omega), if_pos (by omega)]; omega
 have g4 : ∀ k, mid + m - s ≤ k → k < b → d1[k]! = d[k]! := fun k h1 h2 => by
  rw [hr.get]; congr 1; unfold rotI; rw [if_neg (by omega), if_neg (by omega)]
 refine ⟨⟨?_, ?_, ?_⟩, ⟨?_, ?_, ?_⟩, ?_, hs1, hs3, he2, he⟩
 ·intro i j hi hij hj
  rw [g1 i hi (by omega), g1 j (by omega) hj]; exact h.l i j hi hij (by omega)
 ·intro i j hi hij hj
  rw [g2 i hi (by omega), g2 j (by omega) hj]; exact h.r _ _ (by omega) (by omega) (by omega)
 ·intro i j hi his hj hjm
  rw [g1 i hi his, g2 j hj hjm]; exact h.x _ _ hi (by omega) (by omega) (by omega)
 ·intro i j hi hij hj
  rw [g3 i hi (by omega), g3 j (by omega) hj]; exact h.l _ _ (by omega) (by omega) (by omega)
 ·intro i j hi hij hj
  rw [g4 i hi (by omega), g4 j (by omega) hj]; exact h.r _ _ (by omega) hij hj
 ·intro i j hi his hj hjm
  rw [g3 i hi his, g4 j hj hjm]; exact h.x _ _ (by omega) (by omega) (by omega) hjm
 ·-- below the middle, above the middle
  have key1 : ∀ i j, a ≤ i → i < s → mid + m - s ≤ j → j < b → lt d[i]! d[j]! := by
   intro i j h1 h2 h3 h4
   rcases c3 with c3 | c3
   ·exfalso
    rw [hlo] at c3
    split at c3 <;> omega
   ·have e1 : mid + m - 1 - (s - 1) = mid + m - s := by omega
    rw [e1] at c3
    have h5 := (h.x (s - 1) (mid + m - s) (by omega) (by omega) (by omega) (by omega)).2 c3
    have h6 : lt d[i]! d[mid + m - s]! := by
     by_cases hi : i = s - 1
     ·subst hi; exact h5
     ·exact tr _ _ _ (h.l i (s - 1) h1 (by omega) (by omega)) h5
    by_cases hj : j = mid + m - s
    ·subst hj; exact h6
    ·exact tr _ _ _ h6 (h.r _ _ (by omega) (by omega) h4)
  have key2 : ∀ i j, s ≤ i → i < m → m ≤ j → j < mid + m - s → lt d[j]! d[i]! := by
   intro i j h1 h2 h3 h4
   rcases c4 with c4 | c4
   ·exfalso
    rw [hhi] at c4
    split at c4 <;> omega
   ·have h5 := (h.x s (mid + m - 1 - s) (by omega) (by omega) (by omega) (by omega)).1 c4
    have h6 : lt d[j]! d[s]! := by
     by_cases hj : j = mid + m - 1 - s
     ·subst hj; exact h5
     ·exact tr _ _ _ (h.r j _ h3 (by omega) (by omega)) h5
    by_cases hi : i = s
    ·subst hi; exact h6
    ·exact tr _ _ _ h6 (h.l _ _ (by omega) (by omega) h2)
  intro i j h1 h2 h3 h4
  by_cases hi : i < s
  ·rw [g1 i h1 hi]
   by_cases hj : j < mid + m - s
   ·rw [g3 j h3 hj]; exact h.l _ _ h1 (by omega) (by omega)
   ·rw [g4 j (by omega) h4]; exact key1 i j h1 hi (by omega) h4
  ·rw [g2 i (by omega) h2]
   by_cases hj : j < mid + m - s
   ·rw [g3 j h3 hj]; exact key2 _ _ (by omega) (by omega) (by omega) (by omega)
   ·rw [g4 j (by omega) h4]; exact h.r _ _ (by omega) (by omega) h4
structure Merged (lt : α → α → Prop) (d d' : Array α) (a b : Nat) : Prop where
 perm : PermIn a b d d'
 srt : SortedBy lt d' a b
theorem Merged.none {d : Array α} {a m b : Nat} (h : MergeIn lt cf d a m b) (h1 : ¬ (a < m ∧ m < b)) (h2 : a ≤ m) (h3 : m ≤ b) : Merged lt d d a b := by
 refine ⟨permIn_refl _ _ _, fun i j h4 h5 h6 => ?_⟩
 by_cases ha : a = m
 ·subst ha; exact h.r i j h4 h5 h6
 ·have : m = b := by omega
  subst this; exact h.l i j h4 h5 h6
theorem MergeIn.same {d d' : Array α} {a m b : Nat} (h : MergeIn lt cf d a m b) (he : ∀ k, a ≤ k → k < b → d'[k]! = d[k]!) (h2 : a ≤ m) (h3 : m ≤ b) : MergeIn lt cf d' a m b :=
 ⟨fun i j h4 h5 h6 => by rw [he i h4 (by omega), he j (by omega) (by omega)]; exact h.l i j h4 h5 h6,
  fun i j h4 h5 h6 => by rw [he i (by omega) (by omega), he j (by omega) (by omega)]; exact h.r i j h4 h5 h6,
  fun i j h4 h5 h6 h7 => by rw [he i h4 (by omega), he j (by omega) h7]; exact h.x i j h4 h5 h6 h7⟩
theorem Parts.second {d1 d2 : Array α} {a s mid e b : Nat} (h : Parts lt cf d1 a s mid e b) (h2 : Merged lt d1 d2 a mid) : MergeIn lt cf d2 mid e b :=
 h.right.same (fun k hk _ => h2.perm.2.1 k (.inr hk)) h.h3 h.h4
theorem Parts.join {d d1 d2 d3 : Array α} {a s mid e b : Nat} (h : Parts lt cf d1 a s mid e b) (hb : b ≤ d.size) (hp : PermIn a b d d1) (h2 : Merged lt d1 d2 a mid) (h3 : Merged lt d2 d3 mid b) : Merged lt d d3 a b := by
 have hmid : a ≤ mid ∧ mid ≤ b := ⟨by have := h.h1; have := h.h2; omega, by have := h.h3; have := h.h4; omega⟩
 have s1 : d1.size = d.size := hp.1
 have s2 : d2.size = d1.size := h2.perm.1
 refine ⟨permIn_trans _ _ _ _ _ hp (permIn_trans _ _ _ _ _ (permIn_mono _ _ a mid a b (Nat.le_refl _) hmid.2 (by omega) h2.perm) (permIn_mono _ _ mid b a b hmid.1 (Nat.le_refl _) (by omega) h3.perm)), ?_⟩
 intro i j h4 h5 h6
 by_cases hi : i < mid
 ·have ei : d3[i]! = d2[i]! := h3.perm.2.1 i (.inl hi)
  by_cases hj : j < mid
  ·rw [ei, h3.perm.2.1 j (.inl hj)]; exact h2.srt i j h4 h5 hj
  ·obtain ⟨i', q1, q2, q3⟩ := perm_mem (by omega) h2.perm h4 hi
   obtain ⟨j', q4, q5, q6⟩ := perm_mem (by omega) h3.perm (by omega : mid ≤ j) h6
   rw [ei, q3, q6, h2.perm.2.1 j' (.inr q4)]
   exact h.low i' j' q1 q2 q4 q5
 ·exact h3.srt i j (by omega) h5 h6
/-! ### one element, laid into its place -/
def shiftR (e k : Nat) (d : Array α) : Array α := if k < e then shiftR e (k + 1) (swp d k (k + 1)) else d
termination_by e - k
theorem shiftR_go {e k : Nat} {d : Array α} (h : k < e) : shiftR e k d = shiftR e (k + 1) (swp d k (k + 1)) := by
 conv => lhs; unfold shiftR
 rw [if_pos h]
theorem shiftR_stop {e k : Nat} {d : Array α} (h : ¬ k < e) : shiftR e k d = d := by
 unfold shiftR; rw [if_neg h]
theorem shiftR_ix (e : Nat) : ∀ (n k : Nat) (d : Array α), e - k ≤ n → e < d.size → ∀ q, ∃ q', (shiftR e k d)[q]! = d[q']! ∧ ((k ≤ q ∧ q < e ∧ q' = q + 1) ∨ (q = e ∧ k ≤ e ∧ q' = k) ∨ (¬ (k ≤ q ∧ q ≤ e) ∧ q' = q))
 | 0, k, d, h, hs, q => ⟨q, by rw [shiftR_stop (by omega)], by omega⟩
 | n + 1, k, d, h, hs, q => by
  by_cases hk : k < e
  ·rw [shiftR_go hk]
   obtain ⟨q1, e1, h1⟩ := shiftR_ix e n (k + 1) (swp d k (k + 1)) (by omega) (by rw [size_swp]; exact hs) q
   obtain ⟨q2, e2, h2⟩ := swp_ix d (show k < d.size by omega) (show k + 1 < d.size by omega) q1
   exact ⟨q2, by rw [e1, e2], by omega⟩
  ·exact ⟨q, by rw [shiftR_stop hk], by omega⟩
theorem shiftR_get (e n k : Nat) (d : Array α) (h : e - k ≤ n) (hs : e < d.size) (q : Nat) : (shiftR e k d)[q]! = d[if k ≤ q ∧ q < e then q + 1 else if q = e ∧ k ≤ e then k else q]! := by
 obtain ⟨q', e1, h1⟩ := shiftR_ix e n k d h hs q
 rw [e1]; congr 1
 (repeat' split) <;> omega
theorem shiftR_perm (e x y : Nat) (hey : e < y) : ∀ (n k : Nat) (d : Array α), e - k ≤ n → x ≤ k → y ≤ d.size → PermIn x y d (shiftR e k d)
 | 0, k, d, h, hx, hs => by rw [shiftR_stop (by omega)]; exact permIn_refl _ _ _
 | n + 1, k, d, h, hx, hs => by
  by_cases hk : k < e
  ·rw [shiftR_go hk]
   exact permIn_trans _ _ _ _ _ (swp_permIn d x y _ _ (by omega) (by omega) (by omega) (by omega) hs) (shiftR_perm e x y hey n _ _ (by omega) (by omega) (by rw [size_swp]; exact hs))
  ·rw [shiftR_stop hk]; exact permIn_refl _ _ _
def shiftL (i k : Nat) (d : Array α) : Array α := if i < k then shiftL i (k - 1) (swp d k (k - 1)) else d
termination_by k
theorem shiftL_go {i k : Nat} {d : Array α} (h : i < k) : shiftL i k d = shiftL i (k - 1) (swp d k (k - 1)) := by
 conv => lhs; unfold shiftL
 rw [if_pos h]
theorem shiftL_stop {i k : Nat} {d : Array α} (h : ¬ i < k) : shiftL i k d = d := by
 unfold shiftL; rw [if_neg h]
theorem shiftL_ix (i : Nat) : ∀ (n k : Nat) (d : Array α), k ≤ n → k < d.size → ∀ q, ∃ q', (shiftL i k d)[q]! = d[q']! ∧ ((i < q ∧ q ≤ k ∧ q' = q - 1) ∨ (q = i ∧ i ≤ k ∧ q' = k) ∨ (¬ (i ≤ q ∧ q ≤ k) ∧ q' = q))
 | 0, k, d, h, hs, q => ⟨q, by rw [shiftL_stop (by omega)], by omega⟩
 | n + 1, k, d, h, hs, q => by
  by_cases hk : i < k
  ·rw [shiftL_go hk]
   obtain ⟨q1, e1, h1⟩ := shiftL_ix i n (k - 1) (swp d k (k - 1)) (by omega) (by rw [size_swp]; omega) q
   obtain ⟨q2, e2, h2⟩ := swp_ix d (show k < d.size by omega) (show k - 1 < d.size by omega) q1
   exact ⟨q2, by rw [e1, e2], by omega⟩
  ·exact ⟨q, by rw [shiftL_stop hk], by omega⟩
theorem shiftL_get (i n k : Nat) (d : Array α) (h : k ≤ n) (hs : k < d.size) (q : Nat) : (shiftL i k d)[q]! = d[if i < q ∧ q ≤ k then q - 1 else if q = i ∧ i ≤ k then k else q]! := by
 obtain ⟨q', e1, h1⟩ := shiftL_ix i n k d h hs q
 rw [e1]; congr 1
 (repeat' split) <;> omega
theorem shiftL_perm (i x y : Nat) (hx : x ≤ i) : ∀ (n k : Nat) (d : Array α), k ≤ n → k < y → y ≤ d.size → PermIn x y d (shiftL i k d)
 | 0, k, d, h, hy, hs => by rw [shiftL_stop (by omega)]; exact permIn_refl _ _ _
 | n + 1, k, d, h, hy, hs => by
  by_cases hk : i < k
  ·rw [shiftL_go hk]
   exact permIn_trans _ _ _ _ _ (swp_permIn d x y _ _ (by omega) (by omega) (by omega) (by omega) hs) (shiftL_perm i x y hx n _ _ (by omega) (by omega) (by rw [size_swp]; exact hs))
  ·rw [shiftL_stop hk]; exact permIn_refl _ _ _
theorem Merged.first (tr : ∀ x y z, lt x y → lt y z → lt x z) {d : Array α} {a m b i : Nat} (h : MergeIn lt cf d a m b) (hm : m = a + 1) (hb : b ≤ d.size) (h1 : m ≤ i) (h2 : i ≤ b) (h3 : i = m ∨ cf d[i - 1]! d[a]! < 0) (h4 : i = b ∨ ¬ cf d[i]! d[a]! < 0) :
  Merged lt d (shiftR (i - 1) a d) a b := by
 subst hm
 refine ⟨shiftR_perm _ _ _ (by omega) _ _ _ (Nat.le_refl _) (Nat.le_refl _) hb, ?_⟩
 have g := shiftR_get (i - 1) _ a d (Nat.le_refl _) (by omega)
 have k1 : ∀ q, a + 1 ≤ q → q < i → lt d[q]! d[a]! := by
  intro q q1 q2
  rcases h3 with h3 | h3
  ·omega
  ·have h5 := (h.x a (i - 1) (by omega) (by omega) (by omega) (by omega)).1 h3
   by_cases hq : q = i - 1
   ·subst hq; exact h5
   ·exact tr _ _ _ (h.r q (i - 1) q1 (by omega) (by omega)) h5
 have k2 : ∀ q, i ≤ q → q < b → lt d[a]! d[q]! := by
  intro q q1 q2
  rcases h4 with h4 | h4
  ·omega
  ·have h5 := (h.x a i (by omega) (by omega) (by omega) (by omega)).2 h4
   by_cases hq : q = i
   ·subst hq; exact h5
   ·exact tr _ _ _ h5 (h.r i q (by omega) (by omega) (by omega))
 intro p q h5 h6 h7
 rw [g, g]
 by_cases c1 : a ≤ p ∧ p < i - 1
 ·rw [if_pos c1]
  by_cases c2 : a ≤ q ∧ q < i - 1
  ·rw [if_pos c2]; exact h.r _ _ (by omega) (by omega) (by omega)
  ·rw [if_neg c2]
   by_cases c3 : q = i - 1 ∧ a ≤ i - 1
   ·rw [if_pos c3]; exact k1 _ (by omega) (by omega)
   ·rw [if_neg c3]; exact h.r _ _ (by omega) (by omega) (by omega)
 ·rw [if_neg c1]
  by_cases c4 : p = i - 1 ∧ a ≤ i - 1
  ·rw [if_pos c4, if_neg (by omega), if_neg (by omega)]
   exact k2 _ (by omega) h7
  ·rw [if_neg c4, if_neg (by omega), if_neg (by omega)]
   exact h.r _ _ (by omega) h6 h7
theorem Merged.last (tr : ∀ x y z, lt x y → lt y z → lt x z) {d : Array α} {a m b i : Nat} (h : MergeIn lt cf d a m b) (hm : b = m + 1) (ham : a ≤ m) (hb : b ≤ d.size) (h1 : a ≤ i) (h2 : i ≤ m) (h3 : i = a ∨ ¬ cf d[m]! d[i - 1]! < 0) (h4 : i = m ∨ cf d[m]! d[i]! < 0) :
  Merged lt d (shiftL i m d) a b := by
 subst hm
 refine ⟨shiftL_perm _ _ _ h1 _ _ _ (Nat.le_refl _) (by omega) hb, ?_⟩
 have g := shiftL_get i _ m d (Nat.le_refl _) (by omega)
 have k1 : ∀ q, a ≤ q → q < i → lt d[q]! d[m]! := by
  intro q q1 q2
  rcases h3 with h3 | h3
  ·omega
  ·have h5 := (h.x (i - 1) m (by omega) (by omega) (by omega) (by omega)).2 h3
   by_cases hq : q = i - 1
   ·subst hq; exact h5
   ·exact tr _ _ _ (h.l q (i - 1) q1 (by omega) (by omega)) h5
 have k2 : ∀ q, i ≤ q → q < m → lt d[m]! d[q]! := by
  intro q q1 q2
  rcases h4 with h4 | h4
  ·omega
  ·have h5 := (h.x i m (by omega) (by omega) (by omega) (by omega)).1 h4
   by_cases hq : q = i
   ·subst hq; exact h5
   ·exact tr _ _ _ h5 (h.l i q (by omega) (by omega) (by omega))
 intro p q h5 h6 h7
 rw [g, g]
 by_cases c1 : i < p ∧ p ≤ m
 ·rw [if_pos c1, if_pos (by omega)]; exact h.l _ _ (by omega) (by omega) (by omega)
 ·rw [if_neg c1]
  by_cases c4 : p = i ∧ i ≤ m
  ·rw [if_pos c4]
   rw [if_pos (by omega)]; exact k2 _ (by omega) (by omega)
  ·rw [if_neg c4]
   by_cases c2 : i < q ∧ q ≤ m
   ·rw [if_pos c2]; exact h.l _ _ (by omega) (by omega) (by omega)
   ·rw [if_neg c2]
    by_cases c3 : q = i ∧ i ≤ m
    ·rw [if_pos c3]; exact k1 _ (by omega) (by omega)
    ·rw [if_neg c3]; exact h.l p q h5 h6 (by omega)
/-! ### insertion -/
structure InsW (lt : α → α → Prop) (cf : α → α → Int) (d : Array α) (a j i : Nat) : Prop where
 rest : ∀ p q, a ≤ p → p < q → q ≤ i → p ≠ j → q ≠ j → lt d[p]! d[q]!
 right : ∀ q, j < q → q ≤ i → lt d[j]! d[q]!
 x : ∀ p, a ≤ p → p < j → CrossB lt cf d[p]! d[j]!
theorem insInner_by (tr : ∀ x y z, lt x y → lt y z → lt x z) (a i : Nat) : ∀ (j : Nat) (d : Array α), a ≤ j → j ≤ i → i < d.size → InsW lt cf d a j i → Merged lt d (insInner (fun x y => decide (cf x y < 0)) a j d) a (i + 1)
 | 0, d, h1, h2, h3, h => by
  refine ⟨permIn_refl _ _ _, ?_⟩
  show SortedBy lt d a (i + 1)
  intro p q h5 h6 h7
  by_cases hp : p = 0
  ·subst hp; exact h.right q h6 (by omega)
  ·exact h.rest p q h5 h6 (by omega) hp (by omega)
 | j + 1, d, h1, h2, h3, h => by
  unfold insInner
  by_cases hc : a < j + 1 ∧ cf d[j + 1]! d[j]! < 0
  ·have hcond : ((decide (j + 1 > a)) && decide (cf d[j + 1]! d[j]! < 0)) = true := by simp [hc.1, hc.2]
   rw [if_pos hcond]
   have g := swp_get d (show j + 1 < d.size by omega) (show j < d.size by omega)
   have hlt := (h.x j (by omega) (by omega)).1 hc.2
   have := insInner_by tr a i j (swp d (j + 1) j) (by omega) (by omega) (by rw [size_swp]; exact h3) (by
    refine ⟨?_, ?_, ?_⟩
    ·intro p q h5 h6 h7 h8 h9
     rw [g, g, if_neg h8, if_neg h9]
     by_cases c1 : q = j + 1
     ·rw [if_pos c1, if_neg (by omega)]
      exact h.rest p j h5 (by omega) (by omega) (by omega) (by omega)
     ·rw [if_neg c1]
      by_cases c2 : p = j + 1
      ·rw [if_pos c2]; exact h.rest j q (by omega) (by omega) h7 (by omega) (by omega)
      ·rw [if_neg c2]; exact h.rest p q h5 h6 h7 c2 c1
    ·intro q h5 h6
     rw [g, g, if_pos rfl, if_neg (by omega : ¬ q = j)]
     by_cases c1 : q = j + 1
     ·rw [if_pos c1]; exact hlt
     ·rw [if_neg c1]; exact h.right q (by omega) h6
    ·intro p h5 h6
     rw [g, g, if_pos rfl, if_neg (by omega : ¬ p = j), if_neg (by omega : ¬ p = j + 1)]
     exact h.x p h5 (by omega))
   refine ⟨permIn_trans _ _ _ _ _ (swp_permIn d a (i + 1) _ _ (by omega) (by omega) (by omega) (by omega) (by omega)) this.perm, this.srt⟩
  ·have hcond : ((decide (j + 1 > a)) && decide (cf d[j + 1]! d[j]! < 0)) = false := by
    rcases Classical.not_and_iff_not_or_not.1 hc with h5 | h5
    ·simp [show ¬ (j + 1 > a) from h5]
    ·simp [h5]
   rw [if_neg (by rw [hcond]; simp)]
   refine ⟨permIn_refl _ _ _, ?_⟩
   have hl : ∀ p, a ≤ p → p < j + 1 → lt d[p]! d[j + 1]! := by
    intro p h5 h6
    rcases Classical.not_and_iff_not_or_not.1 hc with h7 | h7
    ·omega
    ·have h8 := (h.x j (by omega) (by omega)).2 h7
     by_cases hp : p = j
     ·subst hp; exact h8
     ·exact tr _ _ _ (h.rest p j h5 (by omega) (by omega) (by omega) (by omega)) h8
   intro p q h5 h6 h7
   by_cases hq : q = j + 1
   ·subst hq; exact hl p h5 h6
   ·by_cases hp : p = j + 1
    ·subst hp; exact h.right q h6 (by omega)
    ·exact h.rest p q h5 h6 (by omega) hp hq
theorem insOuter_by (tr : ∀ x y z, lt x y → lt y z → lt x z) {d0 : Array α} {a b : Nat} (hb : b ≤ d0.size) (hx : ∀ p q, a ≤ p → p < q → q < b → CrossB lt cf d0[p]! d0[q]!) : ∀ (n i : Nat) (d : Array α), b - i ≤ n → a ≤ i → i ≤ b →
  Merged lt d0 d a i → Merged lt d0 (insOuter (fun x y => decide (cf x y < 0)) a b i d) a b
 | 0, i, d, h1, h2, h3, h => by
  unfold insOuter
  rw [if_neg (by omega)]
  have : i = b := by omega
  subst this; exact h
 | n + 1, i, d, h1, h2, h3, h => by
  unfold insOuter
  have hsz : d.size = d0.size := h.perm.1
  by_cases hi : i < b
  ·rw [if_pos hi]
   have hm := insInner_by (lt := lt) (cf := cf) tr a i i d h2 (Nat.le_refl _) (by omega) ⟨fun p q h5 h6 h7 h8 h9 => h.srt p q h5 h6 (by omega), fun q h5 h6 => by omega, fun p h5 h6 => by
    obtain ⟨p', q1, q2, q3⟩ := perm_mem (by omega) h.perm h5 h6
    rw [q3, h.perm.2.1 i (.inr (Nat.le_refl _))]
    exact hx p' i q1 q2 hi⟩
   exact insOuter_by tr hb hx n (i + 1) _ (by omega) (by omega) (by omega) ⟨permIn_trans _ _ _ _ _ (permIn_mono _ _ a i a (i + 1) (Nat.le_refl _) (by omega) (by omega) h.perm) hm.perm, hm.srt⟩
  ·rw [if_neg hi]
   have : i = b := by omega
   subst this; exact h
theorem insertion_by (tr : ∀ x y z, lt x y → lt y z → lt x z) {d : Array α} {a b : Nat} (hab : a ≤ b) (hb : b ≤ d.size) (hx : ∀ p q, a ≤ p → p < q → q < b → CrossB lt cf d[p]! d[q]!) : Merged lt d (insertionSort (fun x y => decide (cf x y < 0)) d a b) a b := by
 unfold insertionSort
 by_cases h : a + 1 ≤ b
 ·exact insOuter_by tr hb hx _ (a + 1) d (Nat.le_refl _) (by omega) h ⟨permIn_refl _ _ _, fun i j h1 h2 h3 => by omega⟩
 ·unfold insOuter
  rw [if_neg (by omega)]
  exact ⟨permIn_refl _ _ _, fun i j h1 h2 h3 => by omega⟩
end
/-! ### blocks -/
section
variable {lt : α → α → Prop} {cf : α → α → Int} {tg : α → Nat}
theorem SortedBy.same {d d' : Array α} {a b : Nat} (h : SortedBy lt d a b) (he : ∀ k, a ≤ k → k < b → d'[k]! = d[k]!) : SortedBy lt d' a b := by
 intro i j h1 h2 h3
 rw [he i h1 (by omega), he j (by omega) h3]; exact h i j h1 h2 h3
theorem perm_tag {d d' : Array α} {a b n bs : Nat} (hp : PermIn a b d d') (hbn : b ≤ n) (hn : n ≤ d.size) (h : ∀ k, k < n → tg d[k]! / bs = k / bs) (hab : ∀ i j, a ≤ i → i < b → a ≤ j → j < b → i / bs = j / bs) : ∀ k, k < n → tg d'[k]! / bs = k / bs := by
 intro k hk
 by_cases h1 : a ≤ k ∧ k < b
 ·obtain ⟨k', q1, q2, q3⟩ := perm_mem (by omega) hp h1.1 h1.2
  rw [q3, h k' (by omega)]
  exact hab _ _ q1 q2 h1.1 h1.2
 ·rw [hp.2.1 k (by omega)]; exact h k hk
structure Blk1 (lt : α → α → Prop) (tg : α → Nat) (d0 dk : Array α) (n a : Nat) : Prop where
 perm : PermIn 0 n d0 dk
 mul : a % 20 = 0
 srt : ∀ q, q * 20 < a → SortedBy lt dk (q * 20) (q * 20 + 20)
 tag : ∀ k, k < n → tg dk[k]! / 20 = k / 20
 rest : ∀ k, a ≤ k → k < n → tg dk[k]! = k
structure Blks (lt : α → α → Prop) (tg : α → Nat) (d0 dk : Array α) (n bs : Nat) : Prop where
 perm : PermIn 0 n d0 dk
 srt : ∀ q, SortedBy lt dk (q * bs) (min (q * bs + bs) n)
 tag : ∀ k, k < n → tg dk[k]! / bs = k / bs
structure BlkW (lt : α → α → Prop) (tg : α → Nat) (d0 dk : Array α) (n bs q : Nat) : Prop where
 perm : PermIn 0 n d0 dk
 srt2 : ∀ p, p < q → SortedBy lt dk (p * (2 * bs)) (p * (2 * bs) + 2 * bs)
 srt : ∀ p, 2 * q ≤ p → SortedBy lt dk (p * bs) (min (p * bs + bs) n)
 tag2 : ∀ k, k < n → tg dk[k]! / (2 * bs) = k / (2 * bs)
 tag : ∀ k, q * (2 * bs) ≤ k → k < n → tg dk[k]! / bs = k / bs
theorem Blk1.start {d0 : Array α} {n : Nat} (ht : ∀ k, k < n → tg d0[k]! = k) : Blk1 lt tg d0 d0 n 0 :=
 ⟨permIn_refl _ _ _, rfl, fun q h => by omega, fun k hk => by rw [ht k hk], fun k _ hk => ht k hk⟩
theorem Blk1.step (tr : ∀ x y z, lt x y → lt y z → lt x z) (hX : ∀ x y, tg x < tg y → CrossB lt cf x y) {d0 dk : Array α} {n a b : Nat} (h : Blk1 lt tg d0 dk n a) (hn : n ≤ d0.size) (hab : a ≤ b) (hb : b ≤ n) (hb2 : b ≤ a + 20) :
  Merged lt dk (insertionSort (fun x y => decide (cf x y < 0)) dk a b) a b := by
 have hs : dk.size = d0.size := h.perm.1
 refine insertion_by tr hab (by omega) fun p q h1 h2 h3 => hX _ _ ?_
 rw [h.rest p h1 (by omega), h.rest q (by omega) (by omega)]; exact h2
theorem Blk1.next {d0 dk d' : Array α} {n a : Nat} (h : Blk1 lt tg d0 dk n a) (hn : n ≤ d0.size) (hb : a + 20 ≤ n) (hm : Merged lt dk d' a (a + 20)) : Blk1 lt tg d0 d' n (a + 20) := by
 have hs : dk.size = d0.size := h.perm.1
 have hmul := h.mul
 refine ⟨permIn_trans _ _ _ _ _ h.perm (permIn_mono _ _ a (a + 20) 0 n (Nat.zero_le _) hb (by omega) hm.perm), by omega, fun q hq => ?_, perm_tag hm.perm hb (by omega) h.tag fun i j h1 h2 h3 h4 => by omega, fun k h1 h2 => by rw [hm.perm.2.1 k (.inr h1)]; exact h.rest k (by omega) h2⟩
 by_cases h1 : q * 20 < a
 ·exact (h.srt q h1).same fun k h2 h3 => hm.perm.2.1 k (.inl (by omega))
 ·have : q * 20 = a := by omega
  rw [this]; exact hm.srt
theorem Blk1.last {d0 dk d' : Array α} {n a : Nat} (h : Blk1 lt tg d0 dk n a) (hn : n ≤ d0.size) (ha : a ≤ n) (hb : n < a + 20) (hm : Merged lt dk d' a n) : Blks lt tg d0 d' n 20 := by
 have hs : dk.size = d0.size := h.perm.1
 have hmul := h.mul
 refine ⟨permIn_trans _ _ _ _ _ h.perm (permIn_mono _ _ a n 0 n (Nat.zero_le _) (Nat.le_refl _) (by omega) hm.perm), fun q => ?_, perm_tag hm.perm (Nat.le_refl _) (by omega) h.tag fun i j h1 h2 h3 h4 => by omega⟩
 by_cases h1 : q * 20 < a
 ·rw [Nat.min_eq_left (by omega)]
  exact (h.srt q h1).same fun k h2 h3 => hm.perm.2.1 k (.inl (by omega))
 ·intro i j h2 h3 h4
  by_cases h5 : q * 20 = a
  ·refine hm.srt i j (by omega) h3 (by omega)
  ·exfalso
   have : min (q * 20 + 20) n ≤ n := Nat.min_le_right _ _
   omega
theorem Blks.whole {d0 dk : Array α} {n bs : Nat} (h : Blks lt tg d0 dk n bs) (hb : n ≤ bs) : Merged lt d0 dk 0 n := by
 refine ⟨h.perm, ?_⟩
 have := h.srt 0
 rw [Nat.zero_mul, Nat.zero_add, Nat.min_eq_right hb] at this
 exact this
theorem tag_double {t k bs : Nat} (h : t / bs = k / bs) : t / (2 * bs) = k / (2 * bs) := by
 rw [Nat.mul_comm, ← Nat.div_div_eq_div_mul, ← Nat.div_div_eq_div_mul, h]
theorem BlkW.start {d0 dk : Array α} {n bs : Nat} (h : Blks lt tg d0 dk n bs) : BlkW lt tg d0 dk n bs 0 :=
 ⟨h.perm, fun p hp => by omega, fun p _ => h.srt p, fun k hk => tag_double (h.tag k hk), fun k _ hk => h.tag k hk⟩
theorem two_mul_mul (q bs : Nat) : q * (2 * bs) = 2 * q * bs := by rw [← Nat.mul_assoc, Nat.mul_comm q 2]
theorem div_in {bs p k : Nat} (hb : 0 < bs) (h1 : p * bs ≤ k) (h2 : k < p * bs + bs) : k / bs = p := by
 refine Nat.div_eq_of_lt_le h1 ?_
 rw [Nat.add_mul, Nat.one_mul]; exact h2
theorem BlkW.merge (hX : ∀ x y, tg x < tg y → CrossB lt cf x y) {d0 dk : Array α} {n bs q b : Nat} (h : BlkW lt tg d0 dk n bs q) (hbs : 0 < bs) (hm : q * (2 * bs) + bs < b) (hb : b ≤ n) (hb2 : b ≤ q * (2 * bs) + 2 * bs) (hb3 : b = n ∨ b = q * (2 * bs) + 2 * bs) :
  MergeIn lt cf dk (q * (2 * bs)) (q * (2 * bs) + bs) b := by
 have e := two_mul_mul q bs
 refine ⟨?_, ?_, ?_⟩
 ·have := h.srt (2 * q) (Nat.le_refl _)
  rw [← e, Nat.min_eq_left (by omega)] at this
  exact this
 ·have := h.srt (2 * q + 1) (by omega)
  rw [Nat.add_mul, Nat.one_mul, ← e] at this
  intro i j h1 h2 h3
  refine this i j h1 h2 ?_
  rw [Nat.lt_min]; omega
 ·intro i j h1 h2 h3 h4
  refine hX _ _ ?_
  have t1 := h.tag i h1 (by omega)
  have t2 := h.tag j (by omega) (by omega)
  rw [div_in (k := i) hbs (p := 2 * q) (by omega) (by omega)] at t1
  rw [div_in (k := j) hbs (p := 2 * q + 1) (by rw [Nat.add_mul, Nat.one_mul]; omega) (by rw [Nat.add_mul, Nat.one_mul]; omega)] at t2
  refine Classical.byContradiction fun hn => ?_
  have := Nat.div_le_div_right (c := bs) (Nat.le_of_not_lt hn)
  omega
theorem perm_tag2 {d0 dk d' : Array α} {n bs q b : Nat} (h : BlkW lt tg d0 dk n bs q) (hbs : 0 < bs) (hn : n ≤ d0.size) (hb : b ≤ n) (hb2 : b ≤ q * (2 * bs) + 2 * bs) (hm : PermIn (q * (2 * bs)) b dk d') : ∀ k, k < n → tg d'[k]! / (2 * bs) = k / (2 * bs) := by
 have hs : dk.size = d0.size := h.perm.1
 refine perm_tag hm hb (by omega) h.tag2 fun i j h1 h2 h3 h4 => ?_
 rw [div_in (by omega) h1 (by omega), div_in (by omega) h3 (by omega)]
theorem BlkW.next {d0 dk d' : Array α} {n bs q : Nat} (h : BlkW lt tg d0 dk n bs q) (hbs : 0 < bs) (hn : n ≤ d0.size) (hb : q * (2 * bs) + 2 * bs ≤ n) (hm : Merged lt dk d' (q * (2 * bs)) (q * (2 * bs) + 2 * bs)) : BlkW lt tg d0 d' n bs (q + 1) := by
 have hs : dk.size = d0.size := h.perm.1
 have e : (q + 1) * (2 * bs) = q * (2 * bs) + 2 * bs := by rw [Nat.add_mul, Nat.one_mul]
 refine ⟨permIn_trans _ _ _ _ _ h.perm (permIn_mono _ _ _ _ 0 n (Nat.zero_le _) hb (by omega) hm.perm), fun p hp => ?_, fun p hp => ?_, perm_tag2 h hbs hn hb (Nat.le_refl _) hm.perm, fun k h1 h2 => ?_⟩
 ·by_cases h1 : p = q
  ·subst h1; exact hm.srt
  ·have h2 : (p + 1) * (2 * bs) ≤ q * (2 * bs) := Nat.mul_le_mul_right _ (by omega)
   rw [Nat.add_mul, Nat.one_mul] at h2
   exact (h.srt2 p (by omega)).same fun k h3 h4 => hm.perm.2.1 k (.inl (by omega))
 ·have h2 : 2 * (q + 1) * bs ≤ p * bs := Nat.mul_le_mul_right _ hp
  rw [← two_mul_mul, e] at h2
  exact (h.srt p (by omega)).same fun k h3 h4 => hm.perm.2.1 k (.inr (by omega))
 ·rw [e] at h1
  rw [hm.perm.2.1 k (.inr h1)]; exact h.tag k (by omega) h2
theorem BlkW.last {d0 dk d' : Array α} {n bs q : Nat} (h : BlkW lt tg d0 dk n bs q) (hbs : 0 < bs) (hn : n ≤ d0.size) (hb : n < q * (2 * bs) + 2 * bs) (hm1 : q * (2 * bs) + bs < n) (hm : Merged lt dk d' (q * (2 * bs)) n) : Blks lt tg d0 d' n (2 * bs) := by
 have hs : dk.size = d0.size := h.perm.1
 refine ⟨permIn_trans _ _ _ _ _ h.perm (permIn_mono _ _ _ _ 0 n (Nat.zero_le _) (Nat.le_refl _) (by omega) hm.perm), fun p => ?_, perm_tag2 h hbs hn (Nat.le_refl _) (by omega) hm.perm⟩
 by_cases h1 : p < q
 ·have h2 : (p + 1) * (2 * bs) ≤ q * (2 * bs) := Nat.mul_le_mul_right _ h1
  rw [Nat.add_mul, Nat.one_mul] at h2
  rw [Nat.min_eq_left (by omega)]
  exact (h.srt2 p h1).same fun k h3 h4 => hm.perm.2.1 k (.inl (by omega))
 ·by_cases h2 : p = q
  ·subst h2; rw [Nat.min_eq_right (by omega)]; exact hm.srt
  ·have h3 : (q + 1) * (2 * bs) ≤ p * (2 * bs) := Nat.mul_le_mul_right _ (by omega)
   rw [Nat.add_mul, Nat.one_mul] at h3
   intro i j h4 h5 h6
   have : min (p * (2 * bs) + 2 * bs) n ≤ n := Nat.min_le_right _ _
   omega
theorem BlkW.rest {d0 dk : Array α} {n bs q : Nat} (h : BlkW lt tg d0 dk n bs q) (hbs : 0 < bs) (hn : n ≤ d0.size) (hm1 : n ≤ q * (2 * bs) + bs) : Blks lt tg d0 dk n (2 * bs) := by
 refine ⟨h.perm, fun p => ?_, h.tag2⟩
 by_cases h1 : p < q
 ·intro i j h4 h5 h6
  rw [Nat.lt_min] at h6
  exact h.srt2 p h1 i j h4 h5 h6.1
 ·by_cases h2 : p = q
  ·subst h2
   have := h.srt (2 * p) (Nat.le_refl _)
   rw [← two_mul_mul, Nat.min_eq_right hm1] at this
   rw [Nat.min_eq_right (by omega)]; exact this
  ·have h3 : (q + 1) * (2 * bs) ≤ p * (2 * bs) := Nat.mul_le_mul_right _ (by omega)
   rw [Nat.add_mul, Nat.one_mul] at h3
   intro i j h4 h5 h6
   have : min (p * (2 * bs) + 2 * bs) n ≤ n := Nat.min_le_right _ _
   omega
end
/-! ### what halving knows -/
structure BsA (cf : α → α → Int) (d : Array α) (a m b i j : Nat) : Prop where
 l : i = m ∨ cf d[i - 1]! d[a]! < 0
 h : j = b ∨ ¬ cf d[j]! d[a]! < 0
structure BsB (cf : α → α → Int) (d : Array α) (a m i j : Nat) : Prop where
 l : i = a ∨ ¬ cf d[m]! d[i - 1]! < 0
 h : j = m ∨ cf d[m]! d[j]! < 0
structure BsC (cf : α → α → Int) (d : Array α) (n lo hi i j : Nat) : Prop where
 l : i = lo ∨ ¬ cf d[n - 1 - (i - 1)]! d[i - 1]! < 0
 h : j = hi ∨ cf d[n - 1 - j]! d[j]! < 0
end Go.Proofs.R
end
section
namespace Go.Proofs.R
open Go Go.Shelf Go.Sort
set_option linter.unusedVariables false
set_option linter.unusedSectionVars false
set_option linter.unusedSimpArgs false
theorem put_cells_g {β : Type} [Inhabited β] (enc : β → Value) {pre cs rest : List Value} {dk : List β} (hl : cs.length = dk.length) : putCells enc pre.length dk.toArray (pre ++ (cs ++ rest)).toArray = (pre ++ (dk.map enc ++ rest)).toArray := by
 apply Array.ext
 ·simp [putCells, hl]
 ·intro k h1 h2
  simp only [putCells, Array.getElem_mapIdx, List.size_toArray]
  by_cases hk : pre.length ≤ k ∧ k < pre.length + dk.length
  ·rw [if_pos hk, getElem!_pos dk.toArray (k - pre.length) (by rw [List.size_toArray]; omega)]
   simp only [List.getElem_toArray]
   rw [List.getElem_append_right (by omega), List.getElem_append_left (by rw [List.length_map]; omega), List.getElem_map]
  ·rw [if_neg hk]
   simp only [List.getElem_toArray]
   by_cases h3 : k < pre.length
   ·rw [List.getElem_append_left h3, List.getElem_append_left h3]
   ·rw [List.getElem_append_right (by omega), List.getElem_append_right (by omega), List.getElem_append_right (by omega), List.getElem_append_right (by rw [List.length_map]; omega)]
    simp [hl]
theorem sorted1_of {β : Type} [Inhabited β] (enc : β → Value) {w : World} {b : Nat} {te : TypeId} {pre cs rest : List Value} {dk : List β} (hl : cs.length = dk.length)
  (h : w.heap[b]? = some (.cells (pre ++ (cs ++ rest)).toArray te (0, 0))) (m : Nat) (os : Array Obj) :
  SortedW w b te (pre ++ (dk.map enc ++ rest)).toArray (sortWorld enc w b pre.length m dk.toArray os) := by
 have hb := (Array.getElem?_eq_some_iff.1 h).1
 unfold sortWorld putRow mapBlock Sort.ahead Sort.grow
 refine ⟨rfl, rfl, rfl, Nat.le_add_right _ _, ?_, ?_, ?_⟩
 ·simp
 ·simp only
  rw [Array.getElem?_append_left (by simpa using hb), Array.getElem?_modify, if_pos rfl, h]
  simp only [Option.map_some, onCells]
  rw [put_cells_g enc hl]
 ·intro i hi hne
  simp only
  rw [Array.getElem?_append_left (by simpa using hi), Array.getElem?_modify, if_neg (Ne.symm hne)]
theorem holds1_row {β : Type} [Inhabited β] (enc : β → Value) {w : World} {b : Nat} {te : TypeId} {pre rest : List Value} {d : List β} (h : w.heap[b]? = some (.cells (pre ++ (d.map enc ++ rest)).toArray te (0, 0))) : Holds enc w b pre.length d.toArray := by
 intro j hj
 have hj' : j < d.length := by simpa using hj
 refine ⟨?_, ?_⟩
 ·rw [getElem!_pos _ j hj]
  simp only [World.cell?, h]
  simp [List.getElem?_append_right, List.getElem?_append_left, hj']
 ·simp only [World.frozen?, h]
  simp
theorem grown_eq1 {w w' : World} (h : Grown w w') : ∃ q os, w' = Sort.grow (w.drewN q) os := by
 obtain ⟨k1, k2, k3, k4, k5, k6⟩ := h
 refine ⟨w'.drawn - w.drawn, w'.heap.extract w.heap.size w'.heap.size, ?_⟩
 have hh : w'.heap = w.heap ++ w'.heap.extract w.heap.size w'.heap.size := by
  apply Array.ext_getElem?
  intro i
  by_cases hi : i < w.heap.size
  ·rw [Array.getElem?_append_left hi]; exact k6 i hi
  ·rw [Array.getElem?_append_right (by omega), Array.getElem?_extract]
   by_cases hi2 : i < w'.heap.size
   ·rw [if_pos (by omega)]; congr 1; omega
   ·rw [if_neg (by omega)]; exact Array.getElem?_eq_none (by omega)
 obtain ⟨h1, h2, h3, h4, h5⟩ := w'
 simp only at k1 k2 k3 k4 k5 k6 hh
 subst k1; subst k2; subst k3
 unfold Sort.grow World.drewN
 simp only
 rw [← hh]
 congr 1
 omega
theorem marks_eq {α : Type} : ∀ {l m : List (α × Nat)}, l.Perm m → l.Pairwise (fun a b => a.2 < b.2) → m.Pairwise (fun a b => a.2 < b.2) → l = m
 | [], m, h, _, _ => List.Perm.nil_eq h
 | x :: l, [], h, _, _ => by have := h.length_eq; simp at this
 | x :: l, y :: m, h, hl, hm => by
  rw [List.pairwise_cons] at hl hm
  have hxy : x = y := by
   rcases List.mem_cons.1 (h.mem_iff.1 List.mem_cons_self : x ∈ y :: m) with e | h1
   ·exact e
   ·rcases List.mem_cons.1 (h.mem_iff.2 List.mem_cons_self : y ∈ x :: l) with e | h2
    ·exact e.symm
    ·have := hm.1 x h1; have := hl.1 y h2; omega
  subst hxy
  rw [marks_eq (List.perm_cons x |>.1 h) hl.2 hm.2]
def marked {α : Type} : List α → Nat → List (α × Nat)
 | [], _ => []
 | x :: l, i => (x, i) :: marked l (i + 1)
theorem marked_fst {α : Type} : ∀ (l : List α) (i : Nat), (marked l i).map Prod.fst = l
 | [], _ => rfl
 | x :: l, i => by rw [marked, List.map_cons, marked_fst l (i + 1)]
theorem marked_len {α : Type} (l : List α) (i : Nat) : (marked l i).length = l.length := by
 conv => rhs; rw [← marked_fst l i]
 rw [List.length_map]
theorem marked_get {α : Type} : ∀ (l : List α) (i k : Nat) (h : k < (marked l i).length), ((marked l i)[k]).2 = i + k
 | [], _, _, h => by simp [marked] at h
 | x :: l, i, 0, _ => rfl
 | x :: l, i, k + 1, h => by
  have := marked_get l (i + 1) k (by simpa [marked] using h)
  simp only [marked, List.getElem_cons_succ]
  rw [this]; omega
theorem marked_asc {α : Type} (l : List α) (i : Nat) : (marked l i).Pairwise (fun a b => a.2 < b.2) := by
 rw [List.pairwise_iff_getElem]
 intro p q hp hq hpq
 rw [marked_get l i p hp, marked_get l i q hq]; omega
section
variable {α : Type} (cf : α → α → Int)
def ltM (x y : α × Nat) : Prop := cf x.1 y.1 < 0 ∨ (¬ cf y.1 x.1 < 0 ∧ x.2 < y.2)
variable (hby : ∀ xs : List α, SortsBy cf xs)
include hby
theorem irr_c (x : α) : ¬ cf x x < 0 := (hby [x]).irr x (by simp)
theorem tr_c {x y z : α} (h1 : cf x y < 0) (h2 : cf y z < 0) : cf x z < 0 := (hby [x, y, z]).tr x (by simp) y (by simp) z (by simp) h1 h2
theorem ntr_c {x y z : α} (h1 : ¬ cf x y < 0) (h2 : ¬ cf y z < 0) : ¬ cf x z < 0 := (hby [x, y, z]).ntr x (by simp) y (by simp) z (by simp) h1 h2
theorem asym_c {x y : α} (h : cf x y < 0) : ¬ cf y x < 0 := fun h2 => irr_c cf hby x (tr_c cf hby h h2)
theorem ltM_tr (x y z : α × Nat) (h1 : ltM cf x y) (h2 : ltM cf y z) : ltM cf x z := by
 by_cases hz : cf x.1 z.1 < 0
 ·exact .inl hz
 ·refine .inr ⟨?_, ?_⟩
  ·rcases h1 with h1 | ⟨h1, _⟩
   ·rcases h2 with h2 | ⟨h2, _⟩
    ·exact absurd (tr_c cf hby h1 h2) hz
    ·exact fun h3 => h2 (tr_c cf hby h3 h1)
   ·rcases h2 with h2 | ⟨h2, _⟩
    ·exact fun h3 => h1 (tr_c cf hby h2 h3)
    ·exact ntr_c cf hby h2 h1
  ·rcases h1 with h1 | ⟨h1, h1'⟩
   ·rcases h2 with h2 | ⟨h2, h2'⟩
    ·exact absurd (tr_c cf hby h1 h2) hz
    ·exfalso
     exact ntr_c cf hby hz h2 h1
   ·rcases h2 with h2 | ⟨h2, h2'⟩
    ·exfalso
     exact ntr_c cf hby h1 hz h2
    ·exact Nat.lt_trans h1' h2'
theorem ltM_cross (x y : α × Nat) (h : x.2 < y.2) : CrossB (ltM cf) (fun a b : α × Nat => cf a.1 b.1) x y := by
 refine ⟨fun h1 => .inl h1, fun h1 => ?_⟩
 exact .inr ⟨h1, h⟩
theorem sortRes_of {d : List α} {r : List (α × Nat)} (hp : r.Perm (marked d 0)) (hs : r.Pairwise (ltM cf)) : SortRes true cf d (r.map Prod.fst) := by
 refine ⟨?_, ?_, fun _ x hx => ?_⟩
 ·have := hp.map Prod.fst
  rwa [marked_fst] at this
 ·rw [List.pairwise_map]
  refine hs.imp fun {a b} h => ?_
  rcases h with h | ⟨h, _⟩
  ·exact asym_c cf hby h
  ·exact h
 ·have key : r.filter (fun p => eqvB cf x p.1) = (marked d 0).filter (fun p => eqvB cf x p.1) := by
   refine marks_eq (hp.filter _) ?_ ((marked_asc d 0).sublist List.filter_sublist)
   have h1 : (r.filter (fun p => eqvB cf x p.1)).Pairwise (ltM cf) := hs.sublist List.filter_sublist
   rw [List.pairwise_iff_forall_sublist] at h1 ⊢
   intro a b hab
   have ha : a ∈ r.filter (fun p => eqvB cf x p.1) := hab.subset (by simp)
   have hb : b ∈ r.filter (fun p => eqvB cf x p.1) := hab.subset (by simp)
   have ea := (List.mem_filter.1 ha).2
   have eb := (List.mem_filter.1 hb).2
   simp only [eqvB, Bool.and_eq_true, Bool.not_eq_true', decide_eq_false_iff_not] at ea eb
   rcases h1 hab with h | ⟨_, h⟩
   ·exact absurd h (ntr_c cf hby ea.2 eb.1)
   ·exact h
  have e1 : (r.map Prod.fst).filter (eqvB cf x) = (r.filter (fun p => eqvB cf x p.1)).map Prod.fst := by
   rw [List.filter_map]; rfl
  have e2 : d.filter (eqvB cf x) = ((marked d 0).filter (fun p => eqvB cf x p.1)).map Prod.fst := by
   conv => lhs; rw [← marked_fst d 0]
   rw [List.filter_map]; rfl
  rw [e1, e2, key]
end
def StableSpec (P : Program) (f : FuncId) : Prop := ∀ (β : Type) [Inhabited β] (enc : β → Value) (cf : β → β → Int) (lt : β → β → Prop) (tr : ∀ x y z, lt x y → lt y z → lt x z) (tg : β → Nat) (hX : ∀ x y, tg x < tg y → CrossB lt cf x y)
  (g : Nat) (cb : Array Value) (blk off cap : Nat) (d0 : Array β) (w0 : World) (eg : ∀ args w, (callFunc g args).run P w = .ok (.enter g args) w) (hcmp : CmpLays1 P g cb enc cf blk off d0.size w0) (R : Row1 enc w0 blk off d0) (hsz0 : d0.size ≤ 4294967296)
  (ht : ∀ k, k < d0.size → tg d0[k]! = k), Calls P f #[.slice (some ⟨blk, off, none⟩) d0.size cap, .func (.func g) #[] cb] w0 fun e w' => e = .returned (.tuple #[]) ∧ ∃ d', SW enc w0 blk off d' w' ∧ Merged lt d0 d' 0 d0.size
theorem one_list {l : List Value} (h : l.length = 1) : l = [l.headD undef] := by
 match l, h with
 | [v], _ => rfl
theorem stable_intr {P : Program} {f : FuncId} (T : TypeId) (hT : ∀ e i, P.underlying T = some (.slice e) → P.info? e = some i → i.size = 1)
  (hnone : ∀ A cap (g : FuncId) cb w, Calls P f #[.slice A 0 cap, .func (.func g) #[] cb] w fun e w' => e = .returned (.tuple #[]) ∧ w' = w) (h : StableSpec P f) : IntrOk P f (.sort T false true) := by
 intro sl g cb
 refine ⟨?_, ?_⟩
 ·rintro A cap rfl w
  refine (hnone A cap g cb w).mono ?_
  rintro e w' ⟨rfl, rfl⟩
  exact ⟨rfl, rfl, rfl, rfl, Nat.le_refl _, Nat.le_refl _, fun _ _ => rfl⟩
 ·intro e i hu hi α hα enc cf b cap pre rest d w te hsl hk h1 hby eg hw hd hcmp
  subst hsl
  have hk1 : ∀ x, (enc x).length = 1 := fun x => (hk x).trans (hT e i hu hi)
  let enc1 : α × Nat → Value := fun p => (enc p.1).headD undef
  have hfl : ∀ l : List (α × Nat), (l.map Prod.fst).flatMap enc = l.map enc1 := by
   intro l
   induction l with
   | nil => rfl
   | cons p l ih =>
    rw [List.map_cons, List.flatMap_cons, ih, List.map_cons, one_list (hk1 p.1)]; rfl
  have hfd : d.flatMap enc = (marked d 0).map enc1 := by
   conv => lhs; rw [← marked_fst d 0]
   exact hfl _
  letI : Inhabited (α × Nat) := ⟨(default, 0)⟩
  have hw' : w.heap[b]? = some (.cells (pre ++ ((marked d 0).map enc1 ++ rest)).toArray te (0, 0)) := by rw [← hfd]; exact hw
  have hsz : ((marked d 0).toArray).size = d.length := by rw [List.size_toArray, marked_len]
  have := h (α × Nat) enc1 (fun a b => cf a.1 b.1) (ltM cf) (ltM_tr cf hby) Prod.snd (ltM_cross cf hby) g cb b pre.length cap (marked d 0).toArray w eg ?_ ?_ ?_ ?_
  ·rw [hsz] at this
   refine this.mono ?_
   rintro ee w' ⟨rfl, d', ⟨n, os, rfl⟩, ⟨hp, hs⟩⟩
   have p1 : d'.size = d.length := hp.1.trans hsz
   refine ⟨rfl, d'.toList.map Prod.fst, sortRes_of cf hby ?_ ?_, ?_⟩
   ·have p3 := hp.2.2
    have e1 : (d'.extract 0 d.length).toList = d'.toList := by rw [← p1]; simp
    have e2 : ((marked d 0).toArray.extract 0 d.length).toList = marked d 0 := by rw [← hsz]; simp
    rw [e1, e2] at p3; exact p3
   ·rw [List.pairwise_iff_getElem]
    intro x y hx hy hxy
    have hx' : x < d'.size := by simpa using hx
    have hy' : y < d'.size := by simpa using hy
    have := hs x y (Nat.zero_le _) hxy (by rw [← p1]; exact hy')
    rw [getElem!_pos d' x hx', getElem!_pos d' y hy'] at this
    simpa using this
   ·rw [hfl]
    have := sorted1_of enc1 (dk := d'.toList) (cs := (marked d 0).map enc1) (by rw [List.length_map, marked_len, Array.length_toList]; exact p1.symm) hw' n os
    simpa using this
  ·intro m os dk hdk x y
   have hdk' : dk.toList.length = d.length := by rw [Array.length_toList, hdk, hsz]
   have hW := sorted1_of enc1 (dk := dk.toList) (cs := (marked d 0).map enc1) (by rw [List.length_map, marked_len, hdk']) hw' m os
   rw [← hfl] at hW
   have := hcmp (dk.toList.map Prod.fst) _ (by rw [List.length_map, hdk']) (by simpa using hW) x.1 y.1
   refine this.mono ?_
   rintro ee w' ⟨rfl, hg⟩
   exact ⟨rfl, grown_eq1 hg⟩
  ·refine ⟨fun x => ?_, holds1_row enc1 hw', (Array.getElem?_eq_some_iff.1 hw).1⟩
   refine h1 x.1 _ ?_
   rw [one_list (hk1 x.1)]; exact List.mem_cons_self
  ·rw [hsz]; exact hd
  ·intro k hk
   rw [getElem!_pos _ k hk, List.getElem_toArray, marked_get]; omega
end Go.Proofs.R
end
