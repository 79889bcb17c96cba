/- slices.SortFunc at structs does with a row what the evaluator tells. -/
import Derived.Test.YtbbikmikiefcoaaMachine0
import Derived.Shelf.SlSortCmp.WholeK
import Derived.Shelf.SlSortCmp.NoneTotal
set_option linter.unusedVariables false
set_option linter.unusedSimpArgs false
namespace Go.Proofs.R
open Go Go.Shelf Go.Sort
set_option linter.unusedVariables false
set_option linter.unusedSimpArgs false

theorem flatK_list {α : Type} [Inhabited α] {enc : α → List Value} {k : Nat} (hk : ∀ x, (enc x).length = k) (d : List α) : flatK enc k d.toArray = (d.flatMap enc).toArray := by
  have hlen : ∀ l : List α, (l.flatMap enc).length = l.length * k := by
    intro l
    induction l with
    | nil => simp
    | cons y l ih => rw [List.flatMap_cons, List.length_append, ih, hk, List.length_cons, Nat.add_mul]; omega
  have hget : ∀ (l : List α) (t : Nat), t < l.length * k → ((l.flatMap enc)[t]?).getD undef = (enc (l.toArray[t / k]!))[t % k]! := by
    intro l
    induction l with
    | nil => intro t ht; simp at ht
    | cons y l ih =>
      intro t ht
      have hk0 : 0 < k := by
        rcases Nat.eq_zero_or_pos k with h | h
        · subst h; simp at ht
        · exact h
      rw [List.flatMap_cons]
      by_cases h1 : t < k
      · rw [List.getElem?_append_left (by rw [hk]; exact h1), Nat.div_eq_of_lt h1, Nat.mod_eq_of_lt h1]
        have : t < (enc y).length := by rw [hk]; exact h1
        simp [this]
      · have h2 : k ≤ t := by omega
        rw [List.getElem?_append_right (by rw [hk]; exact h2), hk, ih (t - k) (by rw [List.length_cons, Nat.add_mul] at ht; omega)]
        have e1 : t / k = (t - k) / k + 1 := by rw [Nat.div_eq_sub_div hk0 h2]
        have e2 : t % k = (t - k) % k := by rw [Nat.mod_eq_sub_mod h2]
        rw [e1, e2]
        congr 2
        by_cases h3 : (t - k) / k < l.length
        · simp [h3]
        · simp [h3]
  apply Array.ext
  · simp [hlen]
  · intro t h1 h2
    have ht : t < d.length * k := by simpa using h1
    have h3 := get_flatK enc k d.toArray t (by simpa using ht)
    rw [getElem!_pos _ t h1] at h3
    rw [h3, ← hget d t ht]
    have : t < (d.flatMap enc).length := by rw [hlen]; exact ht
    rw [List.getElem?_eq_getElem this]; rfl

theorem put_cells_id {zs pre cs rest : List Value} (hl : cs.length = zs.length) : putCells id pre.length zs.toArray (pre ++ (cs ++ rest)).toArray = (pre ++ (zs ++ rest)).toArray := by
  apply Array.ext
  · simp [putCells, hl]
  · intro k h1 h2
    simp only [putCells, Array.getElem_mapIdx, List.size_toArray]
    by_cases hk : pre.length ≤ k ∧ k < pre.length + zs.length
    · rw [if_pos hk, getElem!_pos zs.toArray (k - pre.length) (by rw [List.size_toArray]; omega)]
      simp only [List.getElem_toArray, id]
      rw [List.getElem_append_right (by omega), List.getElem_append_left (by omega)]
    · rw [if_neg hk]
      simp only [List.getElem_toArray]
      by_cases h3 : k < pre.length
      · rw [List.getElem_append_left h3, List.getElem_append_left h3]
      · rw [List.getElem_append_right (by omega), List.getElem_append_right (by omega), List.getElem_append_right (by omega), List.getElem_append_right (by omega)]
        simp [hl]

theorem holds_row {w : World} {b : Nat} {te : TypeId} {pre zs rest : List Value} (h : w.heap[b]? = some (.cells (pre ++ (zs ++ rest)).toArray te (0, 0))) : Holds id w b pre.length zs.toArray := by
  intro j hj
  have hj' : j < zs.length := by simpa using hj
  refine ⟨?_, ?_⟩
  · rw [getElem!_pos _ j hj]
    simp only [World.cell?, h]
    simp [List.getElem?_append_right, List.getElem?_append_left hj']
  · simp only [World.frozen?, h]
    simp

/-- the worlds of a sort -/
theorem sortW_of {α : Type} [Inhabited α] {enc : α → List Value} {k : Nat} (hk : ∀ x, (enc x).length = k) {w : World} {b : Nat} {te : TypeId} {pre rest : List Value} {d dk : List α} (hl : dk.length = d.length)
    (h : w.heap[b]? = some (.cells (pre ++ (d.flatMap enc ++ rest)).toArray te (0, 0))) (m : Nat) (os : Array Obj) :
    SortedW w b te (pre ++ (dk.flatMap enc ++ rest)).toArray (sortWorldK enc k w b pre.length m dk.toArray os) := by
  have hlen : ∀ l : List α, (l.flatMap enc).length = l.length * k := by
    intro l
    induction l with
    | nil => simp
    | cons y l ih => rw [List.flatMap_cons, List.length_append, ih, hk, List.length_cons, Nat.add_mul]; omega
  have hb := (Array.getElem?_eq_some_iff.1 h).1
  unfold sortWorldK putRowK putRow mapBlock Sort.ahead Sort.grow
  rw [flatK_list hk]
  refine ⟨rfl, rfl, rfl, Nat.le_add_right _ _, ?_, ?_, ?_⟩
  · simp
  · simp only
    rw [Array.getElem?_append_left (by simpa using hb), Array.getElem?_modify, if_pos rfl, h]
    simp only [Option.map_some, onCells]
    rw [put_cells_id (by rw [hlen, hlen, hl])]
  · intro i hi hne
    simp only
    rw [Array.getElem?_append_left (by simpa using hi), Array.getElem?_modify, if_neg (Ne.symm hne)]

theorem grown_eq {w w' : World} (h : Grown w w') : ∃ q os, w' = Sort.grow (w.drewN q) os := by
  obtain ⟨k1, k2, k3, k4, k5, k6⟩ := h
  refine ⟨w'.drawn - w.drawn, w'.heap.extract w.heap.size w'.heap.size, ?_⟩
  have hh : w'.heap = w.heap ++ w'.heap.extract w.heap.size w'.heap.size := by
    apply Array.ext_getElem?
    intro i
    by_cases hi : i < w.heap.size
    · rw [Array.getElem?_append_left hi]; exact k6 i hi
    · rw [Array.getElem?_append_right (by omega), Array.getElem?_extract]
      by_cases hi2 : i < w'.heap.size
      · rw [if_pos (by omega)]; congr 1; omega
      · rw [if_neg (by omega)]; exact Array.getElem?_eq_none (by omega)
  obtain ⟨h1, h2, h3, h4, h5⟩ := w'
  simp only at k1 k2 k3 k4 k5 k6 hh
  subst k1; subst k2; subst k3
  unfold Sort.grow World.drewN
  simp only
  rw [← hh]
  congr 1
  omega

theorem swo_of {α : Type} {cf : α → α → Int} (h : ∀ xs : List α, SortsBy cf xs) : SWO (ltOf cf) := by
  refine ⟨fun x => ?_, fun x y z h1 h2 => ?_, fun x y z h1 h2 => ?_⟩
  · exact decide_eq_false ((h [x]).irr x (by simp))
  · exact decide_eq_true ((h [x, y, z]).tr x (by simp) y (by simp) z (by simp) (of_decide_eq_true h1) (of_decide_eq_true h2))
  · exact decide_eq_false ((h [x, y, z]).ntr x (by simp) y (by simp) z (by simp) (of_decide_eq_false h1) (of_decide_eq_false h2))

theorem sort_intr {P : Program} {ρ : Ren} (L : SlLaysF0.n6 P ρ) (k : Nat) (aE : ∀ w, (isAgg (ρ.t 24)).run P w = .ok true w) (zE : ∀ w, (Go.sizeOf (ρ.t 24)).run P w = .ok k w) (T : TypeId)
    (hT : ∀ e i, P.underlying T = some (.slice e) → P.info? e = some i → i.size = k) : IntrOk P (ρ.f 6) (.sort T true false) := by
  intro sl g cb
  refine ⟨?_, ?_⟩
  · rintro A cap rfl w
    refine (AnyF.slices_SortFunc_none L A cap _ w).mono ?_
    rintro e w' ⟨rfl, rfl⟩
    exact ⟨rfl, rfl, rfl, rfl, Nat.le_refl _, Nat.le_refl _, fun _ _ => rfl⟩
  · intro e i hu hi α _ enc cf b cap pre rest d w te hsl hk h1 hby eg hw hd hcmp
    subst hsl
    have hk' : ∀ x, (enc x).length = k := fun x => (hk x).trans (hT e i hu hi)
    have := AnyQ.slices_SortFunc L k aE zE enc hk' h1 cf (swo_of hby) g cb b pre.length cap d.toArray w eg ?_ ?_ ?_ ?_
    · rw [List.size_toArray] at this
      refine this.mono ?_
      rintro ee w' ⟨rfl, d', n, os, hp, hs, rfl⟩
      obtain ⟨p1, _, p3⟩ := hp
      have hl : d'.toList.length = d.length := by simpa using p1
      refine ⟨rfl, d'.toList, ⟨?_, ?_, fun h => by cases h⟩, sortW_of hk' hl hw n os⟩
      · have p1' : d'.size = d.length := by simpa using p1
        have e1 : (d'.extract 0 d.length).toList = d'.toList := by rw [← p1']; simp
        have e2 : (d.toArray.extract 0 d.length).toList = d := by simp
        rw [e1, e2] at p3; exact p3
      · rw [List.pairwise_iff_getElem]
        intro x y hx hy hxy
        have := hs x y (Nat.zero_le _) hxy (by rw [← hl]; exact hy)
        have hx' : x < d'.size := by simpa using hx
        have hy' : y < d'.size := by simpa using hy
        rw [getElem!_pos d' x hx', getElem!_pos d' y hy'] at this
        have := of_decide_eq_false this
        simpa using this
    · intro m os dk hdk x y
      have hW := sortW_of (dk := dk.toList) (d := d) hk' (by simpa using hdk) hw m os
      have := hcmp dk.toList _ (by simpa using hdk) hW x y
      refine this.mono ?_
      rintro ee w' ⟨rfl, hg⟩
      exact ⟨rfl, grown_eq hg⟩
    · show Holds id w b pre.length (flatK enc k d.toArray)
      rw [flatK_list hk']
      exact holds_row hw
    · exact (Array.getElem?_eq_some_iff.1 hw).1
    · rw [List.size_toArray]; omega
end Go.Proofs.R
