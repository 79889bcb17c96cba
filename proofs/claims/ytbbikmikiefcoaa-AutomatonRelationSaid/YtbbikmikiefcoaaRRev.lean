/- slices.Reverse does with a row what the evaluator tells. -/
import Derived.Test.YtbbikmikiefcoaaMachine0
import Derived.Shelf.SlicesE.Reverse
set_option linter.unusedVariables false
set_option linter.unusedSimpArgs false
namespace Go.Proofs.R
open Go Go.Shelf Go.Sort
set_option linter.unusedVariables false
set_option linter.unusedSimpArgs false

abbrev OneV := { v : Value // v.oneCell' = true }
instance : Inhabited OneV := ⟨⟨.bool false, rfl⟩⟩
def encV : OneV → Value := Subtype.val
theorem one_cellV : OneCell encV := fun x => x.2

def withP (zs : List Value) (h : ∀ v ∈ zs, v.oneCell' = true) : List OneV := zs.attach.map fun v => ⟨v.1, h v.1 v.2⟩
theorem withP_val {zs : List Value} (h : ∀ v ∈ zs, v.oneCell' = true) : (withP zs h).map encV = zs := by
  simp [withP, encV, Function.comp_def]
theorem withP_len {zs : List Value} (h : ∀ v ∈ zs, v.oneCell' = true) : (withP zs h).length = zs.length := by simp [withP]

theorem encV_get {ys : List OneV} {j : Nat} (h : j < ys.length) : encV (ys.toArray[j]!) = (ys.map encV)[j]'(by simpa using h) := by
  rw [getElem!_pos _ j (by simpa using h)]
  simp

theorem put_cells {ys : List OneV} {pre cs rest : List Value} (hl : cs.length = ys.length) : putCells encV pre.length ys.toArray (pre ++ (cs ++ rest)).toArray = (pre ++ (ys.map encV ++ rest)).toArray := by
  apply Array.ext
  · simp [putCells, hl]
  · intro k h1 h2
    simp only [putCells, Array.getElem_mapIdx, List.size_toArray]
    by_cases hk : pre.length ≤ k ∧ k < pre.length + ys.length
    · rw [if_pos hk, encV_get (by omega)]
      simp only [List.getElem_toArray]
      rw [List.getElem_append_right (by omega), List.getElem_append_left (by simp; omega)]
    · rw [if_neg hk]
      simp only [List.getElem_toArray]
      by_cases h3 : k < pre.length
      · rw [List.getElem_append_left h3, List.getElem_append_left h3]
      · rw [List.getElem_append_right (by omega), List.getElem_append_right (by omega), List.getElem_append_right (by omega), List.getElem_append_right (by simp; omega)]
        simp [hl]

theorem putRow_set' {w : World} {b : Nat} {e : TypeId} {fz : Nat × Nat} {arr : Array Value} (h : w.heap[b]? = some (.cells arr e fz)) {ys : List OneV} {o : Nat} {out : Array Value} (hp : putCells encV o ys.toArray arr = out) (n : Nat) :
    putRow encV (Sort.ahead w n) b o ys.toArray = { w.setRow b out with drawn := w.drawn + n } := by
  unfold putRow mapBlock Sort.ahead World.setRow
  congr 1
  apply Array.ext_getElem?
  intro k
  rw [Array.getElem?_modify, Array.getElem?_modify]
  by_cases hk : b = k
  · subst hk
    simp only [if_true, h, Option.map_some, onCells, hp]
  · simp [hk]

theorem rev_intr {P : Program} {ρ : Ren} (L : SlLaysE.n35 P ρ) (T : TypeId) : IntrOk P (ρ.f 35) (.rev T) := by
  refine ⟨fun w A cap => AnyE.slices_Reverse_empty L A cap w, ?_⟩
  intro w b cap e pre zs rest hw hl hone
  have hlen := withP_len hone
  have hH : Holds encV w b pre.length (withP zs hone).toArray := by
    intro j hj
    have hj' : j < zs.length := by simpa [hlen] using hj
    refine ⟨?_, ?_⟩
    · rw [encV_get (by omega)]
      simp only [withP_val]
      simp only [World.cell?, hw]
      simp [List.getElem?_append_right, List.getElem?_append_left hj']
    · simp only [World.frozen?, hw]
      simp
  have := AnyE.slices_Reverse L encV one_cellV b pre.length cap (withP zs hone) w hH (by omega)
  rw [hlen] at this
  refine this.mono ?_
  rintro ee w' ⟨rfl, n, rfl⟩
  refine ⟨rfl, w.drawn + n, Nat.le_add_right _ _, ?_⟩
  refine putRow_set' hw ?_ n
  rw [put_cells (by simp [hlen]), List.map_reverse, withP_val]
end Go.Proofs.R
