/- What the walk of a stable sort leans on, and what it comes to. No condition. -/
import Derived.Test.YtpkckffbdojegaaRStabP
import Derived.Test.YtpkckffbdojegaaMachine0
import Derived.Shelf.SlSortCmp.Insertion1
set_option linter.unusedVariables false
set_option linter.unusedSimpArgs false
namespace Go.Proofs.R
open Go Go.Shelf Go.Sort
set_option linter.unusedVariables false
set_option linter.unusedSectionVars false
set_option linter.unusedSimpArgs false

theorem put_cells_g {β : Type} [Inhabited β] (enc : β → Value) {pre cs rest : List Value} {dk : List β} (hl : cs.length = dk.length) : putCells enc pre.length dk.toArray (pre ++ (cs ++ rest)).toArray = (pre ++ (dk.map enc ++ rest)).toArray := by
  apply Array.ext
  · simp [putCells, hl]
  · intro k h1 h2
    simp only [putCells, Array.getElem_mapIdx, List.size_toArray]
    by_cases hk : pre.length ≤ k ∧ k < pre.length + dk.length
    · rw [if_pos hk, getElem!_pos dk.toArray (k - pre.length) (by rw [List.size_toArray]; omega)]
      simp only [List.getElem_toArray]
      rw [List.getElem_append_right (by omega), List.getElem_append_left (by rw [List.length_map]; omega), List.getElem_map]
    · rw [if_neg hk]
      simp only [List.getElem_toArray]
      by_cases h3 : k < pre.length
      · rw [List.getElem_append_left h3, List.getElem_append_left h3]
      · rw [List.getElem_append_right (by omega), List.getElem_append_right (by omega), List.getElem_append_right (by omega), List.getElem_append_right (by rw [List.length_map]; omega)]
        simp [hl]
theorem sorted1_of {β : Type} [Inhabited β] (enc : β → Value) {w : World} {b : Nat} {te : TypeId} {pre cs rest : List Value} {dk : List β} (hl : cs.length = dk.length)
    (h : w.heap[b]? = some (.cells (pre ++ (cs ++ rest)).toArray te (0, 0))) (m : Nat) (os : Array Obj) :
    SortedW w b te (pre ++ (dk.map enc ++ rest)).toArray (sortWorld enc w b pre.length m dk.toArray os) := by
  have hb := (Array.getElem?_eq_some_iff.1 h).1
  unfold sortWorld putRow mapBlock Sort.ahead Sort.grow
  refine ⟨rfl, rfl, rfl, Nat.le_add_right _ _, ?_, ?_, ?_⟩
  · simp
  · simp only
    rw [Array.getElem?_append_left (by simpa using hb), Array.getElem?_modify, if_pos rfl, h]
    simp only [Option.map_some, onCells]
    rw [put_cells_g enc hl]
  · intro i hi hne
    simp only
    rw [Array.getElem?_append_left (by simpa using hi), Array.getElem?_modify, if_neg (Ne.symm hne)]
theorem holds1_row {β : Type} [Inhabited β] (enc : β → Value) {w : World} {b : Nat} {te : TypeId} {pre rest : List Value} {d : List β} (h : w.heap[b]? = some (.cells (pre ++ (d.map enc ++ rest)).toArray te (0, 0))) : Holds enc w b pre.length d.toArray := by
  intro j hj
  have hj' : j < d.length := by simpa using hj
  refine ⟨?_, ?_⟩
  · rw [getElem!_pos _ j hj]
    simp only [World.cell?, h]
    simp [List.getElem?_append_right, List.getElem?_append_left, hj']
  · simp only [World.frozen?, h]
    simp
theorem grown_eq1 {w w' : World} (h : Grown w w') : ∃ q os, w' = Sort.grow (w.drewN q) os := by
  obtain ⟨k1, k2, k3, k4, k5, k6⟩ := h
  refine ⟨w'.drawn - w.drawn, w'.heap.extract w.heap.size w'.heap.size, ?_⟩
  have hh : w'.heap = w.heap ++ w'.heap.extract w.heap.size w'.heap.size := by
    apply Array.ext_getElem?
    intro i
    by_cases hi : i < w.heap.size
    · rw [Array.getElem?_append_left hi]; exact k6 i hi
    · rw [Array.getElem?_append_right (by omega), Array.getElem?_extract]
      by_cases hi2 : i < w'.heap.size
      · rw [if_pos (by omega)]; congr 1; omega
      · rw [if_neg (by omega)]; exact Array.getElem?_eq_none (by omega)
  obtain ⟨h1, h2, h3, h4, h5⟩ := w'
  simp only at k1 k2 k3 k4 k5 k6 hh
  subst k1; subst k2; subst k3
  unfold Sort.grow World.drewN
  simp only
  rw [← hh]
  congr 1
  omega

/-- two lists of the same elements, both with ascending marks -/
theorem marks_eq {α : Type} : ∀ {l m : List (α × Nat)}, l.Perm m → l.Pairwise (fun a b => a.2 < b.2) → m.Pairwise (fun a b => a.2 < b.2) → l = m
  | [], m, h, _, _ => List.Perm.nil_eq h
  | x :: l, [], h, _, _ => by have := h.length_eq; simp at this
  | x :: l, y :: m, h, hl, hm => by
    rw [List.pairwise_cons] at hl hm
    have hxy : x = y := by
      rcases List.mem_cons.1 (h.mem_iff.1 List.mem_cons_self : x ∈ y :: m) with e | h1
      · exact e
      · rcases List.mem_cons.1 (h.mem_iff.2 List.mem_cons_self : y ∈ x :: l) with e | h2
        · exact e.symm
        · have := hm.1 x h1; have := hl.1 y h2; omega
    subst hxy
    rw [marks_eq (List.perm_cons x |>.1 h) hl.2 hm.2]
/-- each element with its place -/
def marked {α : Type} : List α → Nat → List (α × Nat)
  | [], _ => []
  | x :: l, i => (x, i) :: marked l (i + 1)
theorem marked_fst {α : Type} : ∀ (l : List α) (i : Nat), (marked l i).map Prod.fst = l
  | [], _ => rfl
  | x :: l, i => by rw [marked, List.map_cons, marked_fst l (i + 1)]
theorem marked_len {α : Type} (l : List α) (i : Nat) : (marked l i).length = l.length := by
  conv => rhs; rw [← marked_fst l i]
  rw [List.length_map]
theorem marked_get {α : Type} : ∀ (l : List α) (i k : Nat) (h : k < (marked l i).length), ((marked l i)[k]).2 = i + k
  | [], _, _, h => by simp [marked] at h
  | x :: l, i, 0, _ => rfl
  | x :: l, i, k + 1, h => by
    have := marked_get l (i + 1) k (by simpa [marked] using h)
    simp only [marked, List.getElem_cons_succ]
    rw [this]; omega
theorem marked_asc {α : Type} (l : List α) (i : Nat) : (marked l i).Pairwise (fun a b => a.2 < b.2) := by
  rw [List.pairwise_iff_getElem]
  intro p q hp hq hpq
  rw [marked_get l i p hp, marked_get l i q hq]; omega

section
variable {α : Type} (cf : α → α → Int)
/-- earlier: by what is compared, then by the places -/
def ltM (x y : α × Nat) : Prop := cf x.1 y.1 < 0 ∨ (¬ cf y.1 x.1 < 0 ∧ x.2 < y.2)
variable (hby : ∀ xs : List α, SortsBy cf xs)
include hby
theorem irr_c (x : α) : ¬ cf x x < 0 := (hby [x]).irr x (by simp)
theorem tr_c {x y z : α} (h1 : cf x y < 0) (h2 : cf y z < 0) : cf x z < 0 := (hby [x, y, z]).tr x (by simp) y (by simp) z (by simp) h1 h2
theorem ntr_c {x y z : α} (h1 : ¬ cf x y < 0) (h2 : ¬ cf y z < 0) : ¬ cf x z < 0 := (hby [x, y, z]).ntr x (by simp) y (by simp) z (by simp) h1 h2
theorem asym_c {x y : α} (h : cf x y < 0) : ¬ cf y x < 0 := fun h2 => irr_c cf hby x (tr_c cf hby h h2)
theorem ltM_tr (x y z : α × Nat) (h1 : ltM cf x y) (h2 : ltM cf y z) : ltM cf x z := by
  by_cases hz : cf x.1 z.1 < 0
  · exact .inl hz
  · refine .inr ⟨?_, ?_⟩
    · rcases h1 with h1 | ⟨h1, _⟩
      · rcases h2 with h2 | ⟨h2, _⟩
        · exact absurd (tr_c cf hby h1 h2) hz
        · exact fun h3 => h2 (tr_c cf hby h3 h1)
      · rcases h2 with h2 | ⟨h2, _⟩
        · exact fun h3 => h1 (tr_c cf hby h2 h3)
        · exact ntr_c cf hby h2 h1
    · rcases h1 with h1 | ⟨h1, h1'⟩
      · rcases h2 with h2 | ⟨h2, h2'⟩
        · exact absurd (tr_c cf hby h1 h2) hz
        · exfalso
          exact ntr_c cf hby hz h2 h1
      · rcases h2 with h2 | ⟨h2, h2'⟩
        · exfalso
          exact ntr_c cf hby h1 hz h2
        · exact Nat.lt_trans h1' h2'
theorem ltM_cross (x y : α × Nat) (h : x.2 < y.2) : CrossB (ltM cf) (fun a b : α × Nat => cf a.1 b.1) x y := by
  refine ⟨fun h1 => .inl h1, fun h1 => ?_⟩
  exact .inr ⟨h1, h⟩
theorem sortRes_of {d : List α} {r : List (α × Nat)} (hp : r.Perm (marked d 0)) (hs : r.Pairwise (ltM cf)) : SortRes true cf d (r.map Prod.fst) := by
  refine ⟨?_, ?_, fun _ x hx => ?_⟩
  · have := hp.map Prod.fst
    rwa [marked_fst] at this
  · rw [List.pairwise_map]
    refine hs.imp fun {a b} h => ?_
    rcases h with h | ⟨h, _⟩
    · exact asym_c cf hby h
    · exact h
  · have key : r.filter (fun p => eqvB cf x p.1) = (marked d 0).filter (fun p => eqvB cf x p.1) := by
      refine marks_eq (hp.filter _) ?_ ((marked_asc d 0).sublist List.filter_sublist)
      have h1 : (r.filter (fun p => eqvB cf x p.1)).Pairwise (ltM cf) := hs.sublist List.filter_sublist
      rw [List.pairwise_iff_forall_sublist] at h1 ⊢
      intro a b hab
      have ha : a ∈ r.filter (fun p => eqvB cf x p.1) := hab.subset (by simp)
      have hb : b ∈ r.filter (fun p => eqvB cf x p.1) := hab.subset (by simp)
      have ea := (List.mem_filter.1 ha).2
      have eb := (List.mem_filter.1 hb).2
      simp only [eqvB, Bool.and_eq_true, Bool.not_eq_true', decide_eq_false_iff_not] at ea eb
      rcases h1 hab with h | ⟨_, h⟩
      · exact absurd h (ntr_c cf hby ea.2 eb.1)
      · exact h
    have e1 : (r.map Prod.fst).filter (eqvB cf x) = (r.filter (fun p => eqvB cf x p.1)).map Prod.fst := by
      rw [List.filter_map]; rfl
    have e2 : d.filter (eqvB cf x) = ((marked d 0).filter (fun p => eqvB cf x p.1)).map Prod.fst := by
      conv => lhs; rw [← marked_fst d 0]
      rw [List.filter_map]; rfl
    rw [e1, e2, key]
end

/-- what is asked of the walk -/
def StableSpec (P : Program) (f : FuncId) : Prop := ∀ (β : Type) [Inhabited β] (enc : β → Value) (cf : β → β → Int) (lt : β → β → Prop) (tr : ∀ x y z, lt x y → lt y z → lt x z) (tg : β → Nat) (hX : ∀ x y, tg x < tg y → CrossB lt cf x y)
    (g : Nat) (cb : Array Value) (blk off cap : Nat) (d0 : Array β) (w0 : World) (eg : ∀ args w, (callFunc g args).run P w = .ok (.enter g args) w) (hcmp : CmpLays1 P g cb enc cf blk off d0.size w0) (R : Row1 enc w0 blk off d0) (hsz0 : d0.size ≤ 4294967296)
    (ht : ∀ k, k < d0.size → tg d0[k]! = k), Calls P f #[.slice (some ⟨blk, off, none⟩) d0.size cap, .func (.func g) #[] cb] w0 fun e w' => e = .returned (.tuple #[]) ∧ ∃ d', SW enc w0 blk off d' w' ∧ Merged lt d0 d' 0 d0.size

theorem one_list {l : List Value} (h : l.length = 1) : l = [l.headD undef] := by
  match l, h with
  | [v], _ => rfl
theorem stable_intr {P : Program} {f : FuncId} (T : TypeId) (hT : ∀ e i, P.underlying T = some (.slice e) → P.info? e = some i → i.size = 1)
    (hnone : ∀ A cap (g : FuncId) cb w, Calls P f #[.slice A 0 cap, .func (.func g) #[] cb] w fun e w' => e = .returned (.tuple #[]) ∧ w' = w) (h : StableSpec P f) : IntrOk P f (.sort T false true) := by
  intro sl g cb
  refine ⟨?_, ?_⟩
  · rintro A cap rfl w
    refine (hnone A cap g cb w).mono ?_
    rintro e w' ⟨rfl, rfl⟩
    exact ⟨rfl, rfl, rfl, rfl, Nat.le_refl _, Nat.le_refl _, fun _ _ => rfl⟩
  · intro e i hu hi α hα enc cf b cap pre rest d w te hsl hk h1 hby eg hw hd hcmp
    subst hsl
    have hk1 : ∀ x, (enc x).length = 1 := fun x => (hk x).trans (hT e i hu hi)
    let enc1 : α × Nat → Value := fun p => (enc p.1).headD undef
    have hfl : ∀ l : List (α × Nat), (l.map Prod.fst).flatMap enc = l.map enc1 := by
      intro l
      induction l with
      | nil => rfl
      | cons p l ih =>
        rw [List.map_cons, List.flatMap_cons, ih, List.map_cons, one_list (hk1 p.1)]; rfl
    have hfd : d.flatMap enc = (marked d 0).map enc1 := by
      conv => lhs; rw [← marked_fst d 0]
      exact hfl _
    letI : Inhabited (α × Nat) := ⟨(default, 0)⟩
    have hw' : w.heap[b]? = some (.cells (pre ++ ((marked d 0).map enc1 ++ rest)).toArray te (0, 0)) := by rw [← hfd]; exact hw
    have hsz : ((marked d 0).toArray).size = d.length := by rw [List.size_toArray, marked_len]
    have := h (α × Nat) enc1 (fun a b => cf a.1 b.1) (ltM cf) (ltM_tr cf hby) Prod.snd (ltM_cross cf hby) g cb b pre.length cap (marked d 0).toArray w eg ?_ ?_ ?_ ?_
    · rw [hsz] at this
      refine this.mono ?_
      rintro ee w' ⟨rfl, d', ⟨n, os, rfl⟩, ⟨hp, hs⟩⟩
      have p1 : d'.size = d.length := hp.1.trans hsz
      refine ⟨rfl, d'.toList.map Prod.fst, sortRes_of cf hby ?_ ?_, ?_⟩
      · have p3 := hp.2.2
        have e1 : (d'.extract 0 d.length).toList = d'.toList := by rw [← p1]; simp
        have e2 : ((marked d 0).toArray.extract 0 d.length).toList = marked d 0 := by rw [← hsz]; simp
        rw [e1, e2] at p3; exact p3
      · rw [List.pairwise_iff_getElem]
        intro x y hx hy hxy
        have hx' : x < d'.size := by simpa using hx
        have hy' : y < d'.size := by simpa using hy
        have := hs x y (Nat.zero_le _) hxy (by rw [← p1]; exact hy')
        rw [getElem!_pos d' x hx', getElem!_pos d' y hy'] at this
        simpa using this
      · rw [hfl]
        have := sorted1_of enc1 (dk := d'.toList) (cs := (marked d 0).map enc1) (by rw [List.length_map, marked_len, Array.length_toList]; exact p1.symm) hw' n os
        simpa using this
    · intro m os dk hdk x y
      have hdk' : dk.toList.length = d.length := by rw [Array.length_toList, hdk, hsz]
      have hW := sorted1_of enc1 (dk := dk.toList) (cs := (marked d 0).map enc1) (by rw [List.length_map, marked_len, hdk']) hw' m os
      rw [← hfl] at hW
      have := hcmp (dk.toList.map Prod.fst) _ (by rw [List.length_map, hdk']) (by simpa using hW) x.1 y.1
      refine this.mono ?_
      rintro ee w' ⟨rfl, hg⟩
      exact ⟨rfl, grown_eq1 hg⟩
    · refine ⟨fun x => ?_, holds1_row enc1 hw', (Array.getElem?_eq_some_iff.1 hw).1⟩
      refine h1 x.1 _ ?_
      rw [one_list (hk1 x.1)]; exact List.mem_cons_self
    · rw [hsz]; exact hd
    · intro k hk
      rw [getElem!_pos _ k hk, List.getElem_toArray, marked_get]; omega
end Go.Proofs.R
