/- Plain words for the chapter of automata: the word that is found is a shortest one. -/
import Derived.Test.YtmbloefhgkhoaaaM07d
set_option linter.unusedVariables false
set_option linter.unusedSimpArgs false
namespace Go.Proofs.C07.M
open Go Go.Proofs.R
set_option linter.unusedVariables false
set_option linter.unusedSimpArgs false
set_option maxRecDepth 100000

section
variable {L Sa Sb : Int} {Na Nb : LLI} {Aa Ab : LB} {p0 : Pr}

/-- the places from which pairs were found do not fall -/
def Ord (i : Nat) (l : List Vis) : Prop := (∀ v ∈ l, v.2.1 ≤ (i : Int)) ∧ ∀ (j j' : Nat) (v v' : Vis), j ≤ j' → l[j]? = some v → l[j']? = some v' → v.2.1 ≤ v'.2.1
theorem Ord.mono {i i' : Nat} {l : List Vis} (h : Ord i l) (hi : i ≤ i') : Ord i' l := ⟨fun v hv => by have := h.1 v hv; omega, h.2⟩
theorem app_ord {i : Nat} {l : List Vis} (h : Ord i l) (q : Pr) (c : Int) : Ord i (l ++ [(q, ((i : Int), c))]) := by
  refine ⟨?_, ?_⟩
  · intro v hv
    rcases List.mem_append.1 hv with hv | hv
    · exact h.1 v hv
    · simp at hv; subst hv; simp
  · intro j j' v v' hj h1 h2
    have hl2 := (List.getElem?_eq_some_iff.1 h2).1
    simp only [List.length_append, List.length_cons, List.length_nil] at hl2
    by_cases h3 : j' < l.length
    · rw [List.getElem?_append_left h3] at h2
      rw [List.getElem?_append_left (by omega)] at h1
      exact h.2 j j' v v' hj h1 h2
    · have : j' = l.length := by omega
      subst this
      simp at h2; subst h2
      by_cases h4 : j < l.length
      · rw [List.getElem?_append_left h4] at h1
        have := h.1 v (List.mem_of_getElem? h1)
        exact this
      · have : j = l.length := by omega
        subst this
        simp at h1; subst h1; simp
theorem one_ord {i c : Nat} {l : List Vis} (h : Ord i l) : Ord i (one gT Na Nb i c l) := by
  unfold one
  split
  · cases (gT (nx Na Nb _ c) && !has l (nx Na Nb _ c)) with
    | true => exact app_ord h _ _
    | false => exact h
  · exact h
theorem rowV_ord {i : Nat} : ∀ (f c : Nat) {l : List Vis}, Ord i l → Ord i (rowV gT Na Nb i f c l)
  | 0, c, l, h => h
  | f + 1, c, l, h => rowV_ord f (c + 1) (one_ord h)

def Near (q : Pr) (j : Nat) (l : List Vis) : Prop := ∃ (k : Nat) (u : Vis), l[k]? = some u ∧ u.1 = q ∧ u.2.1 ≤ (j : Int)
theorem Near.pre {q : Pr} {j : Nat} {l e : List Vis} (h : Near q j l) : Near q j (l ++ e) := by
  obtain ⟨k, u, h1, h2⟩ := h
  exact ⟨k, u, by rw [List.getElem?_append_left (List.getElem?_eq_some_iff.1 h1).1]; exact h1, h2⟩
theorem one_near {i c : Nat} {l : List Vis} {v : Vis} (ho : Ord i l) (hv : l[i]? = some v) : Near (nx Na Nb v.1 c) i (one gT Na Nb i c l) := by
  unfold one
  rw [hv]
  simp only [gT, Bool.true_and]
  cases hh : has l (nx Na Nb v.1 c) with
  | true =>
    have := has_iff.1 hh
    simp only [List.mem_map] at this
    obtain ⟨u, hu, e⟩ := this
    obtain ⟨k, hk⟩ := List.mem_iff_getElem?.1 hu
    exact ⟨k, u, hk, e, ho.1 u hu⟩
  | false => exact ⟨l.length, (nx Na Nb v.1 c, ((i : Int), (c : Int))), by simp, rfl, by simp⟩
theorem rowV_near {i : Nat} : ∀ (f c : Nat) {l : List Vis} {v : Vis}, Ord i l → l[i]? = some v → ∀ c' : Nat, c ≤ c' → c' < c + f → Near (nx Na Nb v.1 c') i (rowV gT Na Nb i f c l)
  | 0, c, l, v, _, hv, c', h1, h2 => by omega
  | f + 1, c, l, v, ho, hv, c', h1, h2 => by
    simp only [rowV]
    obtain ⟨e, he⟩ := one_pre (g := gT) (Na := Na) (Nb := Nb) i c l
    by_cases hc : c' = c
    · subst hc
      obtain ⟨e2, he2⟩ := rowV_pre (g := gT) (Na := Na) (Nb := Nb) i f (c' + 1) (one gT Na Nb i c' l)
      rw [he2]
      exact (one_near ho hv).pre
    · refine rowV_near f (c + 1) (one_ord ho) ?_ c' (by omega) (by omega)
      rw [he, List.getElem?_append_left (List.getElem?_eq_some_iff.1 hv).1]; exact hv

def DoneN (L : Int) (Na Nb : LLI) (i : Nat) (l : List Vis) : Prop := ∀ j v, j < i → l[j]? = some v → ∀ c : Nat, (c : Int) < L → Near (nx Na Nb v.1 c) j l

theorem bfs_near (ha : V L Sa Na Aa) (hb : V L Sb Nb Ab) : ∀ (f i : Nat) {l : List Vis}, Inv gT L Na Nb p0 l → Ord i l → DoneN L Na Nb i l → 160801 ≤ i + f → (∃ i', Ord i' (bfs gT L Na Nb f i l)) ∧ DoneN L Na Nb (bfs gT L Na Nb f i l).length (bfs gT L Na Nb f i l)
  | 0, i, l, h, ho, hd, hf => by
    refine ⟨⟨i, ho⟩, fun j v hj => hd j v ?_⟩
    have := inv_len ha hb h
    simp only [bfs] at hj
    omega
  | f + 1, i, l, h, ho, hd, hf => by
    simp only [bfs]
    split
    · rename_i hi
      have hL := ha.l1
      refine bfs_near ha hb f (i + 1) (rowV_inv ha hb L.toNat 0 h hi (by omega)) ((rowV_ord L.toNat 0 ho).mono (by omega)) ?_ (by omega)
      intro j v hj hv c hc
      obtain ⟨e, he⟩ := rowV_pre (g := gT) (Na := Na) (Nb := Nb) i L.toNat 0 l
      rw [he, List.getElem?_append_left (by omega)] at hv
      by_cases hji : j = i
      · subst hji
        exact rowV_near L.toNat 0 ho hv c (by omega) (by omega)
      · rw [he]; exact (hd j v (by omega) hv c hc).pre
    · rename_i hi
      exact ⟨⟨i, ho⟩, fun j v hj => hd j v (by omega)⟩

theorem walkL_near (ha : V L Sa Na Aa) (hb : V L Sb Nb Ab) : (∃ i', Ord i' (walkL L Sa Na Sb Nb)) ∧ DoneN L Na Nb (walkL L Sa Na Sb Nb).length (walkL L Sa Na Sb Nb) := by
  refine bfs_near ha hb 160801 0 (start_inv ha hb rfl) ⟨?_, ?_⟩ (fun j v hj => by omega) (by omega)
  · intro v hv; simp at hv; subst hv; simp
  · intro j j' v v' hj h1 h2
    have e1 : j' = 0 := by have := (List.getElem?_eq_some_iff.1 h2).1; simp at this; omega
    have e2 : j = 0 := by omega
    subst e1; subst e2
    rw [h1] at h2; cases h2; exact Int.le_refl _

/-- the ways' lengths do not fall -/
theorem wd_mono {l : List Vis} {i0 : Nat} (h : Inv gT L Na Nb p0 l) (ho : Ord i0 l) : ∀ (j' j : Nat) (v' : Vis), j ≤ j' → l[j']? = some v' → (wd l j).length ≤ (wd l j').length := by
  intro j'
  induction j' using Nat.strongRecOn with
  | ind j' ih =>
    intro j v' hj hv'
    by_cases h0 : j = 0
    · subst h0; rw [wd_zero h]; simp
    · have hjl : j < l.length := by have := (List.getElem?_eq_some_iff.1 hv').1; omega
      have hv : l[j]? = some l[j] := List.getElem?_eq_getElem hjl
      obtain ⟨b, c, h1, h2, h3, u, h4, h5⟩ := h.tree j _ (by omega) hv
      obtain ⟨b', c', h1', h2', h3', u', h4', h5'⟩ := h.tree j' _ (by omega) hv'
      have hbb := ho.2 j j' _ _ hj hv hv'
      rw [h1, h1'] at hbb
      simp only at hbb
      rw [wd_step h hv h1 h2 h4, wd_step h hv' h1' h2' h4']
      have := ih b' h2' b u' (by omega) h4'
      simp only [List.length_append, List.length_cons, List.length_nil]; omega

/-- each word's pair is found by a way that is no longer -/
theorem wd_short (ha : V L Sa Na Aa) (hb : V L Sb Nb Ab) : ∀ (n : Nat) (w : List Nat), w.length = n → Wd L w → ∃ k u, (walkL L Sa Na Sb Nb)[k]? = some u ∧ u.1 = runP Na Nb (Sa, Sb) w ∧ (wd (walkL L Sa Na Sb Nb) k).length ≤ w.length := by
  obtain ⟨hI, _⟩ := walkL_facts ha hb
  obtain ⟨⟨i0, ho⟩, hN⟩ := walkL_near ha hb
  intro n
  induction n with
  | zero =>
    intro w hw _
    have : w = [] := List.length_eq_zero_iff.1 hw
    subst this
    exact ⟨0, _, hI.h0, rfl, by rw [wd_zero hI]; simp⟩
  | succ n ih =>
    intro w hw hWd
    obtain ⟨u, c, rfl⟩ : ∃ u c, w = u ++ [c] := ⟨w.dropLast, w.getLast (by rintro rfl; simp at hw), (List.dropLast_concat_getLast _).symm⟩
    obtain ⟨k, x, h1, h2, h3⟩ := ih u (by simpa using hw) (fun y hy => hWd y (by simp [hy]))
    obtain ⟨k', x', h4, h5, h6⟩ := hN k x (List.getElem?_eq_some_iff.1 h1).1 h1 c (hWd c (by simp))
    refine ⟨k', x', h4, by rw [h5, h2, runP_snoc], ?_⟩
    by_cases h0 : k' = 0
    · subst h0; rw [wd_zero hI]; simp
    · obtain ⟨b, c', e1, e2, e3, y, e4, e5⟩ := hI.tree k' x' (by omega) h4
      rw [e1] at h6
      simp only at h6
      rw [wd_step hI h4 e1 e2 e4]
      have := wd_mono hI ho k b x (by omega) h1
      simp only [List.length_append, List.length_cons, List.length_nil]; omega

/-- no shorter word tells apart -/
theorem diffW_short (ha : V L Sa Na Aa) (hb : V L Sb Nb Ab) {w : List Nat} (h : diffW L Sa Na Aa Sb Nb Ab = some w) {u : List Nat} (hu : Wd L u) (hl : u.length < w.length) : acc Aa (run Na Sa u) = acc Ab (run Nb Sb u) := by
  obtain ⟨hI, _⟩ := walkL_facts ha hb
  obtain ⟨⟨i0, ho⟩, _⟩ := walkL_near ha hb
  unfold diffW at h
  simp only [Option.map_eq_some_iff] at h
  obtain ⟨i, hi, rfl⟩ := h
  obtain ⟨j, v, h1, h2, h3, h4⟩ := firstD_some hi
  have hij : i = j := by omega
  subst hij
  obtain ⟨k, x, g1, g2, g3⟩ := wd_short ha hb u.length u rfl hu
  have hki : k < i := by
    refine Nat.lt_of_not_le fun hle => ?_
    have := wd_mono hI ho k i x hle g1
    omega
  have := h4 k x hki g1
  unfold dif at this
  rw [g2, runP_pair] at this
  simpa using this
end
end Go.Proofs.C07.M
