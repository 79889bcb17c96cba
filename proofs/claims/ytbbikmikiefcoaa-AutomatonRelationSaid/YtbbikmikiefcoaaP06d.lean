/- Plain words for the chapter of automata: the first word that tells two automata apart. -/
import Derived.Test.YtbbikmikiefcoaaP06c
set_option linter.unusedVariables false
set_option linter.unusedSimpArgs false
namespace Go.Proofs.C06
open Go Go.Proofs.R
set_option linter.unusedVariables false
set_option linter.unusedSimpArgs false
set_option maxRecDepth 100000

def run (N : LLI) (s : Int) (u : List Nat) : Int := u.foldl (stp N) s

section
variable {L Sa Sb : Int} {Na Nb : LLI} {Aa Ab : LB} {p0 : Pr}

theorem runP_pair (p : Pr) (w : List Nat) : runP Na Nb p w = (run Na p.1 w, run Nb p.2 w) := by
  induction w generalizing p with
  | nil => rfl
  | cons c w ih => exact ih (nx Na Nb p c)

/-! ### the way to a pair -/
def way (l : List Vis) : Nat → Nat → List Nat
  | 0, _ => []
  | f + 1, j => match l[j]? with
    | some v => if v.2.1 < 0 then [] else way l f v.2.1.toNat ++ [v.2.2.toNat]
    | none => []
def wd (l : List Vis) (j : Nat) : List Nat := way l (j + 1) j

theorem way_fuel {g : Pr → Bool} {l : List Vis} (h : Inv g L Na Nb p0 l) : ∀ (j : Nat) (v : Vis), l[j]? = some v → ∀ f, j < f → way l f j = wd l j := by
  intro j
  induction j using Nat.strongRecOn with
  | ind j ih =>
    intro v hv f hf
    cases f with
    | zero => omega
    | succ f =>
      unfold wd
      simp only [way, hv]
      split
      · rfl
      · rename_i hn
        by_cases h0 : j = 0
        · subst h0
          rw [h.h0] at hv; cases hv
          exact absurd (by decide : (-1 : Int) < 0) hn
        · obtain ⟨b, c, h1, h2, h3, u, h4, h5⟩ := h.tree j v (by omega) hv
          rw [h1]; simp only [Int.toNat_natCast]
          rw [ih b h2 u h4 f (by omega), ih b h2 u h4 j h2]

theorem wd_zero {g : Pr → Bool} {l : List Vis} (h : Inv g L Na Nb p0 l) : wd l 0 = [] := by
  unfold wd way; rw [h.h0]; rfl
theorem wd_step {g : Pr → Bool} {l : List Vis} (h : Inv g L Na Nb p0 l) {j b c : Nat} {v u : Vis} (hv : l[j]? = some v) (h1 : v.2 = ((b : Int), (c : Int))) (hb : b < j) (hu : l[b]? = some u) : wd l j = wd l b ++ [c] := by
  conv => lhs; unfold wd way
  rw [hv]; simp only [h1]
  rw [if_neg (by omega), Int.toNat_natCast, Int.toNat_natCast, way_fuel h b u hu j hb]

theorem wd_facts {g : Pr → Bool} {l : List Vis} (h : Inv g L Na Nb p0 l) : ∀ (j : Nat) (v : Vis), l[j]? = some v → Wd L (wd l j) ∧ runP Na Nb p0 (wd l j) = v.1 ∧ (wd l j).length ≤ j := by
  intro j
  induction j using Nat.strongRecOn with
  | ind j ih =>
    intro v hv
    by_cases h0 : j = 0
    · subst h0
      rw [h.h0] at hv; cases hv
      rw [wd_zero h]
      exact ⟨by simp [Wd], rfl, by simp⟩
    · obtain ⟨b, c, h1, h2, h3, u, h4, h5⟩ := h.tree j v (by omega) hv
      obtain ⟨w1, w2, w3⟩ := ih b h2 u h4
      rw [wd_step h hv h1 h2 h4]
      exact ⟨w1.snoc h3, by rw [runP_snoc, w2, h5], by simp; omega⟩

/-! ### the first pair that differs -/
def dif (Aa Ab : LB) (p : Pr) : Bool := !(acc Aa p.1 == acc Ab p.2)
theorem dif_f (ha : V L Sa Na Aa) (hb : V L Sb Nb Ab) {v : Vis} (h : inU Na Nb v.1) : automaton_differ_1.f v.1.1 v.1.2 v.2.1 v.2.2 L Sa Na Aa L Sb Nb Ab = some (dif Aa Ab v.1, ()) := by
  rw [automaton_differ_1.f_eq, ends_f (by rw [ha.a]; exact h.1.2), bindD_some, ends_f (by rw [hb.a]; exact h.2.2), bindD_some]; rfl
theorem accepting_f {S : Int} {N : LLI} {A : LB} {s : Int} (hs : s < A.length) : ancepsref06_accepting.f L S N A s = some (acc A s, ()) := by
  rw [ancepsref06_accepting.f_eq]; unfold acc
  by_cases h0 : 0 ≤ s
  · have hlt : s.toNat < A.length := by omega
    rw [ifB_of _ _ (decide_eq_true h0), ixAt_int A h0, if_pos h0, List.getElem?_eq_getElem hlt]; rfl
  · rw [ifB_not _ _ (decide_eq_false h0), if_neg h0]

/-- the first place, from one on -/
def firstD (Aa Ab : LB) : List Vis → Nat → Option Nat
  | [], _ => none
  | v :: r, k => bif dif Aa Ab v.1 then some k else firstD Aa Ab r (k + 1)
theorem firstD_some : ∀ {l : List Vis} {k i : Nat}, firstD Aa Ab l k = some i → ∃ j v, i = k + j ∧ l[j]? = some v ∧ dif Aa Ab v.1 = true ∧ ∀ j' v', j' < j → l[j']? = some v' → dif Aa Ab v'.1 = false
  | [], k, i, h => by cases h
  | v :: r, k, i, h => by
    unfold firstD at h
    cases hd : dif Aa Ab v.1 with
    | true =>
      rw [hd] at h; simp only [cond_true, Option.some.injEq] at h
      exact ⟨0, v, by omega, rfl, hd, fun j' v' hj => by omega⟩
    | false =>
      rw [hd] at h; simp only [cond_false] at h
      obtain ⟨j, u, h1, h2, h3, h4⟩ := firstD_some h
      refine ⟨j + 1, u, by omega, by simpa using h2, h3, ?_⟩
      intro j' v' hj hv'
      cases j' with
      | zero => simp at hv'; subst hv'; exact hd
      | succ j' => exact h4 j' v' (by omega) (by simpa using hv')
theorem firstD_none : ∀ {l : List Vis} {k : Nat}, firstD Aa Ab l k = none → ∀ v ∈ l, dif Aa Ab v.1 = false
  | [], _, _, v, hv => by cases hv
  | u :: r, k, h, v, hv => by
    unfold firstD at h
    cases hd : dif Aa Ab u.1 with
    | true => rw [hd] at h; cases h
    | false =>
      rw [hd] at h; simp only [cond_false] at h
      rcases List.mem_cons.1 hv with rfl | hv
      · exact hd
      · exact firstD_none h v hv

def numD : Option Nat → Int
  | some i => (i : Int)
  | none => -1
theorem visit_l2 (ha : V L Sa Na Aa) (hb : V L Sb Nb Ab) : ∀ (suf pre : List Vis), (pre ++ suf).length < 4611686018427387904 → (∀ v ∈ suf, inU Na Nb v.1) →
    automaton_visit.l2 (pre ++ suf) L Sa Na Aa L Sb Nb Ab ((pre ++ suf).length : Nat) (pre.length : Nat) = some (numD (firstD Aa Ab suf pre.length), ())
  | [], pre, h, hU => by rw [automaton_visit.l2_eq, ifB_not _ _ (lt_end pre)]; rfl
  | x :: suf, pre, h, hU => by
    rw [automaton_visit.l2_eq, ifB_of _ _ (lt_at pre x suf), ixAt_at, bindD_some, dif_f ha hb (hU x List.mem_cons_self), bindD_some]
    unfold firstD
    cases hd : dif Aa Ab x.1 with
    | true => rfl
    | false =>
      have := visit_l2 ha hb suf (pre ++ [x]) (by rw [← app_at]; exact h) (fun v hv => hU v (List.mem_cons_of_mem _ hv))
      rw [← app_at] at this
      rw [ifB_false, w_at h, this]; simp
theorem differ_f (ha : V L Sa Na Aa) (hb : V L Sb Nb Ab) (l : List Vis) (hl : l.length ≤ 160801) (hU : ∀ v ∈ l, inU Na Nb v.1) : automaton_differ.f L Sa Na Aa L Sb Nb Ab l = some (numD (firstD Aa Ab l 0), ()) := by
  have := visit_l2 ha hb l [] (by simp; omega) hU
  simp only [List.nil_append, List.length_nil] at this
  rw [show ((0 : Nat) : Int) = 0 from rfl] at this
  rw [automaton_differ.f_eq, automaton_visit.f_eq, this, bindD_some]

def errP (L S : Int) (N : LLI) (A : LB) (L' S' : Int) (N' : LLI) (A' : LB) : Bool := ok L S N A && (ok L' S' N' A' && (L == L'))
theorem both_f (L S : Int) (N : LLI) (A : LB) (L' S' : Int) (N' : LLI) (A' : LB) : automaton_both.f L S N A L' S' N' A' = some (errN (errP L S N A L' S' N' A'), ()) := by
  rw [automaton_both.f_eq, valid_f, valid_f]
  unfold errP
  simp only [bindD_some]
  cases ok L S N A with
  | false => rfl
  | true => cases ok L' S' N' A' with
    | false => rfl
    | true =>
      by_cases h : L = L'
      · subst h; simp [errN, ifB]
      · simp [errN, ifB, beq_eq_false_iff_ne.2 h, bne_iff_ne.2 h]
theorem rboth_f (L S : Int) (N : LLI) (A : LB) (L' S' : Int) (N' : LLI) (A' : LB) : ancepsref06_both.f L S N A L' S' N' A' = some (errN (errP L S N A L' S' N' A'), ()) := by
  rw [ancepsref06_both.f_eq, ref_valid_f, ref_valid_f]
  unfold errP
  simp only [bindD_some]
  cases ok L S N A with
  | false => rfl
  | true => cases ok L' S' N' A' with
    | false => rfl
    | true =>
      by_cases h : L = L'
      · subst h; simp [errN, ifB]
      · simp [errN, ifB, beq_eq_false_iff_ne.2 h, bne_iff_ne.2 h]
theorem errP_V {L S : Int} {N : LLI} {A : LB} {L' S' : Int} {N' : LLI} {A' : LB} (h : errP L S N A L' S' N' A' = true) : ok L S N A = true ∧ ok L' S' N' A' = true ∧ V L S N A ∧ V L' S' N' A' ∧ L = L' := by
  unfold errP at h
  simp only [Bool.and_eq_true, beq_iff_eq] at h
  exact ⟨h.1, h.2.1, V_of h.1, V_of h.2.1, h.2.2⟩

/-- the first word that tells apart -/
def diffW (L Sa : Int) (Na : LLI) (Aa : LB) (Sb : Int) (Nb : LLI) (Ab : LB) : Option (List Nat) := (firstD Aa Ab (walkL L Sa Na Sb Nb) 0).map (wd (walkL L Sa Na Sb Nb))
/-- what is told of the word -/
theorem diffW_some (ha : V L Sa Na Aa) (hb : V L Sb Nb Ab) {w : List Nat} (h : diffW L Sa Na Aa Sb Nb Ab = some w) : Wd L w ∧ w.length ≤ 160801 ∧ acc Aa (run Na Sa w) = !(acc Ab (run Nb Sb w)) := by
  obtain ⟨hI, hD⟩ := walkL_facts ha hb
  have hlen := inv_len ha hb hI
  unfold diffW at h
  simp only [Option.map_eq_some_iff] at h
  obtain ⟨i, hi, rfl⟩ := h
  obtain ⟨j, v, h1, h2, h3, _⟩ := firstD_some hi
  have hij : i = j := by omega
  subst hij
  obtain ⟨w1, w2, w3⟩ := wd_facts hI i v h2
  have hlt : i < (walkL L Sa Na Sb Nb).length := (List.getElem?_eq_some_iff.1 h2).1
  refine ⟨w1, by omega, ?_⟩
  rw [runP_pair] at w2
  have e1 : v.1.1 = run Na Sa (wd (walkL L Sa Na Sb Nb) i) := by rw [← w2]
  have e2 : v.1.2 = run Nb Sb (wd (walkL L Sa Na Sb Nb) i) := by rw [← w2]
  unfold dif at h3
  rw [e1, e2] at h3
  generalize acc Aa (run Na Sa (wd (walkL L Sa Na Sb Nb) i)) = x at h3 ⊢
  generalize acc Ab (run Nb Sb (wd (walkL L Sa Na Sb Nb) i)) = y at h3 ⊢
  cases x <;> cases y <;> first | rfl | cases h3
theorem diffW_none (ha : V L Sa Na Aa) (hb : V L Sb Nb Ab) (h : diffW L Sa Na Aa Sb Nb Ab = none) {w : List Nat} (hw : Wd L w) : acc Aa (run Na Sa w) = acc Ab (run Nb Sb w) := by
  obtain ⟨hI, hD⟩ := walkL_facts ha hb
  unfold diffW at h
  simp only [Option.map_eq_none_iff] at h
  have := (found_iff hI hD (fun p c hp => by cases hp) (runP Na Nb (Sa, Sb) w)).2 ⟨rfl, w, hw, rfl⟩
  have := has_iff.1 this
  simp only [List.mem_map] at this
  obtain ⟨v, hv, e⟩ := this
  have hd := firstD_none h v hv
  rw [e, runP_pair] at hd
  unfold dif at hd
  simpa using hd
end
end Go.Proofs.C06
