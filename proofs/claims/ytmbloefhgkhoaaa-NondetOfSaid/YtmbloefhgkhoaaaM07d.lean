/- Plain words for the chapter of automata: the first word that tells two automata apart. -/
import Derived.Test.YtmbloefhgkhoaaaM07c
set_option linter.unusedVariables false
set_option linter.unusedSimpArgs false
namespace Go.Proofs.C07.M
open Go Go.Proofs.R
set_option linter.unusedVariables false
set_option linter.unusedSimpArgs false
set_option maxRecDepth 100000

def toI (c : Nat) : Int := c
def run (N : LLI) (s : Int) (u : List Nat) : Int := u.foldl (stp N) s

section
variable {L Sa Sb : Int} {Na Nb : LLI} {Aa Ab : LB} {p0 : Pr}

theorem runP_pair (p : Pr) (w : List Nat) : runP Na Nb p w = (run Na p.1 w, run Nb p.2 w) := by
  induction w generalizing p with
  | nil => rfl
  | cons c w ih => exact ih (nx Na Nb p c)

/-- words of letters, as numbers -/
theorem runI_run {S : Int} {N : LLI} {A : LB} (h : V L S N A) : ∀ (w : List Nat) (s : Int), Wd L w → runI L N s (w.map toI) = run N s w
  | [], s, _ => rfl
  | c :: w, s, hw => by
    have hc : (c : Int) < L := hw c List.mem_cons_self
    have h1 : stepI L N s (toI c) = stp N s c := by
      unfold stepI toI
      by_cases h0 : s < 0
      · rw [if_pos (.inl h0), stp_neg h0]
      · rw [if_neg (by omega)]; simp
    show runI L N (stepI L N s (toI c)) (w.map toI) = run N (stp N s c) w
    rw [h1]
    exact runI_run h w _ (fun x hx => hw x (List.mem_cons_of_mem _ hx))

/-! ### the way to a pair -/
def way (l : List Vis) : Nat → Nat → List Nat
  | 0, _ => []
  | f + 1, j => match l[j]? with
    | some v => if v.2.1 < 0 then [] else way l f v.2.1.toNat ++ [v.2.2.toNat]
    | none => []
def wd (l : List Vis) (j : Nat) : List Nat := way l (j + 1) j

theorem way_fuel {g : Pr → Bool} {l : List Vis} (h : Inv g L Na Nb p0 l) : ∀ (j : Nat) (v : Vis), l[j]? = some v → ∀ f, j < f → way l f j = wd l j := by
  intro j
  induction j using Nat.strongRecOn with
  | ind j ih =>
    intro v hv f hf
    cases f with
    | zero => omega
    | succ f =>
      unfold wd
      simp only [way, hv]
      split
      · rfl
      · rename_i hn
        by_cases h0 : j = 0
        · subst h0
          rw [h.h0] at hv; cases hv
          exact absurd (by decide : (-1 : Int) < 0) hn
        · obtain ⟨b, c, h1, h2, h3, u, h4, h5⟩ := h.tree j v (by omega) hv
          rw [h1]; simp only [Int.toNat_natCast]
          rw [ih b h2 u h4 f (by omega), ih b h2 u h4 j h2]

theorem wd_zero {g : Pr → Bool} {l : List Vis} (h : Inv g L Na Nb p0 l) : wd l 0 = [] := by
  unfold wd way; rw [h.h0]; rfl
theorem wd_step {g : Pr → Bool} {l : List Vis} (h : Inv g L Na Nb p0 l) {j b c : Nat} {v u : Vis} (hv : l[j]? = some v) (h1 : v.2 = ((b : Int), (c : Int))) (hb : b < j) (hu : l[b]? = some u) : wd l j = wd l b ++ [c] := by
  conv => lhs; unfold wd way
  rw [hv]; simp only [h1]
  rw [if_neg (by omega), Int.toNat_natCast, Int.toNat_natCast, way_fuel h b u hu j hb]

theorem wd_facts {g : Pr → Bool} {l : List Vis} (h : Inv g L Na Nb p0 l) : ∀ (j : Nat) (v : Vis), l[j]? = some v → Wd L (wd l j) ∧ runP Na Nb p0 (wd l j) = v.1 ∧ (wd l j).length ≤ j := by
  intro j
  induction j using Nat.strongRecOn with
  | ind j ih =>
    intro v hv
    by_cases h0 : j = 0
    · subst h0
      rw [h.h0] at hv; cases hv
      rw [wd_zero h]
      exact ⟨by simp [Wd], rfl, by simp⟩
    · obtain ⟨b, c, h1, h2, h3, u, h4, h5⟩ := h.tree j v (by omega) hv
      obtain ⟨w1, w2, w3⟩ := ih b h2 u h4
      rw [wd_step h hv h1 h2 h4]
      exact ⟨w1.snoc h3, by rw [runP_snoc, w2, h5], by simp; omega⟩

/-! ### the first pair that differs -/
def dif (Aa Ab : LB) (p : Pr) : Bool := !(acc Aa p.1 == acc Ab p.2)
/-- the first place, from one on -/
def firstD (Aa Ab : LB) : List Vis → Nat → Option Nat
  | [], _ => none
  | v :: r, k => bif dif Aa Ab v.1 then some k else firstD Aa Ab r (k + 1)
theorem firstD_some : ∀ {l : List Vis} {k i : Nat}, firstD Aa Ab l k = some i → ∃ j v, i = k + j ∧ l[j]? = some v ∧ dif Aa Ab v.1 = true ∧ ∀ j' v', j' < j → l[j']? = some v' → dif Aa Ab v'.1 = false
  | [], k, i, h => by cases h
  | v :: r, k, i, h => by
    unfold firstD at h
    cases hd : dif Aa Ab v.1 with
    | true =>
      rw [hd] at h; simp only [cond_true, Option.some.injEq] at h
      exact ⟨0, v, by omega, rfl, hd, fun j' v' hj => by omega⟩
    | false =>
      rw [hd] at h; simp only [cond_false] at h
      obtain ⟨j, u, h1, h2, h3, h4⟩ := firstD_some h
      refine ⟨j + 1, u, by omega, by simpa using h2, h3, ?_⟩
      intro j' v' hj hv'
      cases j' with
      | zero => simp at hv'; subst hv'; exact hd
      | succ j' => exact h4 j' v' (by omega) (by simpa using hv')
theorem firstD_none : ∀ {l : List Vis} {k : Nat}, firstD Aa Ab l k = none → ∀ v ∈ l, dif Aa Ab v.1 = false
  | [], _, _, v, hv => by cases hv
  | u :: r, k, h, v, hv => by
    unfold firstD at h
    cases hd : dif Aa Ab u.1 with
    | true => rw [hd] at h; cases h
    | false =>
      rw [hd] at h; simp only [cond_false] at h
      rcases List.mem_cons.1 hv with rfl | hv
      · exact hd
      · exact firstD_none h v hv

def numD : Option Nat → Int
  | some i => (i : Int)
  | none => -1
def errP (L S : Int) (N : LLI) (A : LB) (L' S' : Int) (N' : LLI) (A' : LB) : Bool := ok L S N A && (ok L' S' N' A' && (L == L'))
theorem errP_V {L S : Int} {N : LLI} {A : LB} {L' S' : Int} {N' : LLI} {A' : LB} (h : errP L S N A L' S' N' A' = true) : ok L S N A = true ∧ ok L' S' N' A' = true ∧ V L S N A ∧ V L' S' N' A' ∧ L = L' := by
  unfold errP at h
  simp only [Bool.and_eq_true, beq_iff_eq] at h
  exact ⟨h.1, h.2.1, V_of h.1, V_of h.2.1, h.2.2⟩

/-- the first word that tells apart -/
def diffW (L Sa : Int) (Na : LLI) (Aa : LB) (Sb : Int) (Nb : LLI) (Ab : LB) : Option (List Nat) := (firstD Aa Ab (walkL L Sa Na Sb Nb) 0).map (wd (walkL L Sa Na Sb Nb))
def diffR : Option (List Nat) → List Int × (Int × Unit)
  | some w => (w.map toI, (0, ()))
  | none => ([], (10, ()))
/-- what is told of the word -/
theorem diffW_some (ha : V L Sa Na Aa) (hb : V L Sb Nb Ab) {w : List Nat} (h : diffW L Sa Na Aa Sb Nb Ab = some w) : Wd L w ∧ w.length ≤ 160801 ∧ acc Aa (run Na Sa w) = !(acc Ab (run Nb Sb w)) := by
  obtain ⟨hI, hD⟩ := walkL_facts ha hb
  have hlen := inv_len ha hb hI
  unfold diffW at h
  simp only [Option.map_eq_some_iff] at h
  obtain ⟨i, hi, rfl⟩ := h
  obtain ⟨j, v, h1, h2, h3, _⟩ := firstD_some hi
  have hij : i = j := by omega
  subst hij
  obtain ⟨w1, w2, w3⟩ := wd_facts hI i v h2
  have hlt : i < (walkL L Sa Na Sb Nb).length := (List.getElem?_eq_some_iff.1 h2).1
  refine ⟨w1, by omega, ?_⟩
  rw [runP_pair] at w2
  have e1 : v.1.1 = run Na Sa (wd (walkL L Sa Na Sb Nb) i) := by rw [← w2]
  have e2 : v.1.2 = run Nb Sb (wd (walkL L Sa Na Sb Nb) i) := by rw [← w2]
  unfold dif at h3
  rw [e1, e2] at h3
  generalize acc Aa (run Na Sa (wd (walkL L Sa Na Sb Nb) i)) = x at h3 ⊢
  generalize acc Ab (run Nb Sb (wd (walkL L Sa Na Sb Nb) i)) = y at h3 ⊢
  cases x <;> cases y <;> first | rfl | cases h3
theorem diffW_none (ha : V L Sa Na Aa) (hb : V L Sb Nb Ab) (h : diffW L Sa Na Aa Sb Nb Ab = none) {w : List Nat} (hw : Wd L w) : acc Aa (run Na Sa w) = acc Ab (run Nb Sb w) := by
  obtain ⟨hI, hD⟩ := walkL_facts ha hb
  unfold diffW at h
  simp only [Option.map_eq_none_iff] at h
  have := (found_iff hI hD (fun p c hp => by cases hp) (runP Na Nb (Sa, Sb) w)).2 ⟨rfl, w, hw, rfl⟩
  have := has_iff.1 this
  simp only [List.mem_map] at this
  obtain ⟨v, hv, e⟩ := this
  have hd := firstD_none h v hv
  rw [e, runP_pair] at hd
  unfold dif at hd
  simpa using hd
end
end Go.Proofs.C07.M
