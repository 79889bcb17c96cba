/- Minimal, Same: the laws. -/
import Derived.Test.YtmbloefhgkhoaaaM07k
set_option linter.unusedVariables false
set_option linter.unusedSimpArgs false
namespace Go.Proofs.C07.M
open Go Go.Proofs.R
set_option linter.unusedVariables false
set_option linter.unusedSimpArgs false
set_option maxRecDepth 100000

def goodW (L : Int) (w : List Int) : Bool := w.all fun c => decide (0 ≤ c) && decide (c < L)
theorem runI_neg {L : Int} {N : LLI} : ∀ (w : List Int) {s : Int}, s < 0 → runI L N s w < 0
  | [], s, h => h
  | c :: w, s, h => runI_neg w (by unfold stepI; rw [if_pos (.inl h)]; omega)
theorem acc_lang {L : Int} {N : LLI} {A : LB} : ∀ (w : List Int) (s : Int), acc A (runI L N s w) = (goodW L w && lang L N A s (w.map Int.toNat))
  | [], s => rfl
  | c :: w, s => by
    show acc A (runI L N (stepI L N s c) w) = _
    unfold goodW stepI
    by_cases h1 : c < 0 ∨ c ≥ L
    · rw [if_pos (.inr h1), acc_neg (runI_neg w (by omega))]
      have : (decide (0 ≤ c) && decide (c < L)) = false := by
        rcases h1 with h1 | h1
        · simp; omega
        · simp; omega
      simp only [List.all_cons, this, Bool.false_and]
    · have hc : ((c.toNat : Nat) : Int) < L := by omega
      have hg : (decide (0 ≤ c) && decide (c < L)) = true := by simp; omega
      simp only [List.all_cons, hg, Bool.true_and, List.map_cons]
      by_cases h0 : s < 0
      · rw [if_pos (.inl h0), acc_neg (runI_neg w (by omega)), lang_neg h0]; simp [emp]
      · rw [if_neg (by omega), acc_lang w]
        have := congrFun (lang_der (N := N) (A := A) (s := s) hc) (w.map Int.toNat)
        rw [← this]; rfl

section
variable {L S : Int} {N : LLI} {A : LB}
theorem V.lin (h : V L S N A) : Lin L N A (lang L N A S) := lin_lang h.s

theorem minimalF (L S : Int) (N : LLI) (A : LB) : automaton_Minimal.f L S N A = some (bif ok L S N A then (L, (canS (lang L N A S), (canN L (lang L N A S), (canA L (lang L N A S), (0, ()))))) else (0, (0, ([], ([], (1, ())))))) := by
  rw [automaton_Minimal.f_eq, valid_f, bindD_some]
  cases hok : ok L S N A with
  | false => rfl
  | true =>
    have h := V_of hok
    rw [ifB_not _ _ (by rfl), minimal_f h.w h.s]; rfl
theorem rminimalF (L S : Int) (N : LLI) (A : LB) : ancepsref06_Minimal.f L S N A = some (bif ok L S N A then (L, (canS (lang L N A S), (canN L (lang L N A S), (canA L (lang L N A S), (0, ()))))) else (0, (0, ([], ([], (1, ())))))) := by
  rw [ancepsref06_Minimal.f_eq, ref_valid_f, bindD_some]
  cases hok : ok L S N A with
  | false => rfl
  | true =>
    have h := V_of hok
    rw [ifB_not _ _ (by rfl), rminimal_f h.w h.s]; rfl

theorem V.ok (h : V L S N A) (h0 : N = [] ∨ 0 ≤ S) : ok L S N A = true := by
  unfold Go.Proofs.C07.M.ok headOk
  have h1 := h.l1; have h2 := h.l8; have h3 := h.n; have h4 := h.a; have h5 := h.s
  simp only [Bool.and_eq_true, Bool.not_eq_true', decide_eq_false_iff_not, beq_iff_eq, List.all_eq_true]
  refine ⟨⟨⟨⟨⟨by omega, by omega⟩, by omega⟩, by omega⟩, ?_⟩, ?_⟩
  · by_cases hs : S < 0
    · rw [decide_eq_true hs, cond_true]
      have e : S = -1 := by omega
      subst e
      rcases h0 with h0 | h0
      · subst h0; rfl
      · omega
    · rw [decide_eq_false hs, cond_false]; simp; omega
  · intro r hr
    unfold rowOk
    obtain ⟨q1, q2⟩ := h.row r hr
    simp only [Bool.and_eq_true, beq_iff_eq, Bool.not_eq_true', List.any_eq_false]
    refine ⟨q1, fun t ht => ?_⟩
    have := q2 t ht
    unfold badT
    simp; omega
theorem can_ok (h : W L N A) {l : Lang} (hl : Lin L N A l) (hn : (canN L l).length ≤ 400) : ok L (canS l) (canN L l) (canA L l) = true := by
  refine (can_V h hl hn).ok ?_
  unfold canN canS
  by_cases e : l = emp
  · rw [if_pos e]; exact .inl rfl
  · rw [if_neg e, if_neg e]; exact .inr (Int.le_refl _)
theorem can_rows (h : W L N A) {l : Lang} (hl : Lin L N A l) : (∀ r ∈ canN L l, r.length < 4611686018427387904) ∧ (canN L l).length < 4611686018427387904 ∧ (canA L l).length < 4611686018427387904 := by
  have hw := can_W h hl
  have := hw.n; have := hw.a; have := hw.l8
  exact ⟨fun r hr => by have := (hw.row r hr).1; omega, by omega, by omega⟩
theorem sameC (h : W L N A) {l : Lang} (hl : Lin L N A l) : ancepsref06_SameDFA.f L (canS l) (canN L l) (canA L l) L (canS l) (canN L l) (canA L l) = some (true, ()) := by
  obtain ⟨h1, h2, h3⟩ := can_rows h hl
  rw [same_f _ _ _ _ _ _ _ _ h1 h2 h3]; simp
theorem same00 : ancepsref06_SameDFA.f 0 0 [] [] 0 0 [] [] = some (true, ()) := by
  rw [same_f _ _ _ _ _ _ _ _ (by simp) (by simp) (by simp)]; simp
theorem accepts_lang (h : ok L S N A = true) (w : List Int) : accepts L S N A w = (goodW L w && lang L N A S (w.map Int.toNat)) := by
  unfold accepts; rw [h, acc_lang]; rfl

end

/-! ### two automata -/
section
variable {L Sa Sb : Int} {Na Nb : LLI} {Aa Ab : LB}
/-- no word tells apart exactly if the languages are the same -/
theorem diff_none_iff (ha : V L Sa Na Aa) (hb : V L Sb Nb Ab) : diffW L Sa Na Aa Sb Nb Ab = none ↔ lang L Na Aa Sa = lang L Nb Ab Sb := by
  constructor
  · intro h
    funext w
    unfold lang
    cases hw : wdB L w with
    | false => rfl
    | true => rw [diffW_none ha hb h (wdB_iff.1 hw)]
  · intro e
    cases h : diffW L Sa Na Aa Sb Nb Ab with
    | none => rfl
    | some w =>
      obtain ⟨h1, h2, h3⟩ := diffW_some ha hb h
      rw [← lang_wd h1, ← lang_wd h1, e] at h3
      cases hx : lang L Nb Ab Sb w <;> rw [hx] at h3 <;> cases h3
theorem can_eq_iff {N N' : LLI} {A A' : LB} (h : W L N A) (h' : W L N' A') {l l' : Lang} (hl : Lin L N A l) (hl' : Lin L N' A' l') :
    (L = L ∧ canS l = canS l' ∧ canN L l = canN L l' ∧ canA L l = canA L l') ↔ l = l' := by
  constructor
  · rintro ⟨_, h1, h2, h3⟩
    rw [← can_lang h hl, ← can_lang h' hl', h1, h2, h3]
  · rintro rfl; exact ⟨rfl, rfl, rfl, rfl⟩
theorem mul_small {a b : Nat} (ha : a ≤ 410) (hb : b ≤ 410) : a * b ≤ 168100 := Nat.mul_le_mul ha hb
end
end Go.Proofs.C07.M
