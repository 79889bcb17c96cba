/- Minimal, Same: the laws. -/
import Derived.Test.YtbbikmikiefcoaaP06k
set_option linter.unusedVariables false
set_option linter.unusedSimpArgs false
namespace Go.Proofs.C06
open Go Go.Proofs.R
set_option linter.unusedVariables false
set_option linter.unusedSimpArgs false
set_option maxRecDepth 100000

def goodW (L : Int) (w : List Int) : Bool := w.all fun c => decide (0 ≤ c) && decide (c < L)
theorem runI_neg {L : Int} {N : LLI} : ∀ (w : List Int) {s : Int}, s < 0 → runI L N s w < 0
  | [], s, h => h
  | c :: w, s, h => runI_neg w (by unfold stepI; rw [if_pos (.inl h)]; omega)
theorem acc_lang {L : Int} {N : LLI} {A : LB} : ∀ (w : List Int) (s : Int), acc A (runI L N s w) = (goodW L w && lang L N A s (w.map Int.toNat))
  | [], s => rfl
  | c :: w, s => by
    show acc A (runI L N (stepI L N s c) w) = _
    unfold goodW stepI
    by_cases h1 : c < 0 ∨ c ≥ L
    · rw [if_pos (.inr h1), acc_neg (runI_neg w (by omega))]
      have : (decide (0 ≤ c) && decide (c < L)) = false := by
        rcases h1 with h1 | h1
        · simp; omega
        · simp; omega
      simp only [List.all_cons, this, Bool.false_and]
    · have hc : ((c.toNat : Nat) : Int) < L := by omega
      have hg : (decide (0 ≤ c) && decide (c < L)) = true := by simp; omega
      simp only [List.all_cons, hg, Bool.true_and, List.map_cons]
      by_cases h0 : s < 0
      · rw [if_pos (.inl h0), acc_neg (runI_neg w (by omega)), lang_neg h0]; simp [emp]
      · rw [if_neg (by omega), acc_lang w]
        have := congrFun (lang_der (N := N) (A := A) (s := s) hc) (w.map Int.toNat)
        rw [← this]; rfl

section
variable {L S : Int} {N : LLI} {A : LB}
theorem V.lin (h : V L S N A) : Lin L N A (lang L N A S) := lin_lang h.s

theorem minimalF (L S : Int) (N : LLI) (A : LB) : automaton_Minimal.f L S N A = some (bif ok L S N A then (L, (canS (lang L N A S), (canN L (lang L N A S), (canA L (lang L N A S), (0, ()))))) else (0, (0, ([], ([], (1, ())))))) := by
  rw [automaton_Minimal.f_eq, valid_f, bindD_some]
  cases hok : ok L S N A with
  | false => rfl
  | true =>
    have h := V_of hok
    rw [ifB_not _ _ (by rfl), minimal_f h.w h.s]; rfl
theorem rminimalF (L S : Int) (N : LLI) (A : LB) : ancepsref06_Minimal.f L S N A = some (bif ok L S N A then (L, (canS (lang L N A S), (canN L (lang L N A S), (canA L (lang L N A S), (0, ()))))) else (0, (0, ([], ([], (1, ())))))) := by
  rw [ancepsref06_Minimal.f_eq, ref_valid_f, bindD_some]
  cases hok : ok L S N A with
  | false => rfl
  | true =>
    have h := V_of hok
    rw [ifB_not _ _ (by rfl), rminimal_f h.w h.s]; rfl

theorem V.ok (h : V L S N A) (h0 : N = [] ∨ 0 ≤ S) : ok L S N A = true := by
  unfold Go.Proofs.C06.ok headOk
  have h1 := h.l1; have h2 := h.l8; have h3 := h.n; have h4 := h.a; have h5 := h.s
  simp only [Bool.and_eq_true, Bool.not_eq_true', decide_eq_false_iff_not, beq_iff_eq, List.all_eq_true]
  refine ⟨⟨⟨⟨⟨by omega, by omega⟩, by omega⟩, by omega⟩, ?_⟩, ?_⟩
  · by_cases hs : S < 0
    · rw [decide_eq_true hs, cond_true]
      have e : S = -1 := by omega
      subst e
      rcases h0 with h0 | h0
      · subst h0; rfl
      · omega
    · rw [decide_eq_false hs, cond_false]; simp; omega
  · intro r hr
    unfold rowOk
    obtain ⟨q1, q2⟩ := h.row r hr
    simp only [Bool.and_eq_true, beq_iff_eq, Bool.not_eq_true', List.any_eq_false]
    refine ⟨q1, fun t ht => ?_⟩
    have := q2 t ht
    unfold badT
    simp; omega
theorem can_ok (h : W L N A) {l : Lang} (hl : Lin L N A l) (hn : (canN L l).length ≤ 400) : ok L (canS l) (canN L l) (canA L l) = true := by
  refine (can_V h hl hn).ok ?_
  unfold canN canS
  by_cases e : l = emp
  · rw [if_pos e]; exact .inl rfl
  · rw [if_neg e, if_neg e]; exact .inr (Int.le_refl _)
theorem can_rows (h : W L N A) {l : Lang} (hl : Lin L N A l) : (∀ r ∈ canN L l, r.length < 4611686018427387904) ∧ (canN L l).length < 4611686018427387904 ∧ (canA L l).length < 4611686018427387904 := by
  have hw := can_W h hl
  have := hw.n; have := hw.a; have := hw.l8
  exact ⟨fun r hr => by have := (hw.row r hr).1; omega, by omega, by omega⟩
theorem sameC (h : W L N A) {l : Lang} (hl : Lin L N A l) : ancepsref06_SameDFA.f L (canS l) (canN L l) (canA L l) L (canS l) (canN L l) (canA L l) = some (true, ()) := by
  obtain ⟨h1, h2, h3⟩ := can_rows h hl
  rw [same_f _ _ _ _ _ _ _ _ h1 h2 h3]; simp
theorem same00 : ancepsref06_SameDFA.f 0 0 [] [] 0 0 [] [] = some (true, ()) := by
  rw [same_f _ _ _ _ _ _ _ _ (by simp) (by simp) (by simp)]; simp
theorem can_accepts (h : W L N A) {l : Lang} (hl : Lin L N A l) (hn : (canN L l).length ≤ 400) (w : List Int) (hw : w.length < 4611686018427387904) :
    automaton_Accepts.f L (canS l) (canN L l) (canA L l) w = some (goodW L w && l (w.map Int.toNat), ()) := by
  rw [accepts_f _ _ _ _ _ hw]
  unfold accepts
  rw [can_ok h hl hn, acc_lang, can_lang h hl]; rfl
theorem accepts_lang (h : ok L S N A = true) (w : List Int) : accepts L S N A w = (goodW L w && lang L N A S (w.map Int.toNat)) := by
  unfold accepts; rw [h, acc_lang]; rfl

theorem minimal_law (L S : Int) (N : LLI) (A : LB) (w : List Int) (hN : ∀ r ∈ N, r.length ≤ 140737488351232) : ancepslaw06_AutomatonMinimal.f L S N A w = some (true, ()) := by
  obtain ⟨b, hb, hs⟩ := few_f L S N A hN
  rw [ancepslaw06_AutomatonMinimal.f_eq, awake_f, bindD_some, ifB_not _ _ (by rfl), hb, bindD_some]
  cases b with
  | false => rfl
  | true =>
    have hs := hs rfl
    rw [ifB_not _ _ (by rfl)]
    by_cases hw : ((w.length : Nat) : Int) > 100
    · rw [ifB_of _ _ (decide_eq_true hw)]; rfl
    · rw [ifB_not _ _ (decide_eq_false hw), copied_f L S hs]
      simp only [bindD_some]
      rw [minimalF, rminimalF]
      cases hok : ok L S N A with
      | false =>
        simp only [cond_false, bindD_some]
        rw [ifB_not _ _ (by rfl), same00]
        simp only [bindD_some]
        rw [ifB_not _ _ (by rfl), ifB_of _ _ (by rfl), ifB_of _ _ (by rfl)]
      | true =>
        have h := V_of hok
        have hl := h.lin
        have hlen := can_len h.w hl
        have hn := h.n
        simp only [cond_true, bindD_some]
        rw [ifB_not _ _ (by rfl), sameC h.w hl]
        simp only [bindD_some]
        rw [ifB_not _ _ (by rfl), ifB_not _ _ (by rfl), minimalF, can_ok h.w hl (by omega), can_lang h.w hl]
        simp only [cond_true, bindD_some]
        rw [ifB_of _ _ (by rfl), sameC h.w hl]
        simp only [bindD_some]
        rw [ifB_true, valid_f, can_ok h.w hl (by omega)]
        simp only [bindD_some]
        rw [ifB_of _ _ (by rfl), can_accepts h.w hl (by omega) w (by omega), accepts_f _ _ _ _ _ (by omega), accepts_lang hok]
        simp only [bindD_some, beq_self_eq_true]
end

/-! ### two automata -/
section
variable {L Sa Sb : Int} {Na Nb : LLI} {Aa Ab : LB}
/-- no word tells apart exactly if the languages are the same -/
theorem diff_none_iff (ha : V L Sa Na Aa) (hb : V L Sb Nb Ab) : diffW L Sa Na Aa Sb Nb Ab = none ↔ lang L Na Aa Sa = lang L Nb Ab Sb := by
  constructor
  · intro h
    funext w
    unfold lang
    cases hw : wdB L w with
    | false => rfl
    | true => rw [diffW_none ha hb h (wdB_iff.1 hw)]
  · intro e
    cases h : diffW L Sa Na Aa Sb Nb Ab with
    | none => rfl
    | some w =>
      obtain ⟨h1, h2, h3⟩ := diffW_some ha hb h
      rw [← lang_wd h1, ← lang_wd h1, e] at h3
      cases hx : lang L Nb Ab Sb w <;> rw [hx] at h3 <;> cases h3
theorem can_eq_iff {N N' : LLI} {A A' : LB} (h : W L N A) (h' : W L N' A') {l l' : Lang} (hl : Lin L N A l) (hl' : Lin L N' A' l') :
    (L = L ∧ canS l = canS l' ∧ canN L l = canN L l' ∧ canA L l = canA L l') ↔ l = l' := by
  constructor
  · rintro ⟨_, h1, h2, h3⟩
    rw [← can_lang h hl, ← can_lang h' hl', h1, h2, h3]
  · rintro rfl; exact ⟨rfl, rfl, rfl, rfl⟩
open Classical in
theorem sameF (ha : V L Sa Na Aa) (hb : V L Sb Nb Ab) (hok : errP L Sa Na Aa L Sb Nb Ab = true) : automaton_Same.f L Sa Na Aa L Sb Nb Ab = some (decide (lang L Na Aa Sa = lang L Nb Ab Sb), (0, ())) := by
  obtain ⟨hI, hD⟩ := walkL_facts ha hb
  have hlen := inv_len ha hb hI
  have hiff := diff_none_iff ha hb
  rw [automaton_Same.f_eq, both_f, hok, bindD_some, ifB_not _ _ (by rfl), visits_f ha hb, bindD_some, differ_f ha hb _ hlen hI.u, bindD_some]
  unfold diffW at hiff
  cases hf : firstD Aa Ab (walkL L Sa Na Sb Nb) 0 with
  | none =>
    rw [hf] at hiff
    have : lang L Na Aa Sa = lang L Nb Ab Sb := hiff.1 rfl
    rw [decide_eq_true this]; rfl
  | some i =>
    rw [hf] at hiff
    have : ¬ lang L Na Aa Sa = lang L Nb Ab Sb := fun e => by have := hiff.2 e; cases this
    rw [decide_eq_false this]
    unfold numD
    have h0 : ¬ ((i : Nat) : Int) < 0 := by omega
    simp [h0]
open Classical in
theorem rsameF (ha : V L Sa Na Aa) (hb : V L Sb Nb Ab) (hok : errP L Sa Na Aa L Sb Nb Ab = true) : ancepsref06_Same.f L Sa Na Aa L Sb Nb Ab = some (decide (lang L Na Aa Sa = lang L Nb Ab Sb), (0, ())) := by
  obtain ⟨h1, h2, h3⟩ := can_rows ha.w ha.lin
  rw [ancepsref06_Same.f_eq, rboth_f, hok, bindD_some, ifB_not _ _ (by rfl), rminimal_f ha.w ha.s, bindD_some, rminimal_f hb.w hb.s, bindD_some]
  unfold minR
  simp only
  rw [same_f _ _ _ _ _ _ _ _ h1 h2 h3, bindD_some]
  simp only
  congr 2
  exact decide_eq_decide.2 (by simpa using can_eq_iff ha.w hb.w ha.lin hb.lin)

theorem mul_small {a b : Nat} (ha : a ≤ 410) (hb : b ≤ 410) : a * b ≤ 168100 := Nat.mul_le_mul ha hb
theorem small_f (L S : Int) (N : LLI) (A : LB) (L' S' : Int) (N' : LLI) (A' : LB) (hN : ∀ r ∈ N, r.length ≤ 140737488351232) (hN' : ∀ r ∈ N', r.length ≤ 140737488351232) :
    ∃ b, ancepslaw06_small.f L S N A L' S' N' A' = some (b, ()) ∧ (b = true → Small N A ∧ Small N' A') := by
  obtain ⟨b, hb, hs⟩ := few_f L S N A hN
  obtain ⟨b', hb', hs'⟩ := few_f L' S' N' A' hN'
  rw [ancepslaw06_small.f_eq, hb, bindD_some]
  cases b with
  | false => exact ⟨false, rfl, fun h => by cases h⟩
  | true =>
    rw [ifB_true, hb', bindD_some]
    cases b' with
    | false => exact ⟨false, rfl, fun h => by cases h⟩
    | true => exact ⟨_, by rw [ifB_true], fun _ => ⟨hs rfl, hs' rfl⟩⟩

theorem same_law (L S : Int) (N : LLI) (A : LB) (L' S' : Int) (N' : LLI) (A' : LB) (hN : ∀ r ∈ N, r.length ≤ 140737488351232) (hN' : ∀ r ∈ N', r.length ≤ 140737488351232) : ancepslaw06_AutomatonSame.f L S N A L' S' N' A' = some (true, ()) := by
  obtain ⟨b, hb, hs⟩ := small_f L S N A L' S' N' A' hN hN'
  rw [ancepslaw06_AutomatonSame.f_eq, awake_f, bindD_some, ifB_not _ _ (by rfl), hb, bindD_some]
  cases b with
  | false => rfl
  | true =>
    obtain ⟨h1, h2⟩ := hs rfl
    rw [ifB_not _ _ (by rfl), copied_f L S h1]
    simp only [bindD_some]
    rw [copied_f L' S' h2]
    simp only [bindD_some]
    cases hok : errP L S N A L' S' N' A' with
    | false =>
      have e1 : automaton_Same.f L S N A L' S' N' A' = some (false, (1, ())) := by rw [automaton_Same.f_eq, both_f, hok]; rfl
      have e2 : ancepsref06_Same.f L S N A L' S' N' A' = some (false, (1, ())) := by rw [ancepsref06_Same.f_eq, rboth_f, hok]; rfl
      have e3 : automaton_Difference.f L S N A L' S' N' A' = some ([], (1, ())) := by rw [automaton_Difference.f_eq, both_f, hok]; rfl
      have e4 : ancepsref06_Difference.f L S N A L' S' N' A' = some ([], (1, ())) := by rw [ancepsref06_Difference.f_eq, rboth_f, hok]; rfl
      rw [e1, e2, e3, e4]
      simp only [bindD_some]
      rw [ifB_not _ _ (by rfl), ifB_not _ _ (by rfl), ifB_not _ _ (by rfl), eq_f [] (by simp), bindD_some, ifB_not _ _ (by rfl), ifB_of _ _ (by rfl)]
    | true =>
      obtain ⟨o1, o2, ha, hb, hLL⟩ := errP_V hok
      subst hLL
      rw [sameF ha hb hok, rsameF ha hb hok, difference_f ha hb hok, rdifference_f ha hb hok]
      simp only [bindD_some]
      have hiff := diff_none_iff ha hb
      rw [ifB_not _ _ (by simp), ifB_not _ _ (by rfl)]
      cases hw : diffW L S N A S' N' A' with
      | none =>
        have h5 : slices_Equal_int_int.f (diffR none).1 (diffR none).1 = some (true, ()) := eq_f [] (by simp)
        rw [ifB_not _ _ (by rfl), h5, bindD_some, ifB_not _ _ (by rfl), ifB_of _ _ (by rfl)]
      | some w =>
        obtain ⟨hWd, hlen, hacc⟩ := diffW_some ha hb hw
        have hml : (w.map toI).length = w.length := by simp
        have h5 : slices_Equal_int_int.f (diffR (some w)).1 (diffR (some w)).1 = some (true, ()) := eq_f (w.map toI) (by omega)
        have hne : ¬ lang L N A S = lang L N' A' S' := fun e => by have := hiff.2 e; rw [hw] at this; cases this
        rw [ifB_not _ _ (by rfl), h5, bindD_some, ifB_not _ _ (by rfl), ifB_not _ _ (by rfl), ifB_of _ _ (by simp [hne])]
        rw [show (diffR (some w)).1 = w.map toI from rfl, accepts_f _ _ _ _ _ (by omega), accepts_f _ _ _ _ _ (by omega)]
        simp only [bindD_some]
        unfold accepts
        rw [o1, o2, runI_run ha w S hWd, runI_run hb w S' hWd, hacc]
        cases acc A' (run N' S' w) <;> rfl
end
end Go.Proofs.C06
