/- CheckRelation: the law. -/
import Derived.Test.YtbbikmikiefcoaaP06m
set_option linter.unusedVariables false
set_option linter.unusedSimpArgs false
namespace Go.Proofs.C06
open Go Go.Proofs.R
set_option linter.unusedVariables false
set_option linter.unusedSimpArgs false
set_option maxRecDepth 100000

/-! ### the order of pairs -/
def cmpI (a b : Int) : Int := if a < b then -1 else if a > b then 1 else 0
def ordV (p q : Pr) : Int := if cmpI p.1 q.1 ≠ 0 then cmpI p.1 q.1 else cmpI p.2 q.2
def less (p q : Pr) : Bool := decide (p.1 < q.1) || (decide (p.1 = q.1) && decide (p.2 < q.2))
theorem less_iff (p q : Pr) : less p q = true ↔ p.1 < q.1 ∨ (p.1 = q.1 ∧ p.2 < q.2) := by
  unfold less; simp
theorem ord_lt (p q : Pr) : ordV p q < 0 ↔ less p q = true := by
  rw [less_iff]; unfold ordV cmpI
  repeat' split
  all_goals omega
theorem ord_eq (p q : Pr) : ordV p q = 0 ↔ p = q := by
  rw [Prod.ext_iff]; unfold ordV cmpI
  repeat' split
  all_goals omega
theorem less_trans {p q r : Pr} (h1 : less p q = true) (h2 : less q r = true) : less p r = true := by
  rw [less_iff] at h1 h2 ⊢; omega
theorem less_irr (p : Pr) : less p p = false := by
  rw [Bool.eq_false_iff]; intro h; rw [less_iff] at h; omega
theorem cmp_f (a b : Int) : cmp_Compare_int.f a b = some (cmpI a b, ()) := by
  rw [cmp_Compare_int.f_eq, cmp_isNaN_int.f_eq, cmp_isNaN_int.f_eq]
  simp only [bindD_some, bne_self_eq_false, ifB_false]
  unfold cmpI
  by_cases h1 : a < b
  · rw [ifB_of _ _ (decide_eq_true h1), if_pos h1]
  · rw [ifB_not _ _ (decide_eq_false h1), if_neg h1]
    by_cases h2 : a > b
    · rw [ifB_of _ _ (decide_eq_true h2), if_pos h2]
    · rw [ifB_not _ _ (decide_eq_false h2), if_neg h2]
theorem or_f (a b : Int) : cmp_Or_int.f [a, b] = some (if a ≠ 0 then a else b, ()) := by
  rw [cmp_Or_int.f_eq, cmp_Or_int.l3_eq, ifB_of _ _ (by simp)]
  rw [show ixAt [a, b] (0 : Int) = some a from rfl, bindD_some]
  by_cases h : a = 0
  · subst h
    rw [ifB_not _ _ (by decide), show IntKind.i64.wrap (0 + 1) = 1 by decide, cmp_Or_int.l3_eq, ifB_of _ _ (by simp), show ixAt [(0 : Int), b] (1 : Int) = some b from rfl, bindD_some]
    by_cases hb : b = 0
    · subst hb
      rw [ifB_not _ _ (by decide), show IntKind.i64.wrap (1 + 1) = 2 by decide, cmp_Or_int.l3_eq, ifB_not _ _ (by decide)]
      rfl
    · rw [ifB_of _ _ (bne_iff_ne.2 hb)]; rfl
  · rw [ifB_of _ _ (bne_iff_ne.2 h), if_pos h]
theorem order_f (p q : Pr) : automaton_order.f p.1 p.2 q.1 q.2 = some (ordV p q, ()) := by
  rw [automaton_order.f_eq, cmp_f, cmp_f]
  simp only [bindD_some]
  rw [or_f]; rfl
theorem rless_f (p q : Pr) : ancepsref06_less.f p.1 p.2 q.1 q.2 = some (less p q, ()) := by
  rw [ancepsref06_less.f_eq]
  unfold less
  by_cases h1 : p.1 < q.1
  · rw [ifB_of _ _ (decide_eq_true h1)]; simp [h1]
  · rw [ifB_not _ _ (decide_eq_false h1)]
    by_cases h2 : p.1 = q.1
    · rw [ifB_of _ _ (by simpa using h2)]; simp [h1, h2]
    · rw [ifB_not _ _ (beq_eq_false_iff_ne.2 h2)]; simp [h1, h2]

/-! ### the search -/
def Srt (l : List Pr) : Prop := ∀ (i j : Nat) (p q : Pr), i < j → l[i]? = some p → l[j]? = some q → less p q = true
theorem mid_f {i j : Nat} (h : i + j < 4611686018427387904) : IntKind.i64.wrap (shrInt .u64 (IntKind.u64.wrap (IntKind.i64.wrap ((i : Int) + (j : Int)))) 1) = (((i + j) / 2 : Nat) : Int) := by
  have h1 : IntKind.i64.wrap ((i : Int) + (j : Int)) = ((i + j : Nat) : Int) := by rw [show ((i : Int) + (j : Int)) = ((i + j : Nat) : Int) by simp]; exact w64_nat (by omega)
  have h2 : IntKind.u64.wrap ((i + j : Nat) : Int) = ((i + j : Nat) : Int) := IntWalk.u64_in _ (by omega)
  have h3 : shrInt .u64 ((i + j : Nat) : Int) 1 = (((i + j) / 2 : Nat) : Int) := by
    show Int.fdiv ((i + j : Nat) : Int) (2 ^ (min 1 64)) = _
    rw [Int.fdiv_eq_ediv_of_nonneg _ (by decide)]
    rw [Int.natCast_ediv]; rfl
  rw [h1, h2, h3]
  exact w64_nat (by omega)

theorem search_l3 {l : List Pr} (hs : Srt l) (hl : l.length ≤ 160801) (q : Pr) : ∀ (f i j : Nat), j ≤ i + f → i ≤ j → j ≤ l.length → (∀ k p, k < i → l[k]? = some p → less p q = true) → (∀ k p, j ≤ k → l[k]? = some p → less p q = false) →
    ∃ k : Int, api_Pair_61.l3 l ((l.length : Nat) : Int) (i : Int) (j : Int) q.1 q.2 = some (k, (decide (q ∈ l), ()))
  | 0, i, j, h, hij, hj, hlo, hhi => by
    have : i = j := by omega
    subst this
    rw [api_Pair_61.l3_eq, ifB_not _ _ (decide_eq_false (by omega))]
    by_cases hi : i < l.length
    · have hv : l[i]? = some l[i] := List.getElem?_eq_getElem hi
      rw [ifB_of _ _ (decide_eq_true (by omega)), ixAt_nat, hv, bindD_some, order_f, bindD_some]
      refine ⟨(i : Int), ?_⟩
      have : (ordV l[i] q == 0) = decide (q ∈ l) := by
        rw [Bool.eq_iff_iff, beq_iff_eq, ord_eq, decide_eq_true_eq]
        constructor
        · intro e; rw [← e]; exact List.getElem_mem hi
        · intro hq
          obtain ⟨k, hk⟩ := List.mem_iff_getElem?.1 hq
          rcases Nat.lt_trichotomy k i with h1 | h1 | h1
          · have := hlo k q h1 hk; rw [less_irr] at this; cases this
          · subst h1; rw [hv] at hk; exact Option.some.inj hk
          · have h2 := hs i k _ _ h1 hv hk
            have h3 := hhi i _ (Nat.le_refl _) hv
            rw [h2] at h3; cases h3
      rw [this]
    · rw [ifB_not _ _ (decide_eq_false (by omega))]
      have : decide (q ∈ l) = false := by
        refine decide_eq_false fun hq => ?_
        obtain ⟨k, hk⟩ := List.mem_iff_getElem?.1 hq
        have := (List.getElem?_eq_some_iff.1 hk).1
        have := hlo k q (by omega) hk; rw [less_irr] at this; cases this
      rw [this]; exact ⟨_, rfl⟩
  | f + 1, i, j, h, hij, hj, hlo, hhi => by
    by_cases hlt : i < j
    · have hm : (i + j) / 2 < l.length := by omega
      have hv : l[(i + j) / 2]? = some l[(i + j) / 2] := List.getElem?_eq_getElem hm
      rw [api_Pair_61.l3_eq, ifB_of _ _ (decide_eq_true (by omega)), mid_f (by omega), ixAt_nat, hv, bindD_some, order_f, bindD_some, w64_succ (by omega)]
      by_cases hc : ordV l[(i + j) / 2] q < 0
      · rw [ifB_of _ _ (decide_eq_true hc)]
        refine search_l3 hs hl q f ((i + j) / 2 + 1) j (by omega) (by omega) hj ?_ hhi
        intro k p hk hkp
        by_cases e : k = (i + j) / 2
        · subst e; rw [hv] at hkp; cases hkp; exact (ord_lt _ _).1 hc
        · exact less_trans (hs k _ _ _ (by omega) hkp hv) ((ord_lt _ _).1 hc)
      · rw [ifB_not _ _ (decide_eq_false hc)]
        refine search_l3 hs hl q f i ((i + j) / 2) (by omega) (by omega) (by omega) hlo ?_
        intro k p hk hkp
        have hnl : less l[(i + j) / 2] q = false := by rw [Bool.eq_false_iff]; exact fun h => hc ((ord_lt _ _).2 h)
        by_cases e : k = (i + j) / 2
        · subst e; rw [hv] at hkp; cases hkp; exact hnl
        · rw [Bool.eq_false_iff]
          intro h2
          have := less_trans (hs _ k _ _ (by omega) hv hkp) h2
          rw [hnl] at this; cases this
    · exact search_l3 hs hl q 0 i j (by omega) hij hj hlo hhi

def none2 (p : Pr) : Bool := decide (p.1 < 0) && decide (p.2 < 0)
def inR (l : List Pr) (p : Pr) : Bool := decide (p ∈ l) || none2 p
theorem none2_eq {p : Pr} (h : -1 ≤ p.1 ∧ -1 ≤ p.2) : ((p.1 == (-1 : Int)) && (p.2 == (-1 : Int))) = none2 p := by
  unfold none2
  by_cases h1 : p.1 < 0 <;> by_cases h2 : p.2 < 0
  · have e1 : p.1 = -1 := by omega
    have e2 : p.2 = -1 := by omega
    simp [e1, e2]
  · have : ¬ p.2 = -1 := by omega
    simp [h1, h2, this]
  · have : ¬ p.1 = -1 := by omega
    simp [h1, h2, this]
  · have : ¬ p.1 = -1 := by omega
    simp [h1, h2, this]
theorem has6_f {l : List Pr} (hs : Srt l) (hl : l.length ≤ 160801) (q : Pr) (hq : -1 ≤ q.1 ∧ -1 ≤ q.2) : automaton_CheckRelation_1.f q.1 q.2 l (-1) (-1) = some (inR l q, ()) := by
  obtain ⟨k, hk⟩ := search_l3 hs hl q l.length 0 l.length (by omega) (by omega) (Nat.le_refl _) (fun k p h => by omega) (fun k p h hk => by
    have := (List.getElem?_eq_some_iff.1 hk).1; omega)
  rw [show ((0 : Nat) : Int) = 0 from rfl] at hk
  rw [automaton_CheckRelation_1.f_eq, api_Pair_61.f_eq, hk, bindD_some]
  unfold inR
  simp only
  cases decide (q ∈ l) with
  | true => rfl
  | false => rw [ifB_false, none2_eq hq]; rfl
section
variable {L Sa Sb : Int} {Na Nb : LLI} {Aa Ab : LB}
def rng (Na Nb : LLI) (p : Pr) : Bool := !(decide (p.1 < -1)) && (!(decide (p.1 ≥ ((Na.length : Nat) : Int))) && (!(decide (p.2 < -1)) && !(decide (p.2 ≥ ((Nb.length : Nat) : Int))))) && !(none2 p)
def befo (o : Option Pr) (p : Pr) : Bool := match o with | none => true | some q => less q p
def chkA (Na Nb : LLI) : Option Pr → List Pr → Bool
  | _, [] => true
  | o, p :: l => befo o p && rng Na Nb p && chkA Na Nb (some p) l
def clos (Na Nb : LLI) (l : List Pr) (p : Pr) : Nat → Nat → Bool
  | 0, _ => true
  | f + 1, c => inR l (nx Na Nb p c) && clos Na Nb l p f (c + 1)
def simu (L : Int) (Na Nb : LLI) (Aa Ab : LB) (l : List Pr) (p : Pr) : Bool := (acc Aa p.1 == acc Ab p.2) && clos Na Nb l p L.toNat 0
theorem rng_U {p : Pr} (h : rng Na Nb p = true) : inU Na Nb p := by
  unfold rng at h
  simp only [Bool.and_eq_true, Bool.not_eq_true', decide_eq_false_iff_not] at h
  unfold inU; omega
theorem chkA_facts : ∀ (l : List Pr) (o : Option Pr), chkA Na Nb o l = true → (∀ p ∈ l, inU Na Nb p ∧ befo o p = true) ∧ l.Pairwise (fun p q => less p q = true)
  | [], _, _ => ⟨by simp, List.Pairwise.nil⟩
  | p :: l, o, h => by
    simp only [chkA, Bool.and_eq_true] at h
    obtain ⟨h1, h2⟩ := chkA_facts l (some p) h.2
    refine ⟨?_, List.pairwise_cons.2 ⟨fun q hq => (h1 q hq).2, h2⟩⟩
    intro q hq
    rcases List.mem_cons.1 hq with rfl | hq
    · exact ⟨rng_U h.1.2, h.1.1⟩
    · refine ⟨(h1 q hq).1, ?_⟩
      have h3 := (h1 q hq).2
      cases o with
      | none => rfl
      | some x => exact less_trans h.1.1 h3
theorem chkA_srt {l : List Pr} (h : chkA Na Nb none l = true) : Srt l := by
  have := (chkA_facts l none h).2
  intro i j p q hij hp hq
  obtain ⟨h1, rfl⟩ := List.getElem?_eq_some_iff.1 hp
  obtain ⟨h2, rfl⟩ := List.getElem?_eq_some_iff.1 hq
  exact List.pairwise_iff_getElem.1 this i j h1 h2 hij

/-- the program's tests of a pair, in its order -/
theorem tests6 (p : Pr) (Y : Option (Bool × Unit)) :
    ifB ((p.1 == (-1 : Int)) && (p.2 == (-1 : Int))) (some (false, ())) (ifB (decide (p.1 < (-1 : Int))) (some (false, ())) (ifB (decide (p.1 ≥ ((Na.length : Nat) : Int))) (some (false, ())) (ifB (decide (p.2 < (-1 : Int))) (some (false, ())) (ifB (decide (p.2 ≥ ((Nb.length : Nat) : Int))) (some (false, ())) Y)))) =
    bif rng Na Nb p then Y else some (false, ()) := by
  unfold rng
  by_cases h1 : p.1 < -1
  · simp [h1, ifB]
  · by_cases h2 : p.2 < -1
    · simp [h2, ifB]
    · rw [none2_eq ⟨by omega, by omega⟩]
      cases none2 p <;> cases decide (p.1 < (-1 : Int)) <;> cases decide (p.1 ≥ (((List.length Na) : Nat) : Int)) <;> cases decide (p.2 < (-(1 : Int))) <;> cases decide (p.2 ≥ (((List.length Nb) : Nat) : Int)) <;> rfl

theorem chk_l6 (hSa : -1 ≤ Sa) (hSb : -1 ≤ Sb) {l : List Pr} (hl : l.length ≤ 160801) : ∀ (suf pre : List Pr), l = pre ++ suf →
    automaton_CheckRelation.l6 l ((l.length : Nat) : Int) (pre.length : Nat) L Sa Na Aa L Sb Nb Ab l (-1) (-1) = bif chkA Na Nb pre.getLast? suf then automaton_CheckRelation.l6 l ((l.length : Nat) : Int) ((l.length : Nat) : Int) L Sa Na Aa L Sb Nb Ab l (-1) (-1) else some (false, ())
  | [], pre, hp => by
    rw [List.append_nil] at hp; subst hp; rfl
  | p :: suf, pre, hp => by
    have hat : l[pre.length]? = some p := by rw [hp]; simp
    have hll : pre.length < l.length := (List.getElem?_eq_some_iff.1 hat).1
    have ih := chk_l6 hSa hSb hl suf (pre ++ [p]) (by rw [hp]; simp)
    have hlast : (pre ++ [p]).getLast? = some p := by simp
    have hpl : (((pre ++ [p]).length : Nat) : Int) = ((pre.length + 1 : Nat) : Int) := by simp
    rw [hlast, hpl] at ih
    conv => lhs; rw [automaton_CheckRelation.l6_eq]
    rw [ifB_of _ _ (decide_eq_true (by omega)), ixAt_nat, hat, bindD_some, w64_succ (by omega), ih]
    simp only [chkA]
    generalize hX : (bif chkA Na Nb (some p) suf then automaton_CheckRelation.l6 l ((l.length : Nat) : Int) ((l.length : Nat) : Int) L Sa Na Aa L Sb Nb Ab l (-1) (-1) else some (false, ())) = X
    have hX2 : ∀ b : Bool, (bif b && chkA Na Nb (some p) suf then automaton_CheckRelation.l6 l ((l.length : Nat) : Int) ((l.length : Nat) : Int) L Sa Na Aa L Sb Nb Ab l (-1) (-1) else some (false, ())) = bif b then X else some (false, ()) := by
      intro b; cases b
      · rfl
      · exact hX
    rw [hX2]
    have ht := tests6 (Na := Na) (Nb := Nb) p
    rw [ht]
    cases hpre : pre.getLast? with
    | none =>
      have : pre = [] := List.getLast?_eq_none_iff.1 hpre
      subst this
      rw [ifB_not _ _ (decide_eq_false (by simp))]
      rfl
    | some q =>
      obtain ⟨ys, rfl⟩ : ∃ ys, pre = ys ++ [q] := List.getLast?_eq_some_iff.1 hpre
      have hq : l[ys.length]? = some q := by rw [hp]; simp
      have hw : IntKind.i64.wrap ((((ys ++ [q]).length : Nat) : Int) - 1) = ((ys.length : Nat) : Int) := by
        rw [w64 (by omega)]; simp
      rw [ifB_of _ _ (decide_eq_true (by simp)), hw, ixAt_nat, hq, bindD_some, order_f, bindD_some]
      show (bif rng Na Nb p then ifB (decide (ordV q p ≥ 0)) _ _ else _) = bif (less q p && _) then _ else _
      cases hlq : less q p with
      | true => rw [ifB_not _ _ (decide_eq_false (by have := (ord_lt q p).2 hlq; omega))]; rfl
      | false =>
        rw [ifB_of _ _ (decide_eq_true (by
          have : ¬ ordV q p < 0 := fun h => by rw [(ord_lt q p).1 h] at hlq; cases hlq
          omega))]
        cases rng Na Nb p <;> rfl

theorem chk_l19 (ha : V L Sa Na Aa) (hb : V L Sb Nb Ab) {l : List Pr} (hs : Srt l) (hl : l.length ≤ 160801) {p : Pr} (hp : inU Na Nb p) {i : Nat} (hi : i < 160801) : ∀ (f c : Nat), (c : Int) + f = L →
    automaton_CheckRelation.l19 l ((l.length : Nat) : Int) (i : Int) L (c : Int) L Sa Na Aa L Sb Nb Ab l (-1) (-1) p.1 p.2 = bif clos Na Nb l p f c then automaton_CheckRelation.l14 l ((l.length : Nat) : Int) ((i + 1 : Nat) : Int) L Sa Na Aa L Sb Nb Ab l (-1) (-1) else some (false, ())
  | 0, c, hc => by
    rw [automaton_CheckRelation.l19_eq, ifB_not _ _ (decide_eq_false (by omega)), w64_succ (by omega)]; rfl
  | f + 1, c, hc => by
    have hc' : (c : Int) < L := by omega
    have hl8 := ha.l8
    rw [automaton_CheckRelation.l19_eq, ifB_of _ _ (decide_eq_true hc'), anext_f ha hp.1 hc', bindD_some, anext_f hb hp.2 hc', bindD_some, w64_succ (by omega), chk_l19 ha hb hs hl hp hi f (c + 1) (by omega)]
    simp only [clos]
    have hU := nx_U ha hb hp hc'
    have hh := has6_f hs hl (nx Na Nb p c) ⟨hU.1.1, hU.2.1⟩
    have hh : automaton_CheckRelation_1.f (stp Na p.1 c) (stp Nb p.2 c) l (-1) (-1) = some (inR l (nx Na Nb p c), ()) := hh
    rw [hh, bindD_some]
    cases inR l (nx Na Nb p c) <;> rfl

theorem chk_l14 (ha : V L Sa Na Aa) (hb : V L Sb Nb Ab) {l : List Pr} (hs : Srt l) (hl : l.length ≤ 160801) (hU : ∀ p ∈ l, inU Na Nb p) : ∀ (suf pre : List Pr), l = pre ++ suf →
    automaton_CheckRelation.l14 l ((l.length : Nat) : Int) (pre.length : Nat) L Sa Na Aa L Sb Nb Ab l (-1) (-1) = some (suf.all (simu L Na Nb Aa Ab l), ())
  | [], pre, hp => by
    rw [automaton_CheckRelation.l14_eq, ifB_not _ _ (decide_eq_false (by rw [hp]; simp))]; rfl
  | p :: suf, pre, hp => by
    have hat : l[pre.length]? = some p := by rw [hp]; simp
    have hll : pre.length < l.length := (List.getElem?_eq_some_iff.1 hat).1
    have hpU := hU p (List.mem_of_getElem? hat)
    have hA := ha.a; have hB := hb.a; have hL1 := ha.l1
    have ih := chk_l14 ha hb hs hl hU suf (pre ++ [p]) (by rw [hp]; simp)
    have hpl : (((pre ++ [p]).length : Nat) : Int) = ((pre.length + 1 : Nat) : Int) := by simp
    rw [hpl] at ih
    have h16 := chk_l19 ha hb hs hl hpU (i := pre.length) (by omega) L.toNat 0 (by omega)
    rw [show ((0 : Nat) : Int) = 0 from rfl, ih] at h16
    rw [automaton_CheckRelation.l14_eq, ifB_of _ _ (decide_eq_true (by omega)), ixAt_nat, hat, bindD_some, ends_f (by have := hpU.1.2; omega), bindD_some, ends_f (by have := hpU.2.2; omega), bindD_some, h16]
    simp only [List.all_cons, simu]
    cases acc Aa p.1 <;> cases acc Ab p.2 <;> cases clos Na Nb l p L.toNat 0 <;> rfl

/-- what both texts check -/
def relB (L Sa Sb : Int) (Na Nb : LLI) (Aa Ab : LB) (l : List Pr) : Bool := inR l (Sa, Sb) && (chkA Na Nb none l && l.all (simu L Na Nb Aa Ab l))
theorem check_f (ha : V L Sa Na Aa) (hb : V L Sb Nb Ab) (hok : errP L Sa Na Aa L Sb Nb Ab = true) {l : List Pr} (hl : l.length ≤ 160801) : automaton_CheckRelation.f L Sa Na Aa L Sb Nb Ab l = some (relB L Sa Sb Na Nb Aa Ab l, ()) := by
  have h6 := chk_l6 (L := L) (Na := Na) (Aa := Aa) (Nb := Nb) (Ab := Ab) ha.s.1 hb.s.1 (l := l) (by omega) l [] rfl
  simp only [List.length_nil] at h6
  rw [show ((0 : Nat) : Int) = 0 from rfl, show ([] : List Pr).getLast? = none from rfl] at h6
  rw [automaton_CheckRelation.f_eq, both_f, hok, bindD_some, ifB_not _ _ (by rfl)]
  show automaton_CheckRelation.l6 l ((l.length : Nat) : Int) 0 L Sa Na Aa L Sb Nb Ab l (-1) (-1) = _
  rw [h6]
  unfold relB
  cases hc : chkA Na Nb none l with
  | false => simp
  | true =>
    have hs := chkA_srt hc
    have hU := (chkA_facts l none hc).1
    have h14 := chk_l14 ha hb hs (by omega) (fun p hp => (hU p hp).1) l [] rfl
    simp only [List.length_nil] at h14
    rw [show ((0 : Nat) : Int) = 0 from rfl] at h14
    rw [cond_true, automaton_CheckRelation.l6_eq, ifB_not _ _ (decide_eq_false (by omega)), has6_f hs (by omega) (Sa, Sb) ⟨ha.s.1, hb.s.1⟩, bindD_some]
    cases inR l (Sa, Sb) with
    | false => rfl
    | true => rw [ifB_not _ _ (by rfl), h14]; simp
end
end Go.Proofs.C06
