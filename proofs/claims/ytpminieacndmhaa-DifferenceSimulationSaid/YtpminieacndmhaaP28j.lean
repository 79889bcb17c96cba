/- Plain words for the chapter of differences: simulations. -/
import Derived.Test.YtpminieacndmhaaP28i
set_option linter.unusedVariables false
set_option linter.unusedSimpArgs false
namespace Go.Proofs.C28
open Go Go.Proofs.R
set_option linter.unusedVariables false
set_option linter.unusedSimpArgs false
set_option maxRecDepth 100000

/-! ### the order of pairs -/
def cmpI (a b : Int) : Int := if a < b then -1 else if a > b then 1 else 0
def ordV (p q : Pr) : Int := if cmpI p.1 q.1 ≠ 0 then cmpI p.1 q.1 else cmpI p.2 q.2
def less (p q : Pr) : Bool := decide (p.1 < q.1) || (decide (p.1 = q.1) && decide (p.2 < q.2))
theorem less_iff (p q : Pr) : less p q = true ↔ p.1 < q.1 ∨ (p.1 = q.1 ∧ p.2 < q.2) := by
  unfold less; simp
theorem ord_lt (p q : Pr) : ordV p q < 0 ↔ less p q = true := by
  rw [less_iff]; unfold ordV cmpI
  repeat' split
  all_goals omega
theorem ord_eq (p q : Pr) : ordV p q = 0 ↔ p = q := by
  rw [Prod.ext_iff]; unfold ordV cmpI
  repeat' split
  all_goals omega
theorem less_trans {p q r : Pr} (h1 : less p q = true) (h2 : less q r = true) : less p r = true := by
  rw [less_iff] at h1 h2 ⊢; omega
theorem less_irr (p : Pr) : less p p = false := by
  rw [Bool.eq_false_iff]; intro h; rw [less_iff] at h; omega
theorem cmp_f (a b : Int) : cmp_Compare_int.f a b = some (cmpI a b, ()) := by
  rw [cmp_Compare_int.f_eq, cmp_isNaN_int.f_eq, cmp_isNaN_int.f_eq]
  simp only [bindD_some, bne_self_eq_false, ifB_false]
  unfold cmpI
  by_cases h1 : a < b
  · rw [ifB_of _ _ (decide_eq_true h1), if_pos h1]
  · rw [ifB_not _ _ (decide_eq_false h1), if_neg h1]
    by_cases h2 : a > b
    · rw [ifB_of _ _ (decide_eq_true h2), if_pos h2]
    · rw [ifB_not _ _ (decide_eq_false h2), if_neg h2]
theorem or_f (a b : Int) : cmp_Or_int.f [a, b] = some (if a ≠ 0 then a else b, ()) := by
  rw [cmp_Or_int.f_eq, cmp_Or_int.l3_eq, ifB_of _ _ (by simp)]
  rw [show ixAt [a, b] (0 : Int) = some a from rfl, bindD_some]
  by_cases h : a = 0
  · subst h
    rw [ifB_not _ _ (by decide), show IntKind.i64.wrap (0 + 1) = 1 by decide, cmp_Or_int.l3_eq, ifB_of _ _ (by simp), show ixAt [(0 : Int), b] (1 : Int) = some b from rfl, bindD_some]
    by_cases hb : b = 0
    · subst hb
      rw [ifB_not _ _ (by decide), show IntKind.i64.wrap (1 + 1) = 2 by decide, cmp_Or_int.l3_eq, ifB_not _ _ (by decide)]
      rfl
    · rw [ifB_of _ _ (bne_iff_ne.2 hb)]; rfl
  · rw [ifB_of _ _ (bne_iff_ne.2 h), if_pos h]
theorem order_f (p q : Pr) : difference_order.f p.1 p.2 q.1 q.2 = some (ordV p q, ()) := by
  rw [difference_order.f_eq, cmp_f, cmp_f]
  simp only [bindD_some]
  rw [or_f]; rfl
theorem rless_f (p q : Pr) : ancepsref28_less.f p.1 p.2 q.1 q.2 = some (less p q, ()) := by
  rw [ancepsref28_less.f_eq]
  unfold less
  by_cases h1 : p.1 < q.1
  · rw [ifB_of _ _ (decide_eq_true h1)]; simp [h1]
  · rw [ifB_not _ _ (decide_eq_false h1)]
    by_cases h2 : p.1 = q.1
    · rw [ifB_of _ _ (by simpa using h2)]; simp [h1, h2]
    · rw [ifB_not _ _ (beq_eq_false_iff_ne.2 h2)]; simp [h1, h2]

/-! ### the search -/
def Srt (l : List Pr) : Prop := ∀ (i j : Nat) (p q : Pr), i < j → l[i]? = some p → l[j]? = some q → less p q = true
theorem mid_f {i j : Nat} (h : i + j < 4611686018427387904) : IntKind.i64.wrap (shrInt .u64 (IntKind.u64.wrap (IntKind.i64.wrap ((i : Int) + (j : Int)))) 1) = (((i + j) / 2 : Nat) : Int) := by
  have h1 : IntKind.i64.wrap ((i : Int) + (j : Int)) = ((i + j : Nat) : Int) := by rw [show ((i : Int) + (j : Int)) = ((i + j : Nat) : Int) by simp]; exact w64_nat (by omega)
  have h2 : IntKind.u64.wrap ((i + j : Nat) : Int) = ((i + j : Nat) : Int) := IntWalk.u64_in _ (by omega)
  have h3 : shrInt .u64 ((i + j : Nat) : Int) 1 = (((i + j) / 2 : Nat) : Int) := by
    show Int.fdiv ((i + j : Nat) : Int) (2 ^ (min 1 64)) = _
    rw [Int.fdiv_eq_ediv_of_nonneg _ (by decide)]
    rw [Int.natCast_ediv]; rfl
  rw [h1, h2, h3]
  exact w64_nat (by omega)

theorem search_l3 {l : List Pr} (hs : Srt l) (hl : l.length ≤ 160801) (q : Pr) : ∀ (f i j : Nat), j ≤ i + f → i ≤ j → j ≤ l.length → (∀ k p, k < i → l[k]? = some p → less p q = true) → (∀ k p, j ≤ k → l[k]? = some p → less p q = false) →
    ∃ k : Int, api_Pair_61.l3 l ((l.length : Nat) : Int) (i : Int) (j : Int) q.1 q.2 = some (k, (decide (q ∈ l), ()))
  | 0, i, j, h, hij, hj, hlo, hhi => by
    have : i = j := by omega
    subst this
    rw [api_Pair_61.l3_eq, ifB_not _ _ (decide_eq_false (by omega))]
    by_cases hi : i < l.length
    · have hv : l[i]? = some l[i] := List.getElem?_eq_getElem hi
      rw [ifB_of _ _ (decide_eq_true (by omega)), ixAt_nat, hv, bindD_some, order_f, bindD_some]
      refine ⟨(i : Int), ?_⟩
      have : (ordV l[i] q == 0) = decide (q ∈ l) := by
        rw [Bool.eq_iff_iff, beq_iff_eq, ord_eq, decide_eq_true_eq]
        constructor
        · intro e; rw [← e]; exact List.getElem_mem hi
        · intro hq
          obtain ⟨k, hk⟩ := List.mem_iff_getElem?.1 hq
          rcases Nat.lt_trichotomy k i with h1 | h1 | h1
          · have := hlo k q h1 hk; rw [less_irr] at this; cases this
          · subst h1; rw [hv] at hk; exact Option.some.inj hk
          · have h2 := hs i k _ _ h1 hv hk
            have h3 := hhi i _ (Nat.le_refl _) hv
            rw [h2] at h3; cases h3
      rw [this]
    · rw [ifB_not _ _ (decide_eq_false (by omega))]
      have : decide (q ∈ l) = false := by
        refine decide_eq_false fun hq => ?_
        obtain ⟨k, hk⟩ := List.mem_iff_getElem?.1 hq
        have := (List.getElem?_eq_some_iff.1 hk).1
        have := hlo k q (by omega) hk; rw [less_irr] at this; cases this
      rw [this]; exact ⟨_, rfl⟩
  | f + 1, i, j, h, hij, hj, hlo, hhi => by
    by_cases hlt : i < j
    · have hm : (i + j) / 2 < l.length := by omega
      have hv : l[(i + j) / 2]? = some l[(i + j) / 2] := List.getElem?_eq_getElem hm
      rw [api_Pair_61.l3_eq, ifB_of _ _ (decide_eq_true (by omega)), mid_f (by omega), ixAt_nat, hv, bindD_some, order_f, bindD_some, w64_succ (by omega)]
      by_cases hc : ordV l[(i + j) / 2] q < 0
      · rw [ifB_of _ _ (decide_eq_true hc)]
        refine search_l3 hs hl q f ((i + j) / 2 + 1) j (by omega) (by omega) hj ?_ hhi
        intro k p hk hkp
        by_cases e : k = (i + j) / 2
        · subst e; rw [hv] at hkp; cases hkp; exact (ord_lt _ _).1 hc
        · exact less_trans (hs k _ _ _ (by omega) hkp hv) ((ord_lt _ _).1 hc)
      · rw [ifB_not _ _ (decide_eq_false hc)]
        refine search_l3 hs hl q f i ((i + j) / 2) (by omega) (by omega) (by omega) hlo ?_
        intro k p hk hkp
        have hnl : less l[(i + j) / 2] q = false := by rw [Bool.eq_false_iff]; exact fun h => hc ((ord_lt _ _).2 h)
        by_cases e : k = (i + j) / 2
        · subst e; rw [hv] at hkp; cases hkp; exact hnl
        · rw [Bool.eq_false_iff]
          intro h2
          have := less_trans (hs _ k _ _ (by omega) hv hkp) h2
          rw [hnl] at this; cases this
    · exact search_l3 hs hl q 0 i j (by omega) hij hj hlo hhi
theorem has_f {l : List Pr} (hs : Srt l) (hl : l.length ≤ 160801) (q : Pr) : difference_CheckWithin_1.f q.1 q.2 l = some (decide (q ∈ l), ()) := by
  obtain ⟨k, hk⟩ := search_l3 hs hl q l.length 0 l.length (by omega) (by omega) (Nat.le_refl _) (fun k p h => by omega) (fun k p h hk => by
    have := (List.getElem?_eq_some_iff.1 hk).1; omega)
  rw [show ((0 : Nat) : Int) = 0 from rfl] at hk
  rw [difference_CheckWithin_1.f_eq, api_Pair_61.f_eq, hk]
  rfl

section
variable {L Sa Sb : Int} {Na Nb : LLI} {Aa Ab : LB}

/-! ### what is checked -/
def rng (Na Nb : LLI) (p : Pr) : Bool := !(decide (p.1 < 0)) && (!(decide (p.1 ≥ ((Na.length : Nat) : Int))) && (!(decide (p.2 < -1)) && !(decide (p.2 ≥ ((Nb.length : Nat) : Int)))))
def befo (o : Option Pr) (p : Pr) : Bool := match o with | none => true | some q => less q p
def chkA (Na Nb : LLI) : Option Pr → List Pr → Bool
  | _, [] => true
  | o, p :: l => befo o p && rng Na Nb p && chkA Na Nb (some p) l
def clos (Na Nb : LLI) (l : List Pr) (p : Pr) : Nat → Nat → Bool
  | 0, _ => true
  | f + 1, c => (bif decide ((nx Na Nb p c).1 ≥ 0) then decide (nx Na Nb p c ∈ l) else true) && clos Na Nb l p f (c + 1)
def simu (L : Int) (Na Nb : LLI) (Aa Ab : LB) (l : List Pr) (p : Pr) : Bool := !(bW Aa Ab p) && clos Na Nb l p L.toNat 0
def chkR (L : Int) (Na Nb : LLI) (Aa Ab : LB) (l : List Pr) : Option Pr → List Pr → Bool
  | _, [] => true
  | o, p :: r => rng Na Nb p && befo o p && simu L Na Nb Aa Ab l p && chkR L Na Nb Aa Ab l (some p) r
def start (Sa Sb : Int) (l : List Pr) : Bool := bif decide (Sa < 0) then true else decide ((Sa, Sb) ∈ l)
theorem chkR_eq (l : List Pr) : ∀ (r : List Pr) (o : Option Pr), chkR L Na Nb Aa Ab l o r = (chkA Na Nb o r && r.all (simu L Na Nb Aa Ab l))
  | [], _ => rfl
  | p :: r, o => by
    simp only [chkR, chkA, List.all_cons]
    rw [chkR_eq l r (some p)]
    cases rng Na Nb p <;> cases befo o p <;> cases simu L Na Nb Aa Ab l p <;> cases chkA Na Nb (some p) r <;> rfl
theorem rng_U {p : Pr} (h : rng Na Nb p = true) : inU Na Nb p := by
  unfold rng at h
  simp only [Bool.and_eq_true, Bool.not_eq_true', decide_eq_false_iff_not] at h
  unfold inU; omega
theorem chkA_facts : ∀ (l : List Pr) (o : Option Pr), chkA Na Nb o l = true → (∀ p ∈ l, inU Na Nb p ∧ befo o p = true) ∧ l.Pairwise (fun p q => less p q = true)
  | [], _, _ => ⟨by simp, List.Pairwise.nil⟩
  | p :: l, o, h => by
    simp only [chkA, Bool.and_eq_true] at h
    obtain ⟨h1, h2⟩ := chkA_facts l (some p) h.2
    refine ⟨?_, List.pairwise_cons.2 ⟨fun q hq => (h1 q hq).2, h2⟩⟩
    intro q hq
    rcases List.mem_cons.1 hq with rfl | hq
    · exact ⟨rng_U h.1.2, h.1.1⟩
    · refine ⟨(h1 q hq).1, ?_⟩
      have h3 := (h1 q hq).2
      cases o with
      | none => rfl
      | some x => exact less_trans h.1.1 h3
theorem chkA_srt {l : List Pr} (h : chkA Na Nb none l = true) : Srt l := by
  have := (chkA_facts l none h).2
  intro i j p q hij hp hq
  obtain ⟨h1, rfl⟩ := List.getElem?_eq_some_iff.1 hp
  obtain ⟨h2, rfl⟩ := List.getElem?_eq_some_iff.1 hq
  exact List.pairwise_iff_getElem.1 this i j h1 h2 hij

theorem chk_l5 {l : List Pr} (hl : l.length ≤ 160801) : ∀ (suf pre : List Pr), l = pre ++ suf →
    difference_CheckWithin.l5 l ((l.length : Nat) : Int) (pre.length : Nat) L Sa Na Aa L Sb Nb Ab l = bif chkA Na Nb pre.getLast? suf then difference_CheckWithin.l11 l ((l.length : Nat) : Int) (0 : Int) L Sa Na Aa L Sb Nb Ab l else some (false, ())
  | [], pre, hp => by
    rw [difference_CheckWithin.l5_eq, ifB_not _ _ (decide_eq_false (by rw [hp]; simp))]; rfl
  | p :: suf, pre, hp => by
    have hat : l[pre.length]? = some p := by rw [hp]; simp
    have hll : pre.length < l.length := (List.getElem?_eq_some_iff.1 hat).1
    have ih := chk_l5 hl suf (pre ++ [p]) (by rw [hp]; simp)
    have hlast : (pre ++ [p]).getLast? = some p := by simp
    have hpl : (((pre ++ [p]).length : Nat) : Int) = ((pre.length + 1 : Nat) : Int) := by simp
    rw [hlast, hpl] at ih
    rw [difference_CheckWithin.l5_eq, ifB_of _ _ (decide_eq_true (by omega)), ixAt_nat, hat, bindD_some, w64_succ (by omega), ih]
    simp only [chkA, rng]
    generalize hX : (bif chkA Na Nb (some p) suf then difference_CheckWithin.l11 l ((l.length : Nat) : Int) (0 : Int) L Sa Na Aa L Sb Nb Ab l else some (false, ())) = X
    have hX2 : ∀ b : Bool, (bif b && chkA Na Nb (some p) suf then difference_CheckWithin.l11 l ((l.length : Nat) : Int) (0 : Int) L Sa Na Aa L Sb Nb Ab l else some (false, ())) = bif b then X else some (false, ()) := by
      intro b; cases b
      · rfl
      · exact hX
    rw [hX2]
    have hrest : ∀ Y : Option (Bool × Unit), (ifB (decide (p.1 < (0 : Int))) (some (false, ())) (ifB (decide (p.1 ≥ (((List.length Na) : Nat) : Int))) (some (false, ())) (ifB (decide (p.2 < (-(1 : Int)))) (some (false, ())) (ifB (decide (p.2 ≥ (((List.length Nb) : Nat) : Int))) (some (false, ())) Y)))) =
        bif (!(decide (p.1 < 0)) && (!(decide (p.1 ≥ ((Na.length : Nat) : Int))) && (!(decide (p.2 < -1)) && !(decide (p.2 ≥ ((Nb.length : Nat) : Int)))))) then Y else some (false, ()) := by
      intro Y
      cases decide (p.1 < (0 : Int)) <;> cases decide (p.1 ≥ (((List.length Na) : Nat) : Int)) <;> cases decide (p.2 < (-(1 : Int))) <;> cases decide (p.2 ≥ (((List.length Nb) : Nat) : Int)) <;> rfl
    rw [hrest]
    cases hpre : pre.getLast? with
    | none =>
      have : pre = [] := List.getLast?_eq_none_iff.1 hpre
      subst this
      rw [ifB_not _ _ (decide_eq_false (by simp))]
      rfl
    | some q =>
      obtain ⟨ys, rfl⟩ : ∃ ys, pre = ys ++ [q] := List.getLast?_eq_some_iff.1 hpre
      have hq : l[ys.length]? = some q := by rw [hp]; simp
      have hw : IntKind.i64.wrap ((((ys ++ [q]).length : Nat) : Int) - 1) = ((ys.length : Nat) : Int) := by
        rw [w64 (by omega)]; simp
      rw [ifB_of _ _ (decide_eq_true (by simp)), hw, ixAt_nat, hq, bindD_some, order_f, bindD_some]
      show ifB (decide (ordV q p ≥ 0)) _ _ = bif (less q p && _) then _ else _
      cases hlq : less q p with
      | true => rw [ifB_not _ _ (decide_eq_false (by have := (ord_lt q p).2 hlq; omega))]; rfl
      | false => rw [ifB_of _ _ (decide_eq_true (by
          have : ¬ ordV q p < 0 := fun h => by rw [(ord_lt q p).1 h] at hlq; cases hlq
          omega))]; rfl

theorem chk_l16 (ha : V L Sa Na Aa) (hb : V L Sb Nb Ab) {l : List Pr} (hs : Srt l) (hl : l.length ≤ 160801) {p : Pr} (hp : inU Na Nb p) {i : Nat} (hi : i < 160801) : ∀ (f c : Nat), (c : Int) + f = L →
    difference_CheckWithin.l16 l ((l.length : Nat) : Int) (i : Int) L (c : Int) L Sa Na Aa L Sb Nb Ab l p.1 p.2 = bif clos Na Nb l p f c then difference_CheckWithin.l11 l ((l.length : Nat) : Int) ((i + 1 : Nat) : Int) L Sa Na Aa L Sb Nb Ab l else some (false, ())
  | 0, c, hc => by
    rw [difference_CheckWithin.l16_eq, ifB_not _ _ (decide_eq_false (by omega)), w64_succ (by omega)]; rfl
  | f + 1, c, hc => by
    have hc' : (c : Int) < L := by omega
    have hl8 := ha.l8
    rw [difference_CheckWithin.l16_eq, ifB_of _ _ (decide_eq_true hc'), step_f ha hp.1 hc', bindD_some, step_f hb hp.2 hc', bindD_some, w64_succ (by omega), chk_l16 ha hb hs hl hp hi f (c + 1) (by omega)]
    simp only [clos]
    have hh := has_f hs hl (nx Na Nb p c)
    have hh : difference_CheckWithin_1.f (stp Na p.1 c) (stp Nb p.2 c) l = some (decide (nx Na Nb p c ∈ l), ()) := hh
    have h1 : (nx Na Nb p c).1 = stp Na p.1 c := rfl
    rw [h1]
    cases decide (stp Na p.1 c ≥ 0) with
    | false => rfl
    | true =>
      rw [ifB_true, hh, bindD_some]
      cases decide (nx Na Nb p c ∈ l) <;> rfl

theorem chk_l11 (ha : V L Sa Na Aa) (hb : V L Sb Nb Ab) {l : List Pr} (hs : Srt l) (hl : l.length ≤ 160801) (hU : ∀ p ∈ l, inU Na Nb p) : ∀ (suf pre : List Pr), l = pre ++ suf →
    difference_CheckWithin.l11 l ((l.length : Nat) : Int) (pre.length : Nat) L Sa Na Aa L Sb Nb Ab l = some (suf.all (simu L Na Nb Aa Ab l) && start Sa Sb l, ())
  | [], pre, hp => by
    rw [difference_CheckWithin.l11_eq, ifB_not _ _ (decide_eq_false (by rw [hp]; simp))]
    have hh := has_f hs hl (Sa, Sb)
    simp only at hh
    rw [hh]
    unfold start
    cases decide (Sa < 0) <;> rfl
  | p :: suf, pre, hp => by
    have hat : l[pre.length]? = some p := by rw [hp]; simp
    have hll : pre.length < l.length := (List.getElem?_eq_some_iff.1 hat).1
    have hpU := hU p (List.mem_of_getElem? hat)
    have hA := ha.a; have hB := hb.a; have hL1 := ha.l1
    have ih := chk_l11 ha hb hs hl hU suf (pre ++ [p]) (by rw [hp]; simp)
    have hpl : (((pre ++ [p]).length : Nat) : Int) = ((pre.length + 1 : Nat) : Int) := by simp
    rw [hpl] at ih
    have h16 := chk_l16 ha hb hs hl hpU (i := pre.length) (by omega) L.toNat 0 (by omega)
    rw [show ((0 : Nat) : Int) = 0 from rfl, ih] at h16
    rw [difference_CheckWithin.l11_eq, ifB_of _ _ (decide_eq_true (by omega)), ixAt_nat, hat, bindD_some, acc_f (by have := hpU.1.2; omega), bindD_some, acc_f (by have := hpU.2.2; omega), h16]
    simp only [List.all_cons, simu, bW, bindD_some]
    cases acc Aa p.1 <;> cases acc Ab p.2 <;> cases clos Na Nb l p L.toNat 0 <;> rfl

theorem rchk_l10 (ha : V L Sa Na Aa) (hb : V L Sb Nb Ab) {l : List Pr} (hl : l.length ≤ 160801) {p : Pr} (hp : inU Na Nb p) {i : Nat} (hi : i < 160801) : ∀ (f c : Nat), (c : Int) + f = L →
    ancepsref28_CheckWithin.l10 l (i : Int) (c : Int) L Sa Na Aa L Sb Nb Ab p.1 p.2 = bif clos Na Nb l p f c then ancepsref28_CheckWithin.l4 l ((i + 1 : Nat) : Int) L Sa Na Aa L Sb Nb Ab else some (false, ())
  | 0, c, hc => by
    rw [ancepsref28_CheckWithin.l10_eq, ifB_not _ _ (decide_eq_false (by omega)), w64_succ (by omega)]; rfl
  | f + 1, c, hc => by
    have hc' : (c : Int) < L := by omega
    have hl8 := ha.l8
    rw [ancepsref28_CheckWithin.l10_eq, ifB_of _ _ (decide_eq_true hc'), next_f ha hp.1 hc', bindD_some, next_f hb hp.2 hc', bindD_some, w64_succ (by omega), rchk_l10 ha hb hl hp hi f (c + 1) (by omega)]
    simp only [clos]
    obtain ⟨k, hk1, hk2⟩ := index_f l (nx Na Nb p c) (by omega)
    have hk1 : ancepsref28_index.f l (stp Na p.1 c) (stp Nb p.2 c) = some (k, ()) := hk1
    have h1 : (nx Na Nb p c).1 = stp Na p.1 c := rfl
    rw [h1]
    cases decide (stp Na p.1 c ≥ 0) with
    | false => rfl
    | true =>
      rw [ifB_true, hk1, bindD_some]
      rcases hk2 with ⟨rfl, h3⟩ | ⟨j, rfl, h3⟩
      · rw [decide_eq_false h3]; rfl
      · rw [decide_eq_true (List.mem_of_getElem? h3), ifB_not _ _ (decide_eq_false (by omega))]; rfl

theorem rchk_l4 (ha : V L Sa Na Aa) (hb : V L Sb Nb Ab) {l : List Pr} (hl : l.length ≤ 160801) : ∀ (suf pre : List Pr), l = pre ++ suf →
    ancepsref28_CheckWithin.l4 l (pre.length : Nat) L Sa Na Aa L Sb Nb Ab = some (chkR L Na Nb Aa Ab l pre.getLast? suf, ())
  | [], pre, hp => by
    rw [ancepsref28_CheckWithin.l4_eq, ifB_not _ _ (decide_eq_false (by rw [hp]; simp))]; rfl
  | p :: suf, pre, hp => by
    have hat : l[pre.length]? = some p := by rw [hp]; simp
    have hll : pre.length < l.length := (List.getElem?_eq_some_iff.1 hat).1
    have hA := ha.a; have hB := hb.a; have hL1 := ha.l1
    have ih := rchk_l4 ha hb hl suf (pre ++ [p]) (by rw [hp]; simp)
    have hlast : (pre ++ [p]).getLast? = some p := by simp
    have hpl : (((pre ++ [p]).length : Nat) : Int) = ((pre.length + 1 : Nat) : Int) := by simp
    rw [hlast, hpl] at ih
    rw [ancepsref28_CheckWithin.l4_eq, ifB_of _ _ (decide_eq_true (by omega)), ixAt_nat, hat, bindD_some]
    simp only [chkR]
    by_cases g1 : p.1 < 0
    · rw [ifB_of _ _ (decide_eq_true g1)]; simp [rng, g1]
    by_cases g2 : p.1 ≥ ((Na.length : Nat) : Int)
    · rw [ifB_not _ _ (decide_eq_false g1), ifB_of _ _ (decide_eq_true g2)]; simp [rng, g1, g2]
    by_cases g3 : p.2 < -1
    · rw [ifB_not _ _ (decide_eq_false g1), ifB_not _ _ (decide_eq_false g2), ifB_of _ _ (decide_eq_true g3)]; simp [rng, g1, g2, g3]
    by_cases g4 : p.2 ≥ ((Nb.length : Nat) : Int)
    · rw [ifB_not _ _ (decide_eq_false g1), ifB_not _ _ (decide_eq_false g2), ifB_not _ _ (decide_eq_false g3), ifB_of _ _ (decide_eq_true g4)]; simp [rng, g1, g2, g3, g4]
    rw [ifB_not _ _ (decide_eq_false g1), ifB_not _ _ (decide_eq_false g2), ifB_not _ _ (decide_eq_false g3), ifB_not _ _ (decide_eq_false g4)]
    have hr : rng Na Nb p = true := by unfold rng; rw [decide_eq_false g1, decide_eq_false g2, decide_eq_false g3, decide_eq_false g4]; rfl
    have hpU := rng_U hr
    have h10 := rchk_l10 ha hb hl hpU (i := pre.length) (by omega) L.toNat 0 (by omega)
    rw [show ((0 : Nat) : Int) = 0 from rfl, ih] at h10
    rw [hr, racc_f (by have := hpU.1.2; omega), racc_f (by have := hpU.2.2; omega), h10]
    simp only [bindD_some, simu, bW]
    have rest : ifB (acc Aa p.1) (ifB (!acc Ab p.2) (some (false, ())) (bif clos Na Nb l p L.toNat 0 then some (chkR L Na Nb Aa Ab l (some p) suf, ()) else some (false, ()))) (bif clos Na Nb l p L.toNat 0 then some (chkR L Na Nb Aa Ab l (some p) suf, ()) else some (false, ())) =
        some (!(acc Aa p.1 && !acc Ab p.2) && clos Na Nb l p L.toNat 0 && chkR L Na Nb Aa Ab l (some p) suf, ()) := by
      cases acc Aa p.1 <;> cases acc Ab p.2 <;> cases clos Na Nb l p L.toNat 0 <;> rfl
    cases hpre : pre.getLast? with
    | none =>
      have : pre = [] := List.getLast?_eq_none_iff.1 hpre
      subst this
      rw [ifB_not _ _ (decide_eq_false (by simp)), rest]
      rfl
    | some q =>
      obtain ⟨ys, rfl⟩ : ∃ ys, pre = ys ++ [q] := List.getLast?_eq_some_iff.1 hpre
      have hq : l[ys.length]? = some q := by rw [hp]; simp
      have hw : IntKind.i64.wrap ((((ys ++ [q]).length : Nat) : Int) - 1) = ((ys.length : Nat) : Int) := by
        rw [w64 (by omega)]; simp
      rw [ifB_of _ _ (decide_eq_true (by simp)), hw, ixAt_nat, hq, bindD_some, rless_f, bindD_some, rest]
      show _ = some (true && less q p && _ && _, ())
      cases less q p <;> rfl

theorem check_same (ha : V L Sa Na Aa) (hb : V L Sb Nb Ab) (hv : errP L Sa Na Aa L Sb Nb Ab = true) {l : List Pr} (hl : l.length ≤ 160801) :
    difference_CheckWithin.f L Sa Na Aa L Sb Nb Ab l = some (chkA Na Nb none l && (l.all (simu L Na Nb Aa Ab l) && start Sa Sb l), ()) ∧
    ancepsref28_CheckWithin.f L Sa Na Aa L Sb Nb Ab l = some (chkA Na Nb none l && (l.all (simu L Na Nb Aa Ab l) && start Sa Sb l), ()) := by
  constructor
  · rw [difference_CheckWithin.f_eq, dvalid_f, hv, bindD_some, ifB_not _ _ (by rfl)]
    have := chk_l5 (L := L) (Sa := Sa) (Sb := Sb) (Na := Na) (Nb := Nb) (Aa := Aa) (Ab := Ab) hl l [] rfl
    simp only [List.length_nil] at this
    rw [show ((0 : Nat) : Int) = 0 from rfl] at this
    rw [this]
    show (bif chkA Na Nb none l then _ else _) = _
    cases hc : chkA Na Nb none l with
    | false => rfl
    | true =>
      have := chk_l11 ha hb (chkA_srt hc) hl (fun p hp => ((chkA_facts l none hc).1 p hp).1) l [] rfl
      simp only [List.length_nil] at this
      rw [show ((0 : Nat) : Int) = 0 from rfl] at this
      rw [cond_true, this]
      rfl
  · rw [ancepsref28_CheckWithin.f_eq, rvalid_f, hv, bindD_some, ifB_not _ _ (by rfl)]
    have := rchk_l4 ha hb hl l [] rfl
    simp only [List.length_nil] at this
    rw [show ((0 : Nat) : Int) = 0 from rfl] at this
    rw [this]
    show ifB _ (bindD _ fun t103 => ifB _ _ (some (chkR L Na Nb Aa Ab l none l, ()))) (some (chkR L Na Nb Aa Ab l none l, ())) = _
    rw [chkR_eq]
    obtain ⟨k, hk1, hk2⟩ := index_f l (Sa, Sb) (by omega)
    simp only at hk1
    rw [hk1]
    unfold start
    by_cases hS : Sa < 0
    · rw [ifB_not _ _ (decide_eq_false (by omega)), decide_eq_true hS]
      simp
    · rw [ifB_of _ _ (decide_eq_true (by omega)), decide_eq_false hS, bindD_some]
      rcases hk2 with ⟨rfl, h3⟩ | ⟨j, rfl, h3⟩
      · rw [decide_eq_false h3]; simp [ifB]
      · rw [decide_eq_true (List.mem_of_getElem? h3), ifB_not _ _ (decide_eq_false (by omega))]; simp

end
end Go.Proofs.C28
