/- CheckRelation: the law. -/
import Derived.Test.YtpminieacndmhaaM28m
set_option linter.unusedVariables false
set_option linter.unusedSimpArgs false
namespace Go.Proofs.C28.M
open Go Go.Proofs.R
set_option linter.unusedVariables false
set_option linter.unusedSimpArgs false
set_option maxRecDepth 100000

/-! ### the order of pairs -/
def cmpI (a b : Int) : Int := if a < b then -1 else if a > b then 1 else 0
def ordV (p q : Pr) : Int := if cmpI p.1 q.1 ≠ 0 then cmpI p.1 q.1 else cmpI p.2 q.2
def less (p q : Pr) : Bool := decide (p.1 < q.1) || (decide (p.1 = q.1) && decide (p.2 < q.2))
theorem less_iff (p q : Pr) : less p q = true ↔ p.1 < q.1 ∨ (p.1 = q.1 ∧ p.2 < q.2) := by
  unfold less; simp
theorem ord_lt (p q : Pr) : ordV p q < 0 ↔ less p q = true := by
  rw [less_iff]; unfold ordV cmpI
  repeat' split
  all_goals omega
theorem ord_eq (p q : Pr) : ordV p q = 0 ↔ p = q := by
  rw [Prod.ext_iff]; unfold ordV cmpI
  repeat' split
  all_goals omega
theorem less_trans {p q r : Pr} (h1 : less p q = true) (h2 : less q r = true) : less p r = true := by
  rw [less_iff] at h1 h2 ⊢; omega
theorem less_irr (p : Pr) : less p p = false := by
  rw [Bool.eq_false_iff]; intro h; rw [less_iff] at h; omega
theorem cmp_f (a b : Int) : cmp_Compare_int.f a b = some (cmpI a b, ()) := by
  rw [cmp_Compare_int.f_eq, cmp_isNaN_int.f_eq, cmp_isNaN_int.f_eq]
  simp only [bindD_some, bne_self_eq_false, ifB_false]
  unfold cmpI
  by_cases h1 : a < b
  · rw [ifB_of _ _ (decide_eq_true h1), if_pos h1]
  · rw [ifB_not _ _ (decide_eq_false h1), if_neg h1]
    by_cases h2 : a > b
    · rw [ifB_of _ _ (decide_eq_true h2), if_pos h2]
    · rw [ifB_not _ _ (decide_eq_false h2), if_neg h2]
theorem or_f (a b : Int) : cmp_Or_int.f [a, b] = some (if a ≠ 0 then a else b, ()) := by
  rw [cmp_Or_int.f_eq, cmp_Or_int.l3_eq, ifB_of _ _ (by simp)]
  rw [show ixAt [a, b] (0 : Int) = some a from rfl, bindD_some]
  by_cases h : a = 0
  · subst h
    rw [ifB_not _ _ (by decide), show IntKind.i64.wrap (0 + 1) = 1 by decide, cmp_Or_int.l3_eq, ifB_of _ _ (by simp), show ixAt [(0 : Int), b] (1 : Int) = some b from rfl, bindD_some]
    by_cases hb : b = 0
    · subst hb
      rw [ifB_not _ _ (by decide), show IntKind.i64.wrap (1 + 1) = 2 by decide, cmp_Or_int.l3_eq, ifB_not _ _ (by decide)]
      rfl
    · rw [ifB_of _ _ (bne_iff_ne.2 hb)]; rfl
  · rw [ifB_of _ _ (bne_iff_ne.2 h), if_pos h]
/-! ### the search -/
def Srt (l : List Pr) : Prop := ∀ (i j : Nat) (p q : Pr), i < j → l[i]? = some p → l[j]? = some q → less p q = true
theorem mid_f {i j : Nat} (h : i + j < 4611686018427387904) : IntKind.i64.wrap (shrInt .u64 (IntKind.u64.wrap (IntKind.i64.wrap ((i : Int) + (j : Int)))) 1) = (((i + j) / 2 : Nat) : Int) := by
  have h1 : IntKind.i64.wrap ((i : Int) + (j : Int)) = ((i + j : Nat) : Int) := by rw [show ((i : Int) + (j : Int)) = ((i + j : Nat) : Int) by simp]; exact w64_nat (by omega)
  have h2 : IntKind.u64.wrap ((i + j : Nat) : Int) = ((i + j : Nat) : Int) := IntWalk.u64_in _ (by omega)
  have h3 : shrInt .u64 ((i + j : Nat) : Int) 1 = (((i + j) / 2 : Nat) : Int) := by
    show Int.fdiv ((i + j : Nat) : Int) (2 ^ (min 1 64)) = _
    rw [Int.fdiv_eq_ediv_of_nonneg _ (by decide)]
    rw [Int.natCast_ediv]; rfl
  rw [h1, h2, h3]
  exact w64_nat (by omega)

def none2 (p : Pr) : Bool := decide (p.1 < 0) && decide (p.2 < 0)
def inR (l : List Pr) (p : Pr) : Bool := decide (p ∈ l) || none2 p
theorem none2_eq {p : Pr} (h : -1 ≤ p.1 ∧ -1 ≤ p.2) : ((p.1 == (-1 : Int)) && (p.2 == (-1 : Int))) = none2 p := by
  unfold none2
  by_cases h1 : p.1 < 0 <;> by_cases h2 : p.2 < 0
  · have e1 : p.1 = -1 := by omega
    have e2 : p.2 = -1 := by omega
    simp [e1, e2]
  · have : ¬ p.2 = -1 := by omega
    simp [h1, h2, this]
  · have : ¬ p.1 = -1 := by omega
    simp [h1, h2, this]
  · have : ¬ p.1 = -1 := by omega
    simp [h1, h2, this]
section
variable {L Sa Sb : Int} {Na Nb : LLI} {Aa Ab : LB}
def rng (Na Nb : LLI) (p : Pr) : Bool := !(decide (p.1 < -1)) && (!(decide (p.1 ≥ ((Na.length : Nat) : Int))) && (!(decide (p.2 < -1)) && !(decide (p.2 ≥ ((Nb.length : Nat) : Int))))) && !(none2 p)
def befo (o : Option Pr) (p : Pr) : Bool := match o with | none => true | some q => less q p
def chkA (Na Nb : LLI) : Option Pr → List Pr → Bool
  | _, [] => true
  | o, p :: l => befo o p && rng Na Nb p && chkA Na Nb (some p) l
def clos (Na Nb : LLI) (l : List Pr) (p : Pr) : Nat → Nat → Bool
  | 0, _ => true
  | f + 1, c => inR l (nx Na Nb p c) && clos Na Nb l p f (c + 1)
def simu (L : Int) (Na Nb : LLI) (Aa Ab : LB) (l : List Pr) (p : Pr) : Bool := (acc Aa p.1 == acc Ab p.2) && clos Na Nb l p L.toNat 0
def chkR (L : Int) (Na Nb : LLI) (Aa Ab : LB) (l : List Pr) : Option Pr → List Pr → Bool
  | _, [] => true
  | o, p :: r => rng Na Nb p && befo o p && simu L Na Nb Aa Ab l p && chkR L Na Nb Aa Ab l (some p) r
theorem chkR_eq (l : List Pr) : ∀ (r : List Pr) (o : Option Pr), chkR L Na Nb Aa Ab l o r = (chkA Na Nb o r && r.all (simu L Na Nb Aa Ab l))
  | [], _ => rfl
  | p :: r, o => by
    simp only [chkR, chkA, List.all_cons]
    rw [chkR_eq l r (some p)]
    cases rng Na Nb p <;> cases befo o p <;> cases simu L Na Nb Aa Ab l p <;> cases chkA Na Nb (some p) r <;> rfl
theorem rng_U {p : Pr} (h : rng Na Nb p = true) : inU Na Nb p := by
  unfold rng at h
  simp only [Bool.and_eq_true, Bool.not_eq_true', decide_eq_false_iff_not] at h
  unfold inU; omega
theorem chkA_facts : ∀ (l : List Pr) (o : Option Pr), chkA Na Nb o l = true → (∀ p ∈ l, inU Na Nb p ∧ befo o p = true) ∧ l.Pairwise (fun p q => less p q = true)
  | [], _, _ => ⟨by simp, List.Pairwise.nil⟩
  | p :: l, o, h => by
    simp only [chkA, Bool.and_eq_true] at h
    obtain ⟨h1, h2⟩ := chkA_facts l (some p) h.2
    refine ⟨?_, List.pairwise_cons.2 ⟨fun q hq => (h1 q hq).2, h2⟩⟩
    intro q hq
    rcases List.mem_cons.1 hq with rfl | hq
    · exact ⟨rng_U h.1.2, h.1.1⟩
    · refine ⟨(h1 q hq).1, ?_⟩
      have h3 := (h1 q hq).2
      cases o with
      | none => rfl
      | some x => exact less_trans h.1.1 h3
theorem chkA_srt {l : List Pr} (h : chkA Na Nb none l = true) : Srt l := by
  have := (chkA_facts l none h).2
  intro i j p q hij hp hq
  obtain ⟨h1, rfl⟩ := List.getElem?_eq_some_iff.1 hp
  obtain ⟨h2, rfl⟩ := List.getElem?_eq_some_iff.1 hq
  exact List.pairwise_iff_getElem.1 this i j h1 h2 hij

/-- the program's tests of a pair, in its order -/
theorem tests6 (p : Pr) (Y : Option (Bool × Unit)) :
    ifB ((p.1 == (-1 : Int)) && (p.2 == (-1 : Int))) (some (false, ())) (ifB (decide (p.1 < (-1 : Int))) (some (false, ())) (ifB (decide (p.1 ≥ ((Na.length : Nat) : Int))) (some (false, ())) (ifB (decide (p.2 < (-1 : Int))) (some (false, ())) (ifB (decide (p.2 ≥ ((Nb.length : Nat) : Int))) (some (false, ())) Y)))) =
    bif rng Na Nb p then Y else some (false, ()) := by
  unfold rng
  by_cases h1 : p.1 < -1
  · simp [h1, ifB]
  · by_cases h2 : p.2 < -1
    · simp [h2, ifB]
    · rw [none2_eq ⟨by omega, by omega⟩]
      cases none2 p <;> cases decide (p.1 < (-1 : Int)) <;> cases decide (p.1 ≥ (((List.length Na) : Nat) : Int)) <;> cases decide (p.2 < (-(1 : Int))) <;> cases decide (p.2 ≥ (((List.length Nb) : Nat) : Int)) <;> rfl

/-- what both texts check -/
def relB (L Sa Sb : Int) (Na Nb : LLI) (Aa Ab : LB) (l : List Pr) : Bool := inR l (Sa, Sb) && (chkA Na Nb none l && l.all (simu L Na Nb Aa Ab l))
theorem clos_all (l : List Pr) (p : Pr) : ∀ (f c : Nat), clos Na Nb l p f c = true → ∀ c', c ≤ c' → c' < c + f → inR l (nx Na Nb p c') = true
  | 0, c, _, c', h1, h2 => by omega
  | f + 1, c, h, c', h1, h2 => by
    simp only [clos, Bool.and_eq_true] at h
    by_cases e : c' = c
    · subst e; exact h.1
    · exact clos_all l p f (c + 1) h.2 c' (by omega) (by omega)
theorem rel_lang (ha : V L Sa Na Aa) (hb : V L Sb Nb Ab) {l : List Pr} (h : relB L Sa Sb Na Nb Aa Ab l = true) : lang L Na Aa Sa = lang L Nb Ab Sb := by
  unfold relB at h
  simp only [Bool.and_eq_true, List.all_eq_true] at h
  obtain ⟨h1, h2, h3⟩ := h
  have key : ∀ (w : List Nat) (p : Pr), inR l p = true → Wd L w → acc Aa (run Na p.1 w) = acc Ab (run Nb p.2 w) := by
    intro w
    induction w with
    | nil =>
      intro p hp _
      unfold inR at hp
      simp only [Bool.or_eq_true, decide_eq_true_eq] at hp
      rcases hp with hp | hp
      · have := h3 p hp
        unfold simu at this
        simp only [Bool.and_eq_true, beq_iff_eq] at this
        exact this.1
      · unfold none2 at hp
        simp only [Bool.and_eq_true, decide_eq_true_eq] at hp
        show acc Aa p.1 = acc Ab p.2
        rw [acc_neg hp.1, acc_neg hp.2]
    | cons c w ih =>
      intro p hp hw
      have hc : (c : Int) < L := hw c List.mem_cons_self
      refine ih (nx Na Nb p c) ?_ (fun x hx => hw x (List.mem_cons_of_mem _ hx))
      unfold inR at hp
      simp only [Bool.or_eq_true, decide_eq_true_eq] at hp
      rcases hp with hp | hp
      · have := h3 p hp
        unfold simu at this
        simp only [Bool.and_eq_true, beq_iff_eq] at this
        exact clos_all l p L.toNat 0 this.2 c (by omega) (by omega)
      · unfold none2 at hp
        simp only [Bool.and_eq_true, decide_eq_true_eq] at hp
        unfold inR none2 nx
        rw [stp_neg hp.1, stp_neg hp.2]; simp
  funext w
  unfold lang
  cases hw : wdB L w with
  | false => rfl
  | true => rw [key w (Sa, Sb) h1 (wdB_iff.1 hw)]

end
end Go.Proofs.C28.M
