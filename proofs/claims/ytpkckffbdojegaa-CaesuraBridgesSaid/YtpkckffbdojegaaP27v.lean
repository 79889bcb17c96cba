/- Plain words for the chapter of breaks, Bridges: automata and their errors. -/
import Derived.Test.YtpkckffbdojegaaK27B
import Derived.Test.YtpkckffbdojegaaMachine4
set_option linter.unusedVariables false
set_option linter.unusedSimpArgs false
namespace Go.Proofs.K27
open Go Go.Proofs.R
set_option linter.unusedVariables false
set_option linter.unusedSimpArgs false
set_option maxRecDepth 100000

theorem lt_at {α : Type} (p : List α) (x : α) (s : List α) : decide (((List.length p : Nat) : Int) < ((List.length (p ++ x :: s) : Nat) : Int)) = true := by
  apply decide_eq_true; simp only [List.length_append, List.length_cons]; omega
theorem lt_end {α : Type} (p : List α) : decide (((List.length p : Nat) : Int) < ((List.length (p ++ []) : Nat) : Int)) = false := by
  apply decide_eq_false; simp
theorem w_at {α : Type} {p : List α} {x : α} {s : List α} (h : (p ++ x :: s).length < 4611686018427387904) : IntKind.i64.wrap (((List.length p : Nat) : Int) + 1) = ((List.length (p ++ [x]) : Nat) : Int) := by
  simp only [List.length_append, List.length_cons] at h
  rw [w64_succ (by omega)]; simp
theorem app_at {α : Type} (p : List α) (x : α) (s : List α) : p ++ x :: s = (p ++ [x]) ++ s := by simp

theorem awake_f : ancepslaw27_awake.f = some (true, ()) := by
  unfold ancepslaw27_awake.f
  exact (Einf_call_iff ctx).2 ⟨80, by kernel_rfl⟩
abbrev LLI := List (List Int)
abbrev LB := List Bool

/-! ### errors -/
def badT (n : Nat) (t : Int) : Bool := decide (t < -1) || decide (t ≥ (n : Int))
def rowOk (L : Int) (n : Nat) (r : List Int) : Bool := ((r.length : Nat) : Int) == L && !(r.any (badT n))
def headOk (L S : Int) (N : LLI) (A : LB) : Bool :=
  !(decide (L < 1)) && !(decide (L > 8)) && !(decide (((N.length : Nat) : Int) > 400)) && (((A.length : Nat) : Int) == ((N.length : Nat) : Int)) &&
    (bif decide (S < 0) then N.isEmpty && (S == -1) else !(decide (S ≥ ((N.length : Nat) : Int))))
def ok (L S : Int) (N : LLI) (A : LB) : Bool := headOk L S N A && N.all (rowOk L N.length)
def errN (b : Bool) : Int := bif b then 0 else 1

theorem bad_f (t : Int) (n : Nat) : automaton_Valid_1.f t (n : Int) = some (badT n t, ()) := by
  rw [automaton_Valid_1.f_eq]; unfold badT
  cases decide (t < -1) <;> rfl
theorem index_l2 (n : Nat) : ∀ (suf pre : List Int), (pre ++ suf).length < 4611686018427387904 →
    ∃ i : Int, slices_IndexFunc_int_int.l2_3 (pre ++ suf) (n : Int) ((pre ++ suf).length : Nat) (pre.length : Nat) = some (i, ()) ∧ decide (i ≥ 0) = suf.any (badT n)
  | [], pre, h => by rw [slices_IndexFunc_int_int.l2_3_eq, ifB_not _ _ (lt_end pre)]; exact ⟨-1, rfl, rfl⟩
  | x :: suf, pre, h => by
    rw [slices_IndexFunc_int_int.l2_3_eq, ifB_of _ _ (lt_at pre x suf), ixAt_at, bindD_some, bad_f, bindD_some]
    cases hb : badT n x with
    | true => exact ⟨_, rfl, by simp [hb]⟩
    | false =>
      obtain ⟨i, h1, h2⟩ := index_l2 n suf (pre ++ [x]) (by rw [← app_at]; exact h)
      refine ⟨i, ?_, by simp [hb, h2]⟩
      rw [w_at h, app_at pre x suf]; exact h1
theorem has_bad (n : Nat) (r : List Int) (h : r.length < 4611686018427387904) : slices_ContainsFunc_int_int.f3 r (n : Int) = some (r.any (badT n), ()) := by
  obtain ⟨i, h1, h2⟩ := index_l2 n r [] (by simpa using h)
  rw [slices_ContainsFunc_int_int.f3_eq, slices_IndexFunc_int_int.f3_eq]
  simp only [List.nil_append, List.length_nil] at h1
  rw [show ((0 : Nat) : Int) = 0 from rfl] at h1
  rw [h1]; simp only [bindD_some, h2]

theorem rows_l7 (L S : Int) (N' : LLI) (A : LB) (n : Nat) (hL : L ≤ 8) : ∀ (suf pre : LLI), (pre ++ suf).length < 4611686018427387904 →
    automaton_Valid.l7 (pre ++ suf) ((pre ++ suf).length : Nat) (pre.length : Nat) L S N' A (n : Int) = some (errN (suf.all (rowOk L n)), ())
  | [], pre, h => by rw [automaton_Valid.l7_eq, ifB_not _ _ (lt_end pre)]; rfl
  | x :: suf, pre, h => by
    rw [automaton_Valid.l7_eq, ifB_of _ _ (lt_at pre x suf), ixAt_at, bindD_some]
    by_cases hx : ((x.length : Nat) : Int) = L
    · rw [ifB_not _ _ (by simp [hx]), has_bad n x (by omega), bindD_some]
      cases hb : x.any (badT n) with
      | true => simp [ifB, rowOk, hx, hb, errN]
      | false =>
        rw [ifB_false, w_at h, app_at pre x suf, rows_l7 L S N' A n hL suf (pre ++ [x]) (by rw [← app_at]; exact h)]
        simp [rowOk, hx, hb, List.all_cons]
    · rw [ifB_of _ _ (bne_iff_ne.2 hx)]
      simp [rowOk, beq_eq_false_iff_ne.2 hx, errN]

theorem valid_f (L S : Int) (N : LLI) (A : LB) : automaton_Valid.f L S N A = some (errN (ok L S N A), ()) := by
  rw [automaton_Valid.f_eq]
  unfold ok headOk
  by_cases h1 : L < 1
  · simp [h1, ifB, errN]
  by_cases h2 : L > 8
  · simp [h1, h2, ifB, errN]
  by_cases h3 : ((N.length : Nat) : Int) > 400
  · simp [h1, h2, h3, ifB, errN]
  by_cases h4 : ((A.length : Nat) : Int) = ((N.length : Nat) : Int)
  case neg => simp [h1, h2, h3, beq_eq_false_iff_ne.2 h4, bne_iff_ne.2 h4, ifB, errN]
  have hl := rows_l7 L S N A N.length (by omega) N [] (by simp only [List.nil_append]; omega)
  simp only [List.nil_append, List.length_nil] at hl
  rw [show ((0 : Nat) : Int) = 0 from rfl] at hl
  rw [hl]
  by_cases h5 : S < 0
  · by_cases h6 : ((N.length : Nat) : Int) > 0
    · have : N.isEmpty = false := by cases N <;> simp_all
      have h6' : 0 < N.length := by omega
      simp [h1, h2, h3, h4, h5, h6', ifB, errN, this]
    · have h7 : N = [] := by cases N with
        | nil => rfl
        | cons a b => simp only [List.length_cons] at h6; omega
      subst h7
      by_cases h8 : S = -1
      · subst h8
        simp [h1, h2, h4, ifB, errN]
      · simp [h1, h2, h4, h5, ifB, errN, beq_eq_false_iff_ne.2 h8, bne_iff_ne.2 h8]
  · by_cases h6 : S ≥ ((N.length : Nat) : Int)
    · simp [h1, h2, h3, h4, h5, h6, ifB, errN]
    · simp [h1, h2, h3, h4, h5, h6, ifB, errN]

/-! the reference's -/
theorem ref_l12 (L S : Int) (A : LB) (N : LLI) (i n : Nat) (R : Option (Int × Unit)) (x : List Int) (hx : N[i]? = some x) (hN : N.length < 4611686018427387904) (hL : (x.length : Int) = L) (hL8 : L ≤ 8) :
    ∀ (suf pre : List Int), x = pre ++ suf → ancepsref06_Valid.l7 (n : Int) (IntKind.i64.wrap ((i : Int) + 1)) L S N A = R →
    ancepsref06_Valid.l12 (n : Int) (i : Int) (pre.length : Nat) L S N A = bif suf.any (badT n) then some (1, ()) else R
  | [], pre, hp, hR => by
    rw [ancepsref06_Valid.l12_eq, ifB_not _ _ (by apply decide_eq_false; subst hp; simp at hL; omega)]
    exact hR
  | t :: suf, pre, hp, hR => by
    rw [ancepsref06_Valid.l12_eq, ifB_of _ _ (by apply decide_eq_true; subst hp; simp at hL; omega), ixAt_nat, hx]
    simp only [bindD_some]
    rw [hp, ixAt_at]
    simp only [bindD_some]
    by_cases h1 : t < -1
    · simp [ifB, badT, h1]
    · by_cases h2 : t ≥ (n : Int)
      · simp [ifB, badT, h1, h2]
      · rw [ifB_not _ _ (decide_eq_false h1), ifB_not _ _ (decide_eq_false h2)]
        have hlen : (pre ++ t :: suf).length < 4611686018427387904 := by rw [← hp]; omega
        rw [w_at hlen, ref_l12 L S A N i n R x hx hN hL hL8 suf (pre ++ [t]) (by rw [hp]; simp) hR]
        simp [badT, h1, h2]

theorem ref_l7 (L S : Int) (A : LB) (n : Nat) (hL8 : L ≤ 8) : ∀ (suf pre : LLI), (pre ++ suf).length = n → n < 4611686018427387904 →
    ancepsref06_Valid.l7 (n : Int) (pre.length : Nat) L S (pre ++ suf) A = some (errN (suf.all (rowOk L n)), ())
  | [], pre, h, h' => by
    rw [ancepsref06_Valid.l7_eq, ifB_not _ _ (by apply decide_eq_false; simp at h; omega)]; rfl
  | x :: suf, pre, h, h' => by
    rw [ancepsref06_Valid.l7_eq, ifB_of _ _ (by apply decide_eq_true; simp at h; omega), ixAt_at, bindD_some]
    by_cases hx : ((x.length : Nat) : Int) = L
    · rw [ifB_not _ _ (by simp [hx])]
      have hi := ref_l7 L S A n hL8 suf (pre ++ [x]) (by rw [← app_at]; exact h) h'
      rw [← app_at] at hi
      have := ref_l12 L S A (pre ++ x :: suf) pre.length n _ x (by simp) (by omega) hx hL8 x [] rfl (by rw [w_at (x := x) (s := suf) (by omega)])
      simp only [List.length_nil] at this
      rw [show ((0 : Nat) : Int) = 0 from rfl] at this
      rw [this, hi]
      cases hb : x.any (badT n) with
      | true => simp [rowOk, hx, hb, errN]
      | false => simp [rowOk, hx, hb, List.all_cons]
    · rw [ifB_of _ _ (bne_iff_ne.2 hx)]
      simp [rowOk, beq_eq_false_iff_ne.2 hx, errN]

theorem ref_valid_f (L S : Int) (N : LLI) (A : LB) : ancepsref06_Valid.f L S N A = some (errN (ok L S N A), ()) := by
  rw [ancepsref06_Valid.f_eq]
  unfold ok headOk
  by_cases h1 : L < 1
  · simp [h1, ifB, errN]
  by_cases h2 : L > 8
  · simp [h1, h2, ifB, errN]
  by_cases h3 : ((N.length : Nat) : Int) > 400
  · simp [h1, h2, h3, ifB, errN]
  by_cases h4 : ((A.length : Nat) : Int) = ((N.length : Nat) : Int)
  case neg => simp [h1, h2, h3, beq_eq_false_iff_ne.2 h4, bne_iff_ne.2 h4, ifB, errN]
  have hl := ref_l7 L S A N.length (by omega) N [] rfl (by omega)
  simp only [List.nil_append, List.length_nil] at hl
  rw [show ((0 : Nat) : Int) = 0 from rfl] at hl
  rw [hl]
  by_cases h6 : N = []
  · subst h6
    by_cases h8 : S = -1
    · subst h8
      simp [h1, h2, h4, ifB, errN]
    · by_cases h5 : S < 0
      · simp [h1, h2, h4, h5, ifB, errN, beq_eq_false_iff_ne.2 h8, bne_iff_ne.2 h8]
      · have h5' : 0 ≤ S := by omega
        simp [h1, h2, h4, h5, h5', ifB, errN, beq_eq_false_iff_ne.2 h8, bne_iff_ne.2 h8]
  · have h7 : 0 < N.length := List.length_pos_iff.2 h6
    have h7' : (((N.length : Nat) : Int) == 0) = false := beq_eq_false_iff_ne.2 (by omega)
    have hie : N.isEmpty = false := by cases N <;> simp_all
    by_cases h5 : S < 0
    · simp [h1, h2, h3, h4, h5, h7, h7', ifB, errN, hie]
    · by_cases h8 : S ≥ ((N.length : Nat) : Int)
      · simp [h1, h2, h3, h4, h5, h7, h7', h8, ifB, errN, hie]
      · simp [h1, h2, h3, h4, h5, h7, h7', h8, ifB, errN, hie]

/-- what is known of an automaton without error -/
structure V (L S : Int) (N : LLI) (A : LB) : Prop where
  l1 : 1 ≤ L
  l8 : L ≤ 8
  n : N.length ≤ 400
  a : A.length = N.length
  s : -1 ≤ S ∧ S < N.length
  row : ∀ r ∈ N, (r.length : Int) = L ∧ ∀ t ∈ r, -1 ≤ t ∧ t < N.length

theorem V_of {L S : Int} {N : LLI} {A : LB} (h : ok L S N A = true) : V L S N A := by
  unfold ok headOk at h
  simp only [Bool.and_eq_true, Bool.not_eq_true', decide_eq_false_iff_not, beq_iff_eq, List.all_eq_true] at h
  obtain ⟨⟨⟨⟨⟨h1, h2⟩, h3⟩, h4⟩, h5⟩, h6⟩ := h
  refine ⟨by omega, by omega, by omega, by omega, ?_, ?_⟩
  · by_cases hs : S < 0
    · rw [decide_eq_true hs] at h5
      simp at h5
      obtain ⟨rfl, rfl⟩ := h5
      simp
    · rw [decide_eq_false hs] at h5
      simp at h5
      omega
  · intro r hr
    have := h6 r hr
    unfold rowOk at this
    simp only [Bool.and_eq_true, beq_iff_eq, Bool.not_eq_true', List.any_eq_false] at this
    refine ⟨this.1, fun t ht => ?_⟩
    have := this.2 t ht
    unfold badT at this
    simp only [Bool.or_eq_true, decide_eq_true_eq, not_or] at this
    omega

theorem ixAt_int {α : Type} (xs : List α) {s : Int} (h : 0 ≤ s) : ixAt xs s = xs[s.toNat]? := by unfold ixAt; rw [if_pos h]

def sumL (N : LLI) : Nat := (N.map List.length).sum
theorem few_l5 (L S : Int) (A : LB) : ∀ (suf pre : LLI) (n : Nat), (pre ++ suf).length ≤ 410 → n + sumL suf < 4611686018427387904 →
    ancepsref06_Few.l5 (n : Int) (pre.length : Nat) L S (pre ++ suf) A = some (decide (((n + sumL suf : Nat) : Int) ≤ 1700), ())
  | [], pre, n, h, h2 => by rw [ancepsref06_Few.l5_eq, ifB_not _ _ (lt_end pre)]; simp [sumL]
  | x :: suf, pre, n, h, h2 => by
    simp only [sumL, List.map_cons, List.sum_cons] at h2
    have := few_l5 L S A suf (pre ++ [x]) (n + x.length) (by rw [← app_at]; exact h) (by unfold sumL; omega)
    rw [← app_at] at this
    rw [ancepsref06_Few.l5_eq, ifB_of _ _ (lt_at pre x suf), ixAt_at, bindD_some, w_at (p := pre) (x := x) (s := suf) (by omega), w64 (by omega), show ((n : Int) + (x.length : Int)) = ((n + x.length : Nat) : Int) by omega, this]
    simp [sumL, Nat.add_assoc]
theorem sum_le (N : LLI) (M : Nat) (h : ∀ r ∈ N, r.length ≤ M) : sumL N ≤ N.length * M := by
  induction N with
  | nil => simp [sumL]
  | cons x N ih =>
    have h1 := h x List.mem_cons_self
    have h2 := ih fun r hr => h r (List.mem_cons_of_mem _ hr)
    simp only [sumL, List.map_cons, List.sum_cons, List.length_cons] at h2 ⊢
    rw [Nat.add_mul]; omega
theorem sum_mem {N : LLI} {r : List Int} (h : r ∈ N) : r.length ≤ sumL N := by
  induction N with
  | nil => cases h
  | cons x N ih =>
    simp only [sumL, List.map_cons, List.sum_cons]
    rcases List.mem_cons.1 h with rfl | h
    · omega
    · have := ih h; unfold sumL at this; omega
/-- the guard: small, in fact -/
structure Small (N : LLI) (A : LB) : Prop where
  n : N.length ≤ 410
  a : A.length ≤ 420
  r : ∀ r ∈ N, r.length ≤ 1700
theorem few_f (L S : Int) (N : LLI) (A : LB) (hN : ∀ r ∈ N, r.length ≤ 140737488351232) : ∃ b, ancepsref06_Few.f L S N A = some (b, ()) ∧ (b = true → Small N A) := by
  rw [ancepsref06_Few.f_eq]
  by_cases h1 : ((N.length : Nat) : Int) > 410
  · exact ⟨false, by rw [ifB_of _ _ (decide_eq_true h1)], fun h => by cases h⟩
  · by_cases h2 : ((A.length : Nat) : Int) > 420
    · exact ⟨false, by rw [ifB_not _ _ (decide_eq_false h1), ifB_of _ _ (decide_eq_true h2)], fun h => by cases h⟩
    · have hs := sum_le N _ hN
      have hm : N.length * 140737488351232 ≤ 410 * 140737488351232 := Nat.mul_le_mul_right _ (by omega)
      have := few_l5 L S A N [] 0 (by simpa using (by omega : N.length ≤ 410)) (by omega)
      simp only [List.nil_append, List.length_nil, Nat.zero_add] at this
      rw [show ((0 : Nat) : Int) = 0 from rfl] at this
      refine ⟨_, by rw [ifB_not _ _ (decide_eq_false h1), ifB_not _ _ (decide_eq_false h2), this], fun h => ?_⟩
      have h3 := of_decide_eq_true h
      exact ⟨by omega, by omega, fun r hr => by have := sum_mem hr; omega⟩

end Go.Proofs.K27
