/- Automata with choices: which are valid. -/
import Derived.Test.YtmbloefhgkhoaaaM07l
set_option linter.unusedVariables false
set_option linter.unusedSimpArgs false
namespace Go.Proofs.C07
open Go Go.Proofs.R
set_option linter.unusedVariables false
set_option linter.unusedSimpArgs false
set_option maxRecDepth 100000

abbrev Ed := Int × (Int × Int)
open M (lt_at lt_end w_at app_at)
theorem w_pre {α : Type} (p : List α) (x : α) (h : p.length < 4611686018427387903) : IntKind.i64.wrap (((List.length p : Nat) : Int) + 1) = ((List.length (p ++ [x]) : Nat) : Int) := by
  rw [w64 (by omega)]; simp
theorem grow_one {α β : Type} (l : List α) {x : β} (h : l.length < 4294967296) : grow (l.length + [x].length) = some () := grow_ok (by simp only [List.length_singleton]; omega)
theorem prevG {α : Type} {p : List α} {last : α} {suf : List α} (h : (p ++ [last] ++ suf).length < 1000000) : ixAt (p ++ [last] ++ suf) (IntKind.i64.wrap ((((p ++ [last]).length : Nat) : Int) - 1)) = some last := by
  have hw : IntKind.i64.wrap ((((p ++ [last]).length : Nat) : Int) - 1) = (p.length : Int) := by
    rw [List.length_append, List.length_singleton]
    rw [w64 (by simp only [List.length_append, List.length_cons, List.length_nil] at h; omega)]; omega
  rw [hw, List.append_assoc]; exact ixAt_at p last _
theorem pos_app {α : Type} (p : List α) (x : α) : decide ((((p ++ [x]).length : Nat) : Int) > 0) = true := decide_eq_true (by simp only [List.length_append, List.length_singleton]; omega)

/-! lists that ascend -/
def ascP (S : Int) : Option Int → List Int → Bool
  | _, [] => true
  | p, x :: l => (decide (0 ≤ x) && decide (x < S)) && ((match p with | none => true | some y => decide (y < x)) && ascP S (some x) l)
def Bef {α : Type} (pre : List α) (pv : Option α) : Prop := (pre = [] ∧ pv = none) ∨ ∃ p y, pre = p ++ [y] ∧ pv = some y
theorem asc_l2 (S : Int) : ∀ (suf pre : List Int) (pv : Option Int), Bef pre pv → (pre ++ suf).length < 1000000 →
    nondet_ascends.l2 (pre ++ suf) S (pre ++ suf) ((pre ++ suf).length : Nat) (pre.length : Nat) = some (ascP S pv suf, ())
  | [], pre, pv, hb, h => by rw [nondet_ascends.l2_eq, ifB_not _ _ (lt_end pre)]; rfl
  | x :: suf, pre, pv, hb, h => by
    have hl : pre.length < 1000000 := by simp only [List.length_append] at h; omega
    have ih := asc_l2 S suf (pre ++ [x]) (some x) (.inr ⟨pre, x, rfl, rfl⟩) (by rw [← app_at]; exact h)
    rw [nondet_ascends.l2_eq, ifB_of _ _ (lt_at pre x suf), ixAt_at, bindD_some, w_pre pre x (by omega)]
    simp only [ascP]
    by_cases h1 : x < 0
    · rw [ifB_of _ _ (decide_eq_true h1), decide_eq_false (by omega : ¬ 0 ≤ x)]; rfl
    rw [ifB_not _ _ (decide_eq_false h1), decide_eq_true (by omega : 0 ≤ x)]
    by_cases h2 : x ≥ S
    · rw [ifB_of _ _ (decide_eq_true h2), decide_eq_false (by omega : ¬ x < S)]; rfl
    rw [ifB_not _ _ (decide_eq_false h2), decide_eq_true (by omega : x < S)]
    rcases hb with ⟨rfl, rfl⟩ | ⟨p, y, rfl, rfl⟩
    · rw [ifB_not _ _ (by simp)]
      rw [List.nil_append] at ih ⊢
      exact ih
    · rw [ifB_of _ _ (pos_app p y), prevG h, bindD_some]
      by_cases h3 : y ≥ x
      · rw [ifB_of _ _ (decide_eq_true h3)]; simp only [decide_eq_false (by omega : ¬ y < x)]; rfl
      · rw [ifB_not _ _ (decide_eq_false h3)]; simp only [decide_eq_true (by omega : y < x)]
        rw [app_at (p ++ [y]) x suf]; exact ih
theorem asc_f (S : Int) {l : List Int} (h : l.length < 1000000) : nondet_ascends.f l S = some (ascP S none l, ()) := by
  have := asc_l2 S l [] none (.inl ⟨rfl, rfl⟩) h
  rw [nondet_ascends.f_eq]; exact this
theorem rasc_l2 (S : Int) : ∀ (suf pre : List Int) (pv : Option Int), Bef pre pv → (pre ++ suf).length < 1000000 →
    ancepsref07_ascending.l2 (pre ++ suf) S (pre.length : Nat) = some (ascP S pv suf, ())
  | [], pre, pv, hb, h => by rw [ancepsref07_ascending.l2_eq, ifB_not _ _ (lt_end pre)]; rfl
  | x :: suf, pre, pv, hb, h => by
    have hl : pre.length < 1000000 := by simp only [List.length_append] at h; omega
    have ih := rasc_l2 S suf (pre ++ [x]) (some x) (.inr ⟨pre, x, rfl, rfl⟩) (by rw [← app_at]; exact h)
    rw [ancepsref07_ascending.l2_eq, ifB_of _ _ (lt_at pre x suf), ixAt_at]
    simp only [bindD_some]
    rw [w_pre pre x (by omega)]
    simp only [ascP]
    by_cases h1 : x < 0
    · rw [ifB_of _ _ (decide_eq_true h1), decide_eq_false (by omega : ¬ 0 ≤ x)]; rfl
    rw [ifB_not _ _ (decide_eq_false h1), decide_eq_true (by omega : 0 ≤ x)]
    by_cases h2 : x ≥ S
    · rw [ifB_of _ _ (decide_eq_true h2), decide_eq_false (by omega : ¬ x < S)]; rfl
    rw [ifB_not _ _ (decide_eq_false h2), decide_eq_true (by omega : x < S)]
    rcases hb with ⟨rfl, rfl⟩ | ⟨p, y, rfl, rfl⟩
    · rw [ifB_not _ _ (by simp)]
      rw [List.nil_append] at ih ⊢
      exact ih
    · rw [ifB_of _ _ (pos_app p y), prevG h, bindD_some]
      by_cases h3 : x ≤ y
      · rw [ifB_of _ _ (decide_eq_true h3)]; simp only [decide_eq_false (by omega : ¬ y < x)]; rfl
      · rw [ifB_not _ _ (decide_eq_false h3)]; simp only [decide_eq_true (by omega : y < x)]
        rw [app_at (p ++ [y]) x suf]; exact ih
theorem rasc_f (S : Int) {l : List Int} (h : l.length < 1000000) : ancepsref07_ascending.f l S = some (ascP S none l, ()) := by
  have := rasc_l2 S l [] none (.inl ⟨rfl, rfl⟩) h
  rw [ancepsref07_ascending.f_eq]; exact this

/-! edges in order -/
def aheadB (a b : Ed) : Bool := bif a.1 != b.1 then decide (a.1 < b.1) else bif a.2.1 != b.2.1 then decide (a.2.1 < b.2.1) else decide (a.2.2 < b.2.2)
def edB (L S : Int) (x : Ed) : Bool := (decide (0 ≤ x.1) && decide (x.1 < S)) && ((decide (0 ≤ x.2.2) && decide (x.2.2 < S)) && (decide (-1 ≤ x.2.1) && decide (x.2.1 < L)))
def edP (L S : Int) : Option Ed → List Ed → Bool
  | _, [] => true
  | p, x :: l => edB L S x && ((match p with | none => true | some y => aheadB y x) && edP L S (some x) l)
def errN (b : Bool) : Int := bif b then 0 else 1
def cmpI (a b : Int) : Int := if a < b then -1 else if a > b then 1 else 0
theorem cmp_f (a b : Int) : cmp_Compare_int.f a b = some (cmpI a b, ()) := by
  rw [cmp_Compare_int.f_eq, cmp_isNaN_int.f_eq, cmp_isNaN_int.f_eq]; unfold cmpI
  simp only [bindD_some, bne_self_eq_false, ifB_false]
  by_cases h1 : a < b
  · rw [ifB_of _ _ (decide_eq_true h1), if_pos h1]
  · rw [ifB_not _ _ (decide_eq_false h1), if_neg h1]
    by_cases h2 : a > b
    · rw [ifB_of _ _ (decide_eq_true h2), if_pos h2]
    · rw [ifB_not _ _ (decide_eq_false h2), if_neg h2]
theorem or3_f (a b c : Int) : cmp_Or_int.f [a, b, c] = some (bif a != 0 then a else bif b != 0 then b else c, ()) := by
  rw [cmp_Or_int.f_eq]
  rw [cmp_Or_int.l3_eq, show ixAt [a, b, c] 0 = some a from rfl]
  simp only [bindD_some]
  rw [ifB_of _ _ (by rfl)]
  cases h1 : (a != 0)
  · simp only [ifB_false, cond_false]
    rw [show IntKind.i64.wrap ((0 : Int) + 1) = 1 from by decide]
    rw [cmp_Or_int.l3_eq, show ixAt [a, b, c] 1 = some b from rfl]
    simp only [bindD_some]
    rw [ifB_of _ _ (by rfl)]
    cases h2 : (b != 0)
    · simp only [ifB_false, cond_false]
      rw [show IntKind.i64.wrap ((1 : Int) + 1) = 2 from by decide]
      rw [cmp_Or_int.l3_eq, show ixAt [a, b, c] 2 = some c from rfl]
      simp only [bindD_some]
      rw [ifB_of _ _ (by rfl)]
      cases h3 : (c != 0)
      · simp only [ifB_false]
        rw [show IntKind.i64.wrap ((2 : Int) + 1) = 3 from by decide]
        rw [cmp_Or_int.l3_eq, ifB_not _ _ (by rfl)]
        have : c = 0 := by simpa using h3
        rw [this]
      · simp only [ifB_true]
    · simp only [ifB_true, cond_true]
  · simp only [ifB_true, cond_true]
theorem cmpI_ne (a b : Int) : (cmpI a b != 0) = (a != b) := by
  unfold cmpI
  by_cases h1 : a < b
  · rw [if_pos h1]; have : a ≠ b := by omega
    rw [(bne_iff_ne).2 this]; rfl
  · rw [if_neg h1]
    by_cases h2 : a > b
    · rw [if_pos h2]; have : a ≠ b := by omega
      rw [(bne_iff_ne).2 this]; rfl
    · rw [if_neg h2]; have : a = b := by omega
      subst this; simp
theorem cmpI_ge (a b : Int) : decide (cmpI a b ≥ 0) = !decide (a < b) := by
  unfold cmpI
  by_cases h1 : a < b
  · rw [if_pos h1, decide_eq_true h1]; rfl
  · rw [if_neg h1, decide_eq_false h1]
    by_cases h2 : a > b
    · rw [if_pos h2]; rfl
    · rw [if_neg h2]; rfl
theorem order_f (a b : Ed) : ∃ k, nondet_order.f a.1 a.2.1 a.2.2 b.1 b.2.1 b.2.2 = some (k, ()) ∧ decide (k ≥ 0) = !aheadB a b := by
  refine ⟨_, by rw [nondet_order.f_eq, cmp_f, cmp_f, cmp_f]; simp only [bindD_some]; rw [or3_f, bindD_some], ?_⟩
  rw [cmpI_ne, cmpI_ne]; unfold aheadB
  cases (a.1 != b.1) <;> cases (a.2.1 != b.2.1) <;> exact cmpI_ge _ _
theorem ahead_f (a b : Ed) : ancepsref07_ahead.f a.1 a.2.1 a.2.2 b.1 b.2.1 b.2.2 = some (aheadB a b, ()) := by
  rw [ancepsref07_ahead.f_eq]; unfold aheadB
  cases (a.1 != b.1) <;> cases (a.2.1 != b.2.1) <;> rfl
theorem edB_false {L S : Int} {x : Ed} (h : ¬ (0 ≤ x.1 ∧ x.1 < S ∧ 0 ≤ x.2.2 ∧ x.2.2 < S ∧ -1 ≤ x.2.1 ∧ x.2.1 < L)) : edB L S x = false := by
  cases he : edB L S x with
  | false => rfl
  | true => exact absurd (by simpa [edB, and_assoc] using he) h
theorem edB_true {L S : Int} {x : Ed} (h : 0 ≤ x.1 ∧ x.1 < S ∧ 0 ≤ x.2.2 ∧ x.2.2 < S ∧ -1 ≤ x.2.1 ∧ x.2.1 < L) : edB L S x = true := by
  simpa [edB, and_assoc] using h
theorem valid_l6 (L S : Int) (St Ac : List Int) : ∀ (suf pre : List Ed) (pv : Option Ed), Bef pre pv → (pre ++ suf).length < 1000000 →
    nondet_Valid.l6 (pre ++ suf) ((pre ++ suf).length : Nat) (pre.length : Nat) L S St (pre ++ suf) Ac = some (errN (edP L S pv suf), ())
  | [], pre, pv, hb, h => by rw [nondet_Valid.l6_eq, ifB_not _ _ (lt_end pre)]; rfl
  | x :: suf, pre, pv, hb, h => by
    have hl : pre.length < 1000000 := by simp only [List.length_append] at h; omega
    have ih := valid_l6 L S St Ac suf (pre ++ [x]) (some x) (.inr ⟨pre, x, rfl, rfl⟩) (by rw [← app_at]; exact h)
    rw [nondet_Valid.l6_eq, ifB_of _ _ (lt_at pre x suf), ixAt_at, bindD_some, w_pre pre x (by omega)]
    have bad : ∀ {b : Bool}, edB L S x = false → errN (edB L S x && b) = 1 := fun h => by rw [h]; rfl
    simp only [edP]
    by_cases h1 : (if x.2.2 < x.1 then x.2.2 else x.1) < 0
    · rw [ifB_of _ _ (decide_eq_true h1), bad (edB_false (by split at h1 <;> omega))]
    rw [ifB_not _ _ (decide_eq_false h1)]
    by_cases h2 : (if x.1 < x.2.2 then x.2.2 else x.1) ≥ S
    · rw [ifB_of _ _ (decide_eq_true h2), bad (edB_false (by split at h2 <;> omega))]
    rw [ifB_not _ _ (decide_eq_false h2)]
    by_cases h3 : x.2.1 < -1
    · rw [ifB_of _ _ (decide_eq_true h3), bad (edB_false (by omega))]
    rw [ifB_not _ _ (decide_eq_false h3)]
    by_cases h4 : x.2.1 ≥ L
    · rw [ifB_of _ _ (decide_eq_true h4), bad (edB_false (by omega))]
    rw [ifB_not _ _ (decide_eq_false h4)]
    have hx : edB L S x = true := edB_true (by split at h1 <;> split at h2 <;> omega)
    rw [hx, Bool.true_and]
    rcases hb with ⟨rfl, rfl⟩ | ⟨p, y, rfl, rfl⟩
    · rw [ifB_not _ _ (by simp)]
      rw [List.nil_append] at ih ⊢
      exact ih
    · obtain ⟨k, hk, hk2⟩ := order_f y x
      rw [ifB_of _ _ (pos_app p y), prevG h]
      simp only [bindD_some]
      rw [hk, bindD_some, hk2]
      cases aheadB y x
      · rfl
      · rw [app_at (p ++ [y]) x suf]; exact ih
theorem rvalid_l6 (L S : Int) (St Ac : List Int) : ∀ (suf pre : List Ed) (pv : Option Ed), Bef pre pv → (pre ++ suf).length < 1000000 →
    ancepsref07_Valid.l6 (pre.length : Nat) L S St (pre ++ suf) Ac = some (errN (edP L S pv suf), ())
  | [], pre, pv, hb, h => by rw [ancepsref07_Valid.l6_eq, ifB_not _ _ (lt_end pre)]; rfl
  | x :: suf, pre, pv, hb, h => by
    have hl : pre.length < 1000000 := by simp only [List.length_append] at h; omega
    have ih := rvalid_l6 L S St Ac suf (pre ++ [x]) (some x) (.inr ⟨pre, x, rfl, rfl⟩) (by rw [← app_at]; exact h)
    rw [ancepsref07_Valid.l6_eq, ifB_of _ _ (lt_at pre x suf), ixAt_at, bindD_some, w_pre pre x (by omega)]
    have bad : ∀ {b : Bool}, edB L S x = false → errN (edB L S x && b) = 1 := fun h => by rw [h]; rfl
    simp only [edP]
    by_cases h1 : x.1 < 0
    · rw [ifB_of _ _ (decide_eq_true h1), bad (edB_false (by omega))]
    rw [ifB_not _ _ (decide_eq_false h1)]
    by_cases h2 : x.1 ≥ S
    · rw [ifB_of _ _ (decide_eq_true h2), bad (edB_false (by omega))]
    rw [ifB_not _ _ (decide_eq_false h2)]
    by_cases h5 : x.2.2 < 0
    · rw [ifB_of _ _ (decide_eq_true h5), bad (edB_false (by omega))]
    rw [ifB_not _ _ (decide_eq_false h5)]
    by_cases h6 : x.2.2 ≥ S
    · rw [ifB_of _ _ (decide_eq_true h6), bad (edB_false (by omega))]
    rw [ifB_not _ _ (decide_eq_false h6)]
    by_cases h3 : x.2.1 < -1
    · rw [ifB_of _ _ (decide_eq_true h3), bad (edB_false (by omega))]
    rw [ifB_not _ _ (decide_eq_false h3)]
    by_cases h4 : x.2.1 ≥ L
    · rw [ifB_of _ _ (decide_eq_true h4), bad (edB_false (by omega))]
    rw [ifB_not _ _ (decide_eq_false h4)]
    have hx : edB L S x = true := edB_true (by omega)
    rw [hx, Bool.true_and]
    rcases hb with ⟨rfl, rfl⟩ | ⟨p, y, rfl, rfl⟩
    · rw [ifB_not _ _ (by simp)]
      rw [List.nil_append] at ih ⊢
      exact ih
    · rw [ifB_of _ _ (pos_app p y), prevG h]
      simp only [bindD_some]
      rw [ahead_f, bindD_some]
      simp only
      cases aheadB y x
      · rfl
      · rw [app_at (p ++ [y]) x suf]; exact ih
def nok (L S : Int) (St : List Int) (E : List Ed) (Ac : List Int) : Bool :=
  (decide (1 ≤ L) && decide (L ≤ 8)) && ((decide (0 ≤ S) && decide (S ≤ 400)) && (decide (((E.length : Nat) : Int) ≤ 4000) && (ascP S none St && (ascP S none Ac && edP L S none E))))
theorem nvalid_f (L S : Int) (St : List Int) (E : List Ed) (Ac : List Int) (h1 : St.length < 1000000) (h2 : Ac.length < 1000000) : nondet_Valid.f L S St E Ac = some (errN (nok L S St E Ac), ()) := by
  rw [nondet_Valid.f_eq, asc_f S h1, asc_f S h2]; unfold nok
  by_cases a1 : L < 1
  · rw [ifB_of _ _ (decide_eq_true a1), decide_eq_false (by omega : ¬ 1 ≤ L)]; rfl
  rw [ifB_not _ _ (decide_eq_false a1), decide_eq_true (by omega : 1 ≤ L)]
  by_cases a2 : L > 8
  · rw [ifB_of _ _ (decide_eq_true a2), decide_eq_false (by omega : ¬ L ≤ 8)]; rfl
  rw [ifB_not _ _ (decide_eq_false a2), decide_eq_true (by omega : L ≤ 8)]
  by_cases a3 : S < 0
  · rw [ifB_of _ _ (decide_eq_true a3), decide_eq_false (by omega : ¬ 0 ≤ S)]; rfl
  rw [ifB_not _ _ (decide_eq_false a3), decide_eq_true (by omega : 0 ≤ S)]
  by_cases a4 : S > 400
  · rw [ifB_of _ _ (decide_eq_true a4), decide_eq_false (by omega : ¬ S ≤ 400)]; rfl
  rw [ifB_not _ _ (decide_eq_false a4), decide_eq_true (by omega : S ≤ 400)]
  by_cases a5 : ((E.length : Nat) : Int) > 4000
  · rw [ifB_of _ _ (decide_eq_true a5), decide_eq_false (by omega : ¬ ((E.length : Nat) : Int) ≤ 4000)]; rfl
  rw [ifB_not _ _ (decide_eq_false a5), decide_eq_true (by omega : ((E.length : Nat) : Int) ≤ 4000)]
  have := valid_l6 L S St Ac E [] none (.inl ⟨rfl, rfl⟩) (by rw [List.nil_append]; omega)
  rw [List.nil_append, List.length_nil, Int.ofNat_zero] at this
  rw [this]
  cases ascP S none St <;> cases ascP S none Ac <;> rfl
theorem rnvalid_f (L S : Int) (St : List Int) (E : List Ed) (Ac : List Int) (h1 : St.length < 1000000) (h2 : Ac.length < 1000000) : ancepsref07_Valid.f L S St E Ac = some (errN (nok L S St E Ac), ()) := by
  rw [ancepsref07_Valid.f_eq, rasc_f S h1, rasc_f S h2]; unfold nok
  by_cases a1 : L < 1
  · rw [ifB_of _ _ (decide_eq_true a1), decide_eq_false (by omega : ¬ 1 ≤ L)]; rfl
  rw [ifB_not _ _ (decide_eq_false a1), decide_eq_true (by omega : 1 ≤ L)]
  by_cases a2 : L > 8
  · rw [ifB_of _ _ (decide_eq_true a2), decide_eq_false (by omega : ¬ L ≤ 8)]; rfl
  rw [ifB_not _ _ (decide_eq_false a2), decide_eq_true (by omega : L ≤ 8)]
  by_cases a3 : S < 0
  · rw [ifB_of _ _ (decide_eq_true a3), decide_eq_false (by omega : ¬ 0 ≤ S)]; rfl
  rw [ifB_not _ _ (decide_eq_false a3), decide_eq_true (by omega : 0 ≤ S)]
  by_cases a4 : S > 400
  · rw [ifB_of _ _ (decide_eq_true a4), decide_eq_false (by omega : ¬ S ≤ 400)]; rfl
  rw [ifB_not _ _ (decide_eq_false a4), decide_eq_true (by omega : S ≤ 400)]
  by_cases a5 : ((E.length : Nat) : Int) > 4000
  · rw [ifB_of _ _ (decide_eq_true a5), decide_eq_false (by omega : ¬ ((E.length : Nat) : Int) ≤ 4000)]; rfl
  rw [ifB_not _ _ (decide_eq_false a5), decide_eq_true (by omega : ((E.length : Nat) : Int) ≤ 4000)]
  have := rvalid_l6 L S St Ac E [] none (.inl ⟨rfl, rfl⟩) (by rw [List.nil_append]; omega)
  rw [List.nil_append, List.length_nil, Int.ofNat_zero] at this
  rw [this]
  cases ascP S none St <;> cases ascP S none Ac <;> rfl

/-- what a valid automaton has -/
structure NV (L S : Int) (St : List Int) (E : List Ed) (Ac : List Int) : Prop where
  l1 : 1 ≤ L
  l8 : L ≤ 8
  s0 : 0 ≤ S
  s4 : S ≤ 400
  e : E.length ≤ 4000
  st : ∀ s ∈ St, 0 ≤ s ∧ s < S
  stl : (St.length : Int) ≤ S
  ac : ∀ s ∈ Ac, 0 ≤ s ∧ s < S
  acl : (Ac.length : Int) ≤ S
  ed : ∀ x ∈ E, 0 ≤ x.1 ∧ x.1 < S ∧ 0 ≤ x.2.2 ∧ x.2.2 < S ∧ -1 ≤ x.2.1 ∧ x.2.1 < L
theorem asc_mem {S : Int} : ∀ {l : List Int} {p : Option Int}, ascP S p l = true → ∀ s ∈ l, 0 ≤ s ∧ s < S
  | x :: l, p, h, s, hs => by
    simp only [ascP, Bool.and_eq_true, decide_eq_true_eq] at h
    rcases List.mem_cons.1 hs with rfl | hs
    · exact h.1
    · exact asc_mem h.2.2 s hs
theorem asc_len {S : Int} : ∀ {l : List Int} {y : Int}, ascP S (some y) l = true → y < S → (l.length : Int) ≤ S - 1 - y
  | [], y, h, hy => by simp; omega
  | x :: l, y, h, hy => by
    simp only [ascP, Bool.and_eq_true, decide_eq_true_eq] at h
    have := asc_len h.2.2 h.1.2
    simp only [List.length_cons]
    omega
theorem asc_len0 {S : Int} (h0 : 0 ≤ S) : ∀ {l : List Int}, ascP S none l = true → (l.length : Int) ≤ S
  | [], h => by simpa using h0
  | x :: l, h => by
    simp only [ascP, Bool.and_eq_true, decide_eq_true_eq] at h
    have := asc_len h.2.2 h.1.2
    simp only [List.length_cons]
    omega
theorem ed_mem {L S : Int} : ∀ {l : List Ed} {p : Option Ed}, edP L S p l = true → ∀ x ∈ l, 0 ≤ x.1 ∧ x.1 < S ∧ 0 ≤ x.2.2 ∧ x.2.2 < S ∧ -1 ≤ x.2.1 ∧ x.2.1 < L
  | x :: l, p, h, s, hs => by
    simp only [edP, Bool.and_eq_true] at h
    rcases List.mem_cons.1 hs with rfl | hs
    · simpa [edB, and_assoc] using h.1
    · exact ed_mem h.2.2 s hs
theorem nv_of {L S : Int} {St : List Int} {E : List Ed} {Ac : List Int} (h : nok L S St E Ac = true) : NV L S St E Ac := by
  simp only [nok, Bool.and_eq_true, decide_eq_true_eq] at h
  obtain ⟨⟨a1, a2⟩, ⟨a3, a4⟩, a5, a6, a7, a8⟩ := h
  exact ⟨a1, a2, a3, a4, by omega, asc_mem a6, asc_len0 a3 a6, asc_mem a7, asc_len0 a3 a7, ed_mem a8⟩
end Go.Proofs.C07
