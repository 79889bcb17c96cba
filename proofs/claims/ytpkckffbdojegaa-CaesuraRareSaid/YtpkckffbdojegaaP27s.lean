/- Plain words for the chapter of breaks: the example, Cola. -/
import Derived.Test.YtpkckffbdojegaaQ27B
import Derived.Test.YtpkckffbdojegaaP27r
import Derived.Test.YtpkckffbdojegaaMachine4
set_option linter.unusedVariables false
set_option linter.unusedSimpArgs false
namespace Go.Proofs.Q27
open Go Go.Proofs.R
set_option linter.unusedVariables false
set_option maxRecDepth 100000

theorem lt_at {α : Type} (p : List α) (x : α) (s : List α) : decide (((List.length p : Nat) : Int) < ((List.length (p ++ x :: s) : Nat) : Int)) = true := by
  apply decide_eq_true; simp only [List.length_append, List.length_cons]; omega
theorem lt_end {α : Type} (p : List α) : decide (((List.length p : Nat) : Int) < ((List.length (p ++ []) : Nat) : Int)) = false := by
  apply decide_eq_false; simp
theorem w_at {α : Type} {p : List α} {x : α} {s : List α} (h : (p ++ x :: s).length < 4611686018427387904) : IntKind.i64.wrap (((List.length p : Nat) : Int) + 1) = ((List.length (p ++ [x]) : Nat) : Int) := by
  simp only [List.length_append, List.length_cons] at h
  rw [w64_succ (by omega)]; simp
theorem app_at {α : Type} (p : List α) (x : α) (s : List α) : p ++ x :: s = (p ++ [x]) ++ s := by simp

theorem awake_f : ancepslaw27_awake.f = some (true, ()) := by
  unfold ancepslaw27_awake.f
  exact (Einf_call_iff ctx).2 ⟨80, by kernel_rfl⟩

/-! letters -/
def bad (c : Int) : Bool := decide (c < 0) || decide (c > 3)
def vl (xs : List Int) : Int := bif decide (((xs.length : Nat) : Int) > 40) then 3 else bif xs.any bad then 6 else 0
theorem bad_f (c : Int) : caesura_valid_1.f c = some (bad c, ()) := by
  rw [caesura_valid_1.f_eq]; unfold bad
  cases decide (c < 0) <;> rfl
theorem index_l2 : ∀ (suf pre : List Int), (pre ++ suf).length < 4611686018427387904 →
    ∃ i : Int, slices_IndexFunc_int_int.l2 (pre ++ suf) ((pre ++ suf).length : Nat) (pre.length : Nat) = some (i, ()) ∧ decide (i ≥ 0) = suf.any bad
  | [], pre, h => by rw [slices_IndexFunc_int_int.l2_eq, ifB_not _ _ (lt_end pre)]; exact ⟨-1, rfl, rfl⟩
  | x :: suf, pre, h => by
    rw [slices_IndexFunc_int_int.l2_eq, ifB_of _ _ (lt_at pre x suf), ixAt_at, bindD_some, bad_f, bindD_some]
    cases hb : bad x with
    | true => exact ⟨_, rfl, by simp [hb]⟩
    | false =>
      obtain ⟨i, h1, h2⟩ := index_l2 suf (pre ++ [x]) (by rw [← app_at]; exact h)
      refine ⟨i, ?_, by simp [hb, h2]⟩
      rw [w_at h, app_at pre x suf]; exact h1
theorem valid_f (xs : List Int) : caesura_valid.f xs = some (vl xs, ()) := by
  rw [caesura_valid.f_eq]; unfold vl
  by_cases h : decide (((xs.length : Nat) : Int) > 40) = true
  · rw [h]; rfl
  · rw [Bool.eq_false_iff.2 h, ifB_false]
    have h' := of_decide_eq_false (Bool.eq_false_iff.2 h)
    obtain ⟨i, h1, h2⟩ := index_l2 xs [] (by simp only [List.nil_append]; omega)
    rw [slices_ContainsFunc_int_int.f_eq, slices_IndexFunc_int_int.f_eq]
    simp only [List.nil_append, List.length_nil] at h1
    rw [show ((0 : Nat) : Int) = 0 from rfl] at h1
    rw [h1]; simp only [bindD_some, h2]
    cases xs.any bad <;> rfl
theorem letters_l4 : ∀ (suf pre : List Int), (pre ++ suf).length < 4611686018427387904 →
    ancepsref27_letters.l4 (pre ++ suf) (pre.length : Nat) = some (bif suf.any bad then 6 else 0, ())
  | [], pre, h => by rw [ancepsref27_letters.l4_eq, ifB_not _ _ (lt_end pre)]; rfl
  | x :: suf, pre, h => by
    rw [ancepsref27_letters.l4_eq, ifB_of _ _ (lt_at pre x suf), ixAt_at, bindD_some, bindD_some, w_at h, app_at pre x suf, letters_l4 suf (pre ++ [x]) (by rw [← app_at]; exact h), List.any_cons]
    unfold bad
    cases decide (x < 0) <;> cases decide (x > 3) <;> rfl
theorem letters_f (xs : List Int) : ancepsref27_letters.f xs = some (vl xs, ()) := by
  rw [ancepsref27_letters.f_eq]; unfold vl
  by_cases h : decide (((xs.length : Nat) : Int) > 40) = true
  · rw [h]; rfl
  · rw [Bool.eq_false_iff.2 h, ifB_false]
    have h' := of_decide_eq_false (Bool.eq_false_iff.2 h)
    have := letters_l4 xs [] (by simp only [List.nil_append]; omega)
    simp only [List.nil_append, List.length_nil] at this
    rw [show ((0 : Nat) : Int) = 0 from rfl] at this
    rw [this]; rfl
theorem vl_zero {xs : List Int} (h : vl xs = 0) : xs.length ≤ 40 ∧ ∀ c ∈ xs, 0 ≤ c ∧ c ≤ 3 := by
  unfold vl at h
  cases h1 : decide (((xs.length : Nat) : Int) > 40) with
  | true => rw [h1] at h; cases h
  | false =>
    rw [h1] at h
    cases h2 : xs.any bad with
    | true => rw [h2] at h; cases h
    | false =>
      refine ⟨by have := of_decide_eq_false h1; omega, fun c hc => ?_⟩
      have := List.any_eq_false.1 h2 c hc
      unfold bad at this
      simp only [Bool.or_eq_true, decide_eq_true_eq, not_or] at this
      omega
theorem clone_f {xs : List Int} (h : xs.length ≤ 1000000) : slices_Clone_int_int.f xs = some (xs, ()) := by
  rw [slices_Clone_int_int.f_eq, grow_ok (by omega)]; rfl
theorem ix_pre {α : Type} (p : List α) (x : α) (s : List α) (h : p.length < 1000000) : ixAt (p ++ x :: s) (IntKind.i64.wrap (((p.length + 1 : Nat) : Int) - 1)) = some x := by
  rw [w64 (by omega), show (((p.length + 1 : Nat) : Int) - 1) = ((p.length : Nat) : Int) by omega]; exact ixAt_at p x s
theorem ends_f (p : List Int) (x : Int) (s : List Int) (h : p.length < 1000000) : caesura_ends.f (p ++ x :: s) ((p.length + 1 : Nat) : Int) = some (decide (x ≥ 2), ()) := by
  rw [caesura_ends.f_eq, ix_pre p x s h]; rfl
theorem refends_f (p : List Int) (x : Int) (s : List Int) (h : p.length < 1000000) : ancepsref23_Ends.f (p ++ x :: s) ((p.length + 1 : Nat) : Int) = some (decide (x ≥ 2), ()) := by
  rw [ancepsref23_Ends.f_eq, ifB_not _ _ (beq_eq_false_iff_ne.2 (by omega)), ix_pre p x s h]; rfl
theorem eq_l4 : ∀ (suf pre : List Int), (pre ++ suf).length < 1000000 → slices_Equal_int_int.l4 (pre ++ suf) (pre ++ suf) ((pre ++ suf).length : Nat) (pre.length : Nat) = some (true, ())
  | [], pre, h => by rw [slices_Equal_int_int.l4_eq, ifB_not _ _ (lt_end pre)]
  | x :: suf, pre, h => by
    rw [slices_Equal_int_int.l4_eq, ifB_of _ _ (lt_at pre x suf), ixAt_at, bindD_some, bindD_some, ifB_not _ _ (by simp), w_at (p := pre) (x := x) (s := suf) (by omega), app_at pre x suf, eq_l4 suf (pre ++ [x]) (by rw [← app_at]; exact h)]
theorem eq_f {l : List Int} (h : l.length < 1000000) : slices_Equal_int_int.f l l = some (true, ()) := by
  rw [slices_Equal_int_int.f_eq, ifB_not _ _ (by simp)]
  exact eq_l4 l [] (by simpa using h)

/-! Cola -/
/-! places, and how many words end there -/
abbrev LLI := List (List Int)
def endB (p : Nat) (x : List Int) : Bool := decide ((x[p - 1]?).getD 0 ≥ 2)
/-- the number of lists in which a word ends at a place -/
def cntP (l : LLI) (p : Int) : Nat := l.countP (endB p.toNat)
theorem cntP_le (l : LLI) (p : Int) : cntP l p ≤ l.length := List.countP_le_length
theorem ends_at {x : List Int} {p : Nat} (h0 : 1 ≤ p) (h : p ≤ x.length) (hl : x.length < 1000000) : caesura_ends.f x (p : Int) = some (endB p x, ()) ∧ ancepsref23_Ends.f x (p : Int) = some (endB p x, ()) := by
  have hp : p - 1 < x.length := by omega
  have e : x = x.take (p - 1) ++ x[p - 1] :: x.drop (p - 1 + 1) := by rw [← List.drop_eq_getElem_cons hp, List.take_append_drop]
  have hl2 : (x.take (p - 1)).length = p - 1 := by simp; omega
  have hx : endB p x = decide (x[p - 1] ≥ 2) := by unfold endB; rw [List.getElem?_eq_getElem hp]; rfl
  have h1 := ends_f (x.take (p - 1)) x[p - 1] (x.drop (p - 1 + 1)) (by omega)
  have h2 := refends_f (x.take (p - 1)) x[p - 1] (x.drop (p - 1 + 1)) (by omega)
  rw [← e, hl2, show p - 1 + 1 = p by omega] at h1 h2
  rw [hx]; exact ⟨h1, h2⟩
theorem count_l3 {p : Nat} (h0 : 1 ≤ p) : ∀ (suf pre : LLI), (pre ++ suf).length < 1000000 → (∀ x ∈ suf, p ≤ x.length ∧ x.length < 1000000) →
    caesura_Rare_1.l3 (p : Int) ((pre.countP (endB p) : Nat) : Int) (pre ++ suf) ((pre ++ suf).length : Nat) (pre.length : Nat) = some ((((pre ++ suf).countP (endB p) : Nat) : Int), ())
  | [], pre, h, hs => by rw [caesura_Rare_1.l3_eq, ifB_not _ _ (lt_end pre), List.append_nil]
  | x :: suf, pre, h, hs => by
    have ih := count_l3 h0 suf (pre ++ [x]) (by rw [← app_at]; exact h) (fun y hy => hs y (List.mem_cons_of_mem _ hy))
    have hx := hs x List.mem_cons_self
    have hix : ixAt (pre ++ x :: suf) ((pre.length : Nat) : Int) = some x := by rw [ixAt_nat, List.getElem?_append_right (Nat.le_refl _)]; simp
    have hpl : pre.countP (endB p) ≤ pre.length := List.countP_le_length
    have hlt : pre.length < 1000000 := by simp only [List.length_append] at h; omega
    rw [caesura_Rare_1.l3_eq, ifB_of _ _ (lt_at pre x suf), hix, bindD_some, (ends_at h0 hx.1 hx.2).1, bindD_some, w_at (x := x) (s := suf) (by omega), app_at pre x suf]
    rw [List.countP_append, List.countP_singleton] at ih
    cases hb : endB p x with
    | true =>
      rw [hb] at ih
      rw [ifB_true, w64 (by omega)]; exact ih
    | false =>
      rw [hb] at ih
      rw [ifB_false]; exact ih
theorem rcount_l22 (k : Int) (out : List Int) {p : Nat} (h0 : 1 ≤ p) : ∀ (suf pre : LLI), (pre ++ suf).length < 1000000 → (∀ x ∈ suf, p ≤ x.length ∧ x.length < 1000000) → p < 1000000 → out.length < 1000000 →
    ancepsref27_Rare.l22 (pre ++ suf) k (p : Int) ((pre.countP (endB p) : Nat) : Int) (pre.length : Nat) out =
      ancepsref27_Rare.l18 (pre ++ suf) k ((p + 1 : Nat) : Int) (bif (((pre ++ suf).countP (endB p) : Nat) : Int) == k then out ++ [(p : Int)] else out)
  | [], pre, h, hs, hp, ho => by
    rw [ancepsref27_Rare.l22_eq, ifB_not _ _ (by rw [List.append_nil]; simp), List.append_nil, grow_ok (by simp; omega), bindD_some, w64_succ (by omega)]
    cases hb : (((pre.countP (endB p) : Nat) : Int) == k) <;> rfl
  | x :: suf, pre, h, hs, hp, ho => by
    have ih := rcount_l22 k out h0 suf (pre ++ [x]) (by rw [← app_at]; exact h) (fun y hy => hs y (List.mem_cons_of_mem _ hy)) hp ho
    have hx := hs x List.mem_cons_self
    have hix : ixAt (pre ++ x :: suf) ((pre.length : Nat) : Int) = some x := by rw [ixAt_nat, List.getElem?_append_right (Nat.le_refl _)]; simp
    have hpl : pre.countP (endB p) ≤ pre.length := List.countP_le_length
    have hlt : pre.length < 1000000 := by simp only [List.length_append] at h; omega
    rw [ancepsref27_Rare.l22_eq, ifB_of _ _ (lt_at pre x suf), hix, bindD_some, (ends_at h0 hx.1 hx.2).2, bindD_some, w_at (x := x) (s := suf) (by omega), app_at pre x suf]
    rw [List.countP_append, List.countP_singleton] at ih
    cases hb : endB p x with
    | true =>
      rw [hb] at ih
      rw [ifB_true, w64 (by omega)]; exact ih
    | false =>
      rw [hb] at ih
      rw [ifB_false]; exact ih
end Go.Proofs.Q27
