/- Plain words for the chapter of breaks: the example, Cola. -/
import Derived.Test.YtpkckffbdojegaaC27B
import Derived.Test.YtpkckffbdojegaaMachine2
set_option linter.unusedVariables false
set_option linter.unusedSimpArgs false
namespace Go.Proofs.C27
open Go Go.Proofs.R
set_option linter.unusedVariables false
set_option maxRecDepth 100000

theorem lt_at {α : Type} (p : List α) (x : α) (s : List α) : decide (((List.length p : Nat) : Int) < ((List.length (p ++ x :: s) : Nat) : Int)) = true := by
  apply decide_eq_true; simp only [List.length_append, List.length_cons]; omega
theorem lt_end {α : Type} (p : List α) : decide (((List.length p : Nat) : Int) < ((List.length (p ++ []) : Nat) : Int)) = false := by
  apply decide_eq_false; simp
theorem w_at {α : Type} {p : List α} {x : α} {s : List α} (h : (p ++ x :: s).length < 4611686018427387904) : IntKind.i64.wrap (((List.length p : Nat) : Int) + 1) = ((List.length (p ++ [x]) : Nat) : Int) := by
  simp only [List.length_append, List.length_cons] at h
  rw [w64_succ (by omega)]; simp
theorem grow_one {α β : Type} (l : List α) {x : β} (h : l.length < 4294967296) : grow (l.length + [x].length) = some () := grow_ok (by simp only [List.length_singleton]; omega)
theorem app_at {α : Type} (p : List α) (x : α) (s : List α) : p ++ x :: s = (p ++ [x]) ++ s := by simp

theorem awake_f : ancepslaw27_awake.f = some (true, ()) := by
  unfold ancepslaw27_awake.f
  exact (Einf_call_iff ctx).2 ⟨80, by kernel_rfl⟩

/-! letters -/
def bad (c : Int) : Bool := decide (c < 0) || decide (c > 3)
def vl (xs : List Int) : Int := bif decide (((xs.length : Nat) : Int) > 40) then 3 else bif xs.any bad then 6 else 0
theorem bad_f (c : Int) : caesura_valid_1.f c = some (bad c, ()) := by
  rw [caesura_valid_1.f_eq]; unfold bad
  cases decide (c < 0) <;> rfl
theorem index_l2 : ∀ (suf pre : List Int), (pre ++ suf).length < 4611686018427387904 →
    ∃ i : Int, slices_IndexFunc_int_int.l2 (pre ++ suf) ((pre ++ suf).length : Nat) (pre.length : Nat) = some (i, ()) ∧ decide (i ≥ 0) = suf.any bad
  | [], pre, h => by rw [slices_IndexFunc_int_int.l2_eq, ifB_not _ _ (lt_end pre)]; exact ⟨-1, rfl, rfl⟩
  | x :: suf, pre, h => by
    rw [slices_IndexFunc_int_int.l2_eq, ifB_of _ _ (lt_at pre x suf), ixAt_at, bindD_some, bad_f, bindD_some]
    cases hb : bad x with
    | true => exact ⟨_, rfl, by simp [hb]⟩
    | false =>
      obtain ⟨i, h1, h2⟩ := index_l2 suf (pre ++ [x]) (by rw [← app_at]; exact h)
      refine ⟨i, ?_, by simp [hb, h2]⟩
      rw [w_at h, app_at pre x suf]; exact h1
theorem valid_f (xs : List Int) : caesura_valid.f xs = some (vl xs, ()) := by
  rw [caesura_valid.f_eq]; unfold vl
  by_cases h : decide (((xs.length : Nat) : Int) > 40) = true
  · rw [h]; rfl
  · rw [Bool.eq_false_iff.2 h, ifB_false]
    have h' := of_decide_eq_false (Bool.eq_false_iff.2 h)
    obtain ⟨i, h1, h2⟩ := index_l2 xs [] (by simp only [List.nil_append]; omega)
    rw [slices_ContainsFunc_int_int.f_eq, slices_IndexFunc_int_int.f_eq]
    simp only [List.nil_append, List.length_nil] at h1
    rw [show ((0 : Nat) : Int) = 0 from rfl] at h1
    rw [h1]; simp only [bindD_some, h2]
    cases xs.any bad <;> rfl
theorem letters_l4 : ∀ (suf pre : List Int), (pre ++ suf).length < 4611686018427387904 →
    ancepsref27_letters.l4 (pre ++ suf) (pre.length : Nat) = some (bif suf.any bad then 6 else 0, ())
  | [], pre, h => by rw [ancepsref27_letters.l4_eq, ifB_not _ _ (lt_end pre)]; rfl
  | x :: suf, pre, h => by
    rw [ancepsref27_letters.l4_eq, ifB_of _ _ (lt_at pre x suf), ixAt_at, bindD_some, bindD_some, w_at h, app_at pre x suf, letters_l4 suf (pre ++ [x]) (by rw [← app_at]; exact h), List.any_cons]
    unfold bad
    cases decide (x < 0) <;> cases decide (x > 3) <;> rfl
theorem letters_f (xs : List Int) : ancepsref27_letters.f xs = some (vl xs, ()) := by
  rw [ancepsref27_letters.f_eq]; unfold vl
  by_cases h : decide (((xs.length : Nat) : Int) > 40) = true
  · rw [h]; rfl
  · rw [Bool.eq_false_iff.2 h, ifB_false]
    have h' := of_decide_eq_false (Bool.eq_false_iff.2 h)
    have := letters_l4 xs [] (by simp only [List.nil_append]; omega)
    simp only [List.nil_append, List.length_nil] at this
    rw [show ((0 : Nat) : Int) = 0 from rfl] at this
    rw [this]; rfl
theorem vl_zero {xs : List Int} (h : vl xs = 0) : xs.length ≤ 40 ∧ ∀ c ∈ xs, 0 ≤ c ∧ c ≤ 3 := by
  unfold vl at h
  cases h1 : decide (((xs.length : Nat) : Int) > 40) with
  | true => rw [h1] at h; cases h
  | false =>
    rw [h1] at h
    cases h2 : xs.any bad with
    | true => rw [h2] at h; cases h
    | false =>
      refine ⟨by have := of_decide_eq_false h1; omega, fun c hc => ?_⟩
      have := List.any_eq_false.1 h2 c hc
      unfold bad at this
      simp only [Bool.or_eq_true, decide_eq_true_eq, not_or] at this
      omega
theorem clone_f {xs : List Int} (h : xs.length ≤ 1000000) : slices_Clone_int_int.f xs = some (xs, ()) := by
  rw [slices_Clone_int_int.f_eq, grow_ok (by omega)]; rfl
theorem ix_pre {α : Type} (p : List α) (x : α) (s : List α) (h : p.length < 1000000) : ixAt (p ++ x :: s) (IntKind.i64.wrap (((p.length + 1 : Nat) : Int) - 1)) = some x := by
  rw [w64 (by omega), show (((p.length + 1 : Nat) : Int) - 1) = ((p.length : Nat) : Int) by omega]; exact ixAt_at p x s
theorem ends_f (p : List Int) (x : Int) (s : List Int) (h : p.length < 1000000) : caesura_ends.f (p ++ x :: s) ((p.length + 1 : Nat) : Int) = some (decide (x ≥ 2), ()) := by
  rw [caesura_ends.f_eq, ix_pre p x s h]; rfl
theorem refends_f (p : List Int) (x : Int) (s : List Int) (h : p.length < 1000000) : ancepsref23_Ends.f (p ++ x :: s) ((p.length + 1 : Nat) : Int) = some (decide (x ≥ 2), ()) := by
  rw [ancepsref23_Ends.f_eq, ifB_not _ _ (beq_eq_false_iff_ne.2 (by omega)), ix_pre p x s h]; rfl
theorem eq_l4 : ∀ (suf pre : List Int), (pre ++ suf).length < 1000000 → slices_Equal_int_int.l4 (pre ++ suf) (pre ++ suf) ((pre ++ suf).length : Nat) (pre.length : Nat) = some (true, ())
  | [], pre, h => by rw [slices_Equal_int_int.l4_eq, ifB_not _ _ (lt_end pre)]
  | x :: suf, pre, h => by
    rw [slices_Equal_int_int.l4_eq, ifB_of _ _ (lt_at pre x suf), ixAt_at, bindD_some, bindD_some, ifB_not _ _ (by simp), w_at (p := pre) (x := x) (s := suf) (by omega), app_at pre x suf, eq_l4 suf (pre ++ [x]) (by rw [← app_at]; exact h)]
theorem eq_f {l : List Int} (h : l.length < 1000000) : slices_Equal_int_int.f l l = some (true, ()) := by
  rw [slices_Equal_int_int.f_eq, ifB_not _ _ (by simp)]
  exact eq_l4 l [] (by simpa using h)

/-! Cola -/
def colaF : List Int → Nat → Nat → List Int
  | [], _, _ => []
  | x :: s, i, f => bif decide (x ≥ 2) || s.isEmpty then ((i : Int) - (f : Int)) :: colaF s (i + 1) i else colaF s (i + 1) f
theorem le_at {α : Type} (p : List α) (x : α) (s : List α) : decide (((p.length + 1 : Nat) : Int) ≤ ((List.length (p ++ x :: s) : Nat) : Int)) = true := by
  apply decide_eq_true; simp only [List.length_append, List.length_cons]; omega
theorem le_end {α : Type} (p : List α) : decide (((p.length + 1 : Nat) : Int) ≤ ((List.length (p ++ []) : Nat) : Int)) = false := by
  apply decide_eq_false; simp only [List.append_nil]; omega
theorem at_last {p : List Int} {x : Int} {s : List Int} : (((p.length + 1 : Nat) : Int) == ((List.length (p ++ x :: s) : Nat) : Int)) = s.isEmpty := by
  cases s with
  | nil => simp
  | cons y s => rw [List.isEmpty_cons]; exact beq_eq_false_iff_ne.2 (by simp only [List.length_append, List.length_cons]; omega)
theorem w_two {p : List Int} {x : Int} (h : p.length < 1000000) : IntKind.i64.wrap (((p.length + 1 : Nat) : Int) + 1) = (((p ++ [x]).length + 1 : Nat) : Int) := by
  rw [w64_succ (by omega)]; simp
theorem w_sub {a b : Nat} (h : a < 1000000) (hb : b < 1000000) : IntKind.i64.wrap ((a : Int) - (b : Int)) = (a : Int) - (b : Int) := w64 (by omega)
theorem cola_l7 : ∀ (suf pre : List Int) (f : Nat) (out : List Int), (pre ++ suf).length < 100000 → f ≤ pre.length → out.length ≤ pre.length →
    caesura_Cola.l7 (pre ++ suf) (f : Int) ((pre.length + 1 : Nat) : Int) out = some (out ++ colaF suf (pre.length + 1) f, (0, ()))
  | [], pre, f, out, h, hf, ho => by rw [caesura_Cola.l7_eq, ifB_not _ _ (le_end pre)]; simp [colaF]
  | x :: suf, pre, f, out, h, hf, ho => by
    have hp : pre.length < 100000 := by simp only [List.length_append, List.length_cons] at h; omega
    have h' : (pre ++ [x] ++ suf).length < 100000 := by rw [← app_at]; exact h
    have i1 := cola_l7 suf (pre ++ [x]) (pre.length + 1) (out ++ [((pre.length + 1 : Nat) : Int) - (f : Int)]) h' (by simp) (by simp; omega)
    have i2 := cola_l7 suf (pre ++ [x]) f out h' (by simp; omega) (by simp; omega)
    have hl : (pre ++ [x]).length + 1 = pre.length + 1 + 1 := by simp
    rw [caesura_Cola.l7_eq, ifB_of _ _ (le_at pre x suf), ends_f pre x suf (by omega), bindD_some, w_sub (by omega) (by omega), grow_one out (by omega), bindD_some, at_last, w_two (x := x) (by omega), app_at pre x suf, i1, i2, hl]
    simp only [colaF]
    cases decide (x ≥ 2) <;> cases suf.isEmpty <;> simp [ifB]
theorem refcola_l7 : ∀ (suf pre : List Int) (f : Nat) (out : List Int), (pre ++ suf).length < 100000 → f ≤ pre.length → out.length ≤ pre.length →
    ancepsref27_Cola.l7 (pre ++ suf) (f : Int) ((pre.length + 1 : Nat) : Int) out = some (out ++ colaF suf (pre.length + 1) f, (0, ()))
  | [], pre, f, out, h, hf, ho => by rw [ancepsref27_Cola.l7_eq, ifB_not _ _ (le_end pre)]; simp [colaF]
  | x :: suf, pre, f, out, h, hf, ho => by
    have hp : pre.length < 100000 := by simp only [List.length_append, List.length_cons] at h; omega
    have h' : (pre ++ [x] ++ suf).length < 100000 := by rw [← app_at]; exact h
    have i1 := refcola_l7 suf (pre ++ [x]) (pre.length + 1) (out ++ [((pre.length + 1 : Nat) : Int) - (f : Int)]) h' (by simp) (by simp; omega)
    have i2 := refcola_l7 suf (pre ++ [x]) f out h' (by simp; omega) (by simp; omega)
    have hl : (pre ++ [x]).length + 1 = pre.length + 1 + 1 := by simp
    rw [ancepsref27_Cola.l7_eq, ifB_of _ _ (le_at pre x suf), refends_f pre x suf (by omega), bindD_some, w_sub (by omega) (by omega), grow_one out (by omega), bindD_some, at_last, w_two (x := x) (by omega), app_at pre x suf, i1, i2, hl]
    simp only [colaF]
    cases decide (x ≥ 2) <;> cases suf.isEmpty <;> simp [ifB]
theorem cola_f (xs : List Int) : caesura_Cola.f xs = some (bif vl xs != 0 then [] else colaF xs 1 0, (vl xs, ())) := by
  rw [caesura_Cola.f_eq, valid_f, bindD_some]
  cases h : (vl xs != 0) with
  | true => rfl
  | false =>
    have h0 : vl xs = 0 := by simpa using h
    rw [ifB_false]
    have := cola_l7 xs [] 0 [] (by have := (vl_zero h0).1; simp only [List.nil_append]; omega) (by simp) (by simp)
    simp only [List.nil_append, List.length_nil, Nat.zero_add] at this
    rw [show ((0 : Nat) : Int) = 0 from rfl, show ((1 : Nat) : Int) = 1 from rfl] at this
    rw [this, h0]; rfl
theorem refcola_f (xs : List Int) : ancepsref27_Cola.f xs = some (bif vl xs != 0 then [] else colaF xs 1 0, (vl xs, ())) := by
  rw [ancepsref27_Cola.f_eq, letters_f, bindD_some]
  cases h : (vl xs != 0) with
  | true => rfl
  | false =>
    have h0 : vl xs = 0 := by simpa using h
    rw [ifB_false]
    have := refcola_l7 xs [] 0 [] (by have := (vl_zero h0).1; simp only [List.nil_append]; omega) (by simp) (by simp)
    simp only [List.nil_append, List.length_nil, Nat.zero_add] at this
    rw [show ((0 : Nat) : Int) = 0 from rfl, show ((1 : Nat) : Int) = 1 from rfl] at this
    rw [this, h0]; rfl
def sumI : List Int → Int
  | [] => 0
  | x :: l => x + sumI l
theorem cola_spec : ∀ (s : List Int) (i f : Nat), f < i → (∀ x ∈ colaF s i f, 1 ≤ x ∧ x < (i : Int) + (s.length : Nat)) ∧ (colaF s i f).length ≤ s.length ∧ (s ≠ [] → sumI (colaF s i f) = (i : Int) + (s.length : Nat) - 1 - (f : Int))
  | [], i, f, h => ⟨by simp [colaF], by simp [colaF], fun q => (q rfl).elim⟩
  | x :: s, i, f, h => by
    simp only [colaF]
    cases hc : decide (x ≥ 2) || s.isEmpty with
    | true =>
      obtain ⟨h1, h2, h3⟩ := cola_spec s (i + 1) i (by omega)
      simp only [cond_true, List.mem_cons, List.length_cons, sumI]
      refine ⟨?_, by omega, fun _ => ?_⟩
      · rintro y (rfl | hy)
        · constructor <;> omega
        · have := h1 y hy; constructor <;> omega
      · cases s with
        | nil => simp [colaF, sumI]
        | cons y s => rw [h3 (by simp)]; simp only [List.length_cons]; omega
    | false =>
      obtain ⟨h1, h2, h3⟩ := cola_spec s (i + 1) f (by omega)
      simp only [cond_false, List.length_cons]
      refine ⟨fun y hy => by have := h1 y hy; constructor <;> omega, by omega, fun _ => ?_⟩
      cases s with
      | nil => simp at hc
      | cons y s => rw [h3 (by simp)]; simp only [List.length_cons]; omega
theorem law_l7 (xs : List Int) (e : Int) (b : List Int) (hb : b.length < 1000) (he : e = 0 → sumI b = (xs.length : Nat)) : ∀ (suf pre : List Int) (acc : Int), pre ++ suf = b → (∀ x ∈ suf, 1 ≤ x ∧ x ≤ 1000) → 0 ≤ acc → acc ≤ 1000 * (pre.length : Nat) → acc + sumI suf = sumI b →
    ancepslaw27_CaesuraCola.l7 xs e e acc (b.length : Nat) (pre.length : Nat) b b = some (true, ())
  | [], pre, acc, hps, hx, h0, h1, hs => by
    rw [List.append_nil] at hps; subst hps
    rw [ancepslaw27_CaesuraCola.l7_eq, ifB_not _ _ (decide_eq_false (by omega)), ifB_of _ _ (beq_self_eq_true _), eq_f (by omega), bindD_some, ifB_true]
    cases hz : (e != 0) with
    | true => rfl
    | false =>
      rw [ifB_false]
      have hz' : e = 0 := by simpa using hz
      simp only [sumI, Int.add_zero] at hs
      rw [hs, he hz', beq_self_eq_true]
  | x :: suf, pre, acc, hps, hx, h0, h1, hs => by
    have hlen : pre.length + (suf.length + 1) = b.length := by rw [← hps]; simp
    obtain ⟨x1, x2⟩ := hx x (by simp)
    have hix : ixAt b (pre.length : Nat) = some x := by rw [← hps]; exact ixAt_at pre x suf
    simp only [sumI] at hs
    rw [ancepslaw27_CaesuraCola.l7_eq, ifB_of _ _ (decide_eq_true (by omega)), hix, bindD_some, bindD_some, ifB_not _ _ (decide_eq_false (by omega)), w64 (n := acc + x) (by omega), w64_succ (by omega)]
    have := law_l7 xs e b hb he suf (pre ++ [x]) (acc + x) (by rw [← app_at]; exact hps) (fun y hy => hx y (by simp [hy])) (by omega) (by simp; omega) (by omega)
    simpa using this
theorem cola_law (xs : List Int) : ancepslaw27_CaesuraCola.f xs = some (true, ()) := by
  rw [ancepslaw27_CaesuraCola.f_eq, awake_f]; simp only [bindD_some, Bool.not_true, ifB_false]
  cases h : decide (((xs.length : Nat) : Int) > 60) with
  | true => rfl
  | false =>
    have h' := of_decide_eq_false h
    rw [ifB_false, clone_f (by omega)]; simp only [bindD_some]
    rw [cola_f, refcola_f]; simp only [bindD_some]
    obtain ⟨h1, h2, h3⟩ := cola_spec xs 1 0 (by omega)
    cases hv : (vl xs != 0) with
    | true =>
      simp only [cond_true]
      exact law_l7 xs (vl xs) [] (by simp) (fun q => by rw [q] at hv; cases hv) [] [] 0 rfl (by simp) (by omega) (by simp) (by simp [sumI])
    | false =>
      simp only [cond_false]
      refine law_l7 xs (vl xs) (colaF xs 1 0) (by omega) (fun _ => ?_) (colaF xs 1 0) [] 0 rfl (fun x hx => by have := h1 x hx; constructor <;> omega) (by omega) (by simp) (by omega)
      cases xs with
      | nil => simp [colaF, sumI]
      | cons y s => rw [h3 (by simp)]; omega
end Go.Proofs.C27
