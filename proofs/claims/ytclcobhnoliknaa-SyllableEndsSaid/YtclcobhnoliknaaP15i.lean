/- Plain words for the chapter of syllables: nuclei by words, what lies between, and the ends. -/
import Derived.Test.YtclcobhnoliknaaP15h
set_option linter.unusedVariables false
set_option linter.unusedSimpArgs false
namespace Go.Proofs.C15
open Go Go.Proofs.R
set_option linter.unusedVariables false
set_option linter.unusedSimpArgs false
set_option maxRecDepth 100000

/-! a cluster is the same as itself -/
theorem ord14_self (a : Int) : ancepsref14_order.f a a = some (0, ()) := by
  rw [ancepsref14_order.f_eq, ifB_not _ _ (decide_eq_false (by omega)), ifB_not _ _ (decide_eq_false (by omega))]
theorem ord11_self (a : Int) : ancepsref11_order.f a a = some (0, ()) := by
  rw [ancepsref11_order.f_eq, ifB_not _ _ (decide_eq_false (by omega)), ifB_not _ _ (decide_eq_false (by omega))]
theorem less_self : ∀ l : List UInt8, Go.Op.bytesLess l l = false
  | [] => rfl
  | x :: l => by simp only [Go.Op.bytesLess]; simp [less_self l]
theorem cmp11_self (k q : Int) (t : ByteArray) : ancepsref11_Compare.f k q t k q t = some (0, ()) := by
  rw [ancepsref11_Compare.f_eq, ord11_self, ord11_self, less_self]
  simp
  rfl
theorem cmp14_l11 (xs : List Snd) : ∀ (suf pre : List Int), (pre ++ suf).length < 1000000 → ancepsref14_Compare.l11 (pre.length : Nat) xs (pre ++ suf) xs (pre ++ suf) = some (0, ())
  | [], pre, h => by
    rw [ancepsref14_Compare.l11_eq, ifB_not _ _ (lt_end pre), ord14_self]; rfl
  | x :: suf, pre, h => by
    have hl : pre.length < 1000000 := by simp only [List.length_append] at h; omega
    rw [ancepsref14_Compare.l11_eq, ifB_of _ _ (lt_at pre x suf), ifB_of _ _ (lt_at pre x suf), ixAt_at, bindD_some, bindD_some, ord14_self, bindD_some, w_pre pre x (by omega), app_at pre x suf]
    exact cmp14_l11 xs suf (pre ++ [x]) (by rw [← app_at]; exact h)
theorem cmp14_l2 (bs : List Int) (hb : bs.length < 1000000) : ∀ (suf pre : List Snd), (pre ++ suf).length < 1000000 → ancepsref14_Compare.l2 (pre.length : Nat) (pre ++ suf) bs (pre ++ suf) bs = some (0, ())
  | [], pre, h => by
    rw [ancepsref14_Compare.l2_eq, ifB_not _ _ (lt_end pre), ord14_self]
    exact cmp14_l11 _ bs [] hb
  | x :: suf, pre, h => by
    have hl : pre.length < 1000000 := by simp only [List.length_append] at h; omega
    rw [ancepsref14_Compare.l2_eq, ifB_of _ _ (lt_at pre x suf), ifB_of _ _ (lt_at pre x suf), ixAt_at, bindD_some, bindD_some, cmp11_self, bindD_some, w_pre pre x (by omega), app_at pre x suf]
    exact cmp14_l2 bs hb suf (pre ++ [x]) (by rw [← app_at]; exact h)
theorem same14_self {xs : List Snd} {bs : List Int} (hx : xs.length < 1000000) (hb : bs.length < 1000000) : ancepsref14_Same.f xs bs xs bs = some (true, ()) := by
  have h := cmp14_l2 bs hb xs [] hx
  rw [List.nil_append, List.length_nil, Int.ofNat_zero] at h
  rw [ancepsref14_Same.f_eq, ancepsref14_Compare.f_eq, h]; rfl

/-! rows of integers are equal to themselves -/
theorem eqI_l4 : ∀ (suf pre : List Int), (pre ++ suf).length < 1000000 → slices_Equal_int_int.l4 (pre ++ suf) (pre ++ suf) ((pre ++ suf).length : Nat) (pre.length : Nat) = some (true, ())
  | [], pre, h => by rw [slices_Equal_int_int.l4_eq, ifB_not _ _ (lt_end pre)]
  | x :: suf, pre, h => by
    have hl : pre.length < 1000000 := by simp only [List.length_append] at h; omega
    rw [slices_Equal_int_int.l4_eq, ifB_of _ _ (lt_at pre x suf), ixAt_at, bindD_some, bindD_some, ifB_not _ _ (by simp), w_pre pre x (by omega), app_at pre x suf]
    exact eqI_l4 suf (pre ++ [x]) (by rw [← app_at]; exact h)
theorem eqI_self {l : List Int} (h : l.length < 1000000) : slices_Equal_int_int.f l l = some (true, ()) := by
  have := eqI_l4 l [] h
  rw [List.nil_append, List.length_nil, Int.ofNat_zero] at this
  rw [slices_Equal_int_int.f_eq, ifB_not _ _ (by simp), this]
theorem eqR_l4 : ∀ (suf pre : List (List Int)), (pre ++ suf).length < 1000000 → (∀ r ∈ suf, r.length < 1000000) → slices_EqualFunc_int_int_int_int.l4 (pre ++ suf) (pre ++ suf) ((pre ++ suf).length : Nat) (pre.length : Nat) = some (true, ())
  | [], pre, h, _ => by rw [slices_EqualFunc_int_int_int_int.l4_eq, ifB_not _ _ (lt_end pre)]
  | x :: suf, pre, h, hr => by
    have hl : pre.length < 1000000 := by simp only [List.length_append] at h; omega
    rw [slices_EqualFunc_int_int_int_int.l4_eq, ifB_of _ _ (lt_at pre x suf), ixAt_at, bindD_some, bindD_some, eqI_self (hr x (by simp)), bindD_some, ifB_not _ _ (by rfl), w_pre pre x (by omega), app_at pre x suf]
    exact eqR_l4 suf (pre ++ [x]) (by rw [← app_at]; exact h) fun r hq => hr r (by simp [hq])
theorem eqR_self {l : List (List Int)} (h : l.length < 1000000) (hr : ∀ r ∈ l, r.length < 1000000) : slices_EqualFunc_int_int_int_int.f l l = some (true, ()) := by
  have := eqR_l4 l [] h hr
  rw [List.nil_append, List.length_nil, Int.ofNat_zero] at this
  rw [slices_EqualFunc_int_int_int_int.f_eq, ifB_not _ _ (by simp), this]

/-! nuclei by words -/
def rowAt (R : List (List Int)) (w : Int) : List Int := (ixAt R w).getD []
def nst (bs : List Int) (R : List (List Int)) (n : Int) : List (List Int) := setRow R (wc bs n) (rowAt R (wc bs n) ++ [n])
def rows (bs N : List Int) : List (List Int) := N.foldl (nst bs) (List.replicate (bs.length + 1) [])
theorem nst_len (bs : List Int) (R : List (List Int)) (n : Int) : (nst bs R n).length = R.length := by unfold nst setRow; rw [List.length_set]
theorem fold_len (bs : List Int) : ∀ (N : List Int) (R : List (List Int)), (N.foldl (nst bs) R).length = R.length
  | [], _ => rfl
  | n :: N, R => by rw [List.foldl_cons, fold_len bs N, nst_len]
theorem ix_row {bs : List Int} {R : List (List Int)} (hR : R.length = bs.length + 1) (n : Int) : ixAt R (wc bs n) = some (rowAt R (wc bs n)) := by
  have := wc_bd n bs
  obtain ⟨x, hx, _⟩ := ixAt_ok (xs := R) (i := wc bs n) this.1 (by omega)
  unfold rowAt; rw [hx]; rfl
theorem row_mem {bs : List Int} {R : List (List Int)} (hR : R.length = bs.length + 1) (n : Int) : rowAt R (wc bs n) ∈ R := by
  have := wc_bd n bs
  obtain ⟨x, hx, hm⟩ := ixAt_ok (xs := R) (i := wc bs n) this.1 (by omega)
  unfold rowAt; rw [hx]; exact hm
theorem nst_small {bs : List Int} {R : List (List Int)} (hR : R.length = bs.length + 1) {k : Nat} (h : ∀ r ∈ R, r.length ≤ k) (n : Int) : ∀ r ∈ nst bs R n, r.length ≤ k + 1 := by
  intro r hr
  unfold nst setRow at hr
  rcases List.mem_or_eq_of_mem_set hr with hr | rfl
  · have := h r hr; omega
  · have := h _ (row_mem hR n)
    simp only [List.length_append, List.length_singleton]; omega
theorem fold_small {bs : List Int} : ∀ {N : List Int} {R : List (List Int)} {k : Nat}, R.length = bs.length + 1 → (∀ r ∈ R, r.length ≤ k) → ∀ r ∈ N.foldl (nst bs) R, r.length ≤ k + N.length
  | [], R, k, _, h => by simpa using h
  | n :: N, R, k, hR, h => by
    intro r hr
    have := fold_small (N := N) (by rw [nst_len]; exact hR) (nst_small hR h n) r hr
    simp only [List.length_cons]; omega

theorem NucW_l6 {bs : List Int} (hb : bs.length < 1000000) : ∀ (suf pre : List Int) (R : List (List Int)), (pre ++ suf).length < 1000000 → R.length = bs.length + 1 → (∀ r ∈ R, r.length ≤ pre.length) →
    syllable_Nuclei.l6 bs ((pre ++ suf).length : Nat) (pre.length : Nat) R (pre ++ suf) = some (suf.foldl (nst bs) R, ((0 : Int), ()))
  | [], pre, R, h, _, _ => by rw [syllable_Nuclei.l6_eq, ifB_not _ _ (lt_end pre)]; rfl
  | n :: suf, pre, R, h, hR, hs => by
    have hl : pre.length < 1000000 := by simp only [List.length_append] at h; omega
    have hrl := hs _ (row_mem hR n)
    rw [syllable_Nuclei.l6_eq, ifB_of _ _ (lt_at pre n suf), ixAt_at, bindD_some, bindD_some, Word_f n hb, bindD_some, ix_row hR]
    simp only [bindD_some]
    rw [grow_one _ (by omega), bindD_some, ifB_of _ _ (by simp), w_pre pre n (by omega), app_at pre n suf]
    exact NucW_l6 hb suf (pre ++ [n]) (nst bs R n) (by rw [← app_at]; exact h) (by rw [nst_len]; exact hR) (by
      rw [List.length_append, List.length_singleton]; exact nst_small hR hs n)
theorem refNucW_l7 {bs : List Int} (hb : bs.length < 1000000) : ∀ (suf pre : List Int) (R : List (List Int)), (pre ++ suf).length < 1000000 → R.length = bs.length + 1 → (∀ r ∈ R, r.length ≤ pre.length) →
    ancepsref15_Nuclei.l7 bs (pre.length : Nat) R (pre ++ suf) = some (suf.foldl (nst bs) R, ((0 : Int), ()))
  | [], pre, R, h, _, _ => by rw [ancepsref15_Nuclei.l7_eq, ifB_not _ _ (lt_end pre)]; rfl
  | n :: suf, pre, R, h, hR, hs => by
    have hl : pre.length < 1000000 := by simp only [List.length_append] at h; omega
    have hrl := hs _ (row_mem hR n)
    rw [ancepsref15_Nuclei.l7_eq, ifB_of _ _ (lt_at pre n suf), ixAt_at, bindD_some, bindD_some, refWord_f n hb, bindD_some, ix_row hR]
    simp only [bindD_some]
    rw [grow_one _ (by omega), bindD_some, ifB_of _ _ (by simp), w_pre pre n (by omega), app_at pre n suf]
    exact refNucW_l7 hb suf (pre ++ [n]) (nst bs R n) (by rw [← app_at]; exact h) (by rw [nst_len]; exact hR) (by
      rw [List.length_append, List.length_singleton]; exact nst_small hR hs n)
theorem mkLen_ok {n : Nat} (h : n ≤ 4294967296) : mkLen (n : Int) (n : Int) = some n := by
  unfold mkLen mostLen; rw [if_pos ⟨by omega, by omega, by omega⟩, Int.toNat_natCast]
def nw (xs : List Snd) (bs : List Int) : List (List Int) × Int := bif valid15 xs bs != 0 then ([], valid15 xs bs) else (rows bs (nucL xs 0), 0)
theorem rep_small (n k : Nat) : ∀ r ∈ List.replicate n ([] : List Int), r.length ≤ k := by
  intro r hr; rw [(List.mem_replicate.1 hr).2]; simp
theorem NucW_f {xs : List Snd} {bs : List Int} (hbs : bs.length < 1000000) (hxs : xs.length < 1000000) : syllable_Nuclei.f xs bs = some ((nw xs bs).1, ((nw xs bs).2, ())) := by
  rw [syllable_Nuclei.f_eq, valid15_f hbs, bindD_some]; unfold nw
  cases hv : (valid15 xs bs != 0)
  · simp only [ifB_false, cond_false]
    rw [w64_succ (by omega), mkLen_ok (by omega), bindD_some, Nuclei_f hxs, bindD_some]
    have hn := nuc_len xs 0
    have := NucW_l6 hbs (nucL xs 0) [] (List.replicate (bs.length + 1) []) (by rw [List.nil_append]; omega) (by simp) (rep_small _ _)
    rw [List.nil_append, List.length_nil, Int.ofNat_zero] at this
    exact this
  · simp only [ifB_true, cond_true]
theorem refNucW_f {xs : List Snd} {bs : List Int} (hbs : bs.length < 1000000) (hxs : xs.length < 1000000) : ancepsref15_Nuclei.f xs bs = some ((nw xs bs).1, ((nw xs bs).2, ())) := by
  rw [ancepsref15_Nuclei.f_eq, refvalid15_f hbs, bindD_some]; unfold nw
  cases hv : (valid15 xs bs != 0)
  · simp only [ifB_false, cond_false]
    rw [w64_succ (by omega), mkLen_ok (by omega), bindD_some, refNuclei_f hxs, bindD_some]
    have hn := nuc_len xs 0
    have := refNucW_l7 hbs (nucL xs 0) [] (List.replicate (bs.length + 1) []) (by rw [List.nil_append]; omega) (by simp) (rep_small _ _)
    rw [List.nil_append, List.length_nil, Int.ofNat_zero] at this
    exact this
  · simp only [ifB_true, cond_true]
theorem nw_small {xs : List Snd} {bs : List Int} (hbs : bs.length < 1000) (hxs : xs.length < 1000) : (nw xs bs).1.length < 1000000 ∧ ∀ r ∈ (nw xs bs).1, r.length < 1000000 := by
  unfold nw
  cases (valid15 xs bs != 0)
  · simp only [cond_false]
    refine ⟨by unfold rows; rw [fold_len, List.length_replicate]; omega, fun r hr => ?_⟩
    have := fold_small (by simp) (rep_small (bs.length + 1) 0) r hr
    have := nuc_len xs 0
    omega
  · simp only [cond_true]; exact ⟨by simp, fun r hr => by cases hr⟩

/-! what lies between -/
theorem up_at {hi : Int} : ∀ {N : List Int} {lo : Int} {i : Nat} (h : i < N.length), Up hi lo N → lo ≤ N[i] ∧ N[i] < hi
  | n :: r, lo, 0, _, ⟨h1, h2, _⟩ => ⟨h1, h2⟩
  | n :: r, lo, i + 1, h, ⟨h1, h2, h3⟩ => by
    have := up_at (i := i) (by simpa using h) h3
    rw [List.getElem_cons_succ]; omega
theorem up_next {hi : Int} : ∀ {N : List Int} {lo : Int} {i : Nat} (h : i + 1 < N.length), Up hi lo N → N[i] < N[i + 1]
  | n :: r, lo, 0, h, ⟨h1, h2, h3⟩ => by
    have := up_at (i := 0) (by simpa using h) h3
    rw [List.getElem_cons_succ, List.getElem_cons_zero]; omega
  | n :: r, lo, i + 1, h, ⟨h1, h2, h3⟩ => by
    have := up_next (i := i) (by simpa using h) h3
    simpa using this
def bet (xs : List Snd) (bs : List Int) (i : Int) : List Snd × List Int × Int :=
  bif valid15 xs bs != 0 then ([], [], valid15 xs bs) else
  bif decide (i < 0) then ([], [], 6) else
  bif decide (i ≥ (((nucL xs 0).length : Nat) : Int)) then ([], [], 6) else
  match ixAt (nucL xs 0) i with
  | none => ([], [], 0)
  | some n =>
    match (ixAt (nucL xs 0) (i + 1)).getD ((xs.length : Nat) : Int) with
    | m => bif valid (seg xs n m) (betB n m bs) != 0 then ([], [], valid (seg xs n m) (betB n m bs)) else (seg xs n m, betB n m bs, 0)
theorem seg_len (xs : List Snd) (n m : Int) : (seg xs n m).length ≤ xs.length := by unfold seg; simp only [List.length_drop, List.length_take]; omega
theorem between_at {xs : List Snd} {bs N : List Int} {i : Nat} (hbs : bs.length < 1000000) (hxs : xs.length < 1000000) (hN : N.length < 1000000) (hu : Up ((xs.length : Nat) : Int) 0 N) (hi : i < N.length) :
    ∃ n m, ixAt N (i : Int) = some n ∧ (ixAt N ((i : Int) + 1)).getD ((xs.length : Nat) : Int) = m ∧ 0 ≤ n ∧ n < m ∧ m ≤ ((xs.length : Nat) : Int) ∧ syllable_between.f xs bs N (i : Int) = some (seg xs n m, (betB n m bs, ())) := by
  have hin : ixAt N (i : Int) = some N[i] := by rw [ixAt_nat, List.getElem?_eq_getElem hi]
  have e1 : ((i : Nat) : Int) + 1 = ((i + 1 : Nat) : Int) := by omega
  have h1 := up_at hi hu
  by_cases h : i + 1 < N.length
  · have hin2 : ixAt N ((i + 1 : Nat) : Int) = some N[i + 1] := by rw [ixAt_nat, List.getElem?_eq_getElem h]
    have h2 := up_at h hu
    have h3 := up_next h hu
    refine ⟨N[i], N[i + 1], hin, by rw [e1, hin2]; rfl, h1.1, h3, by omega, ?_⟩
    have hne : (((i : Nat) : Int) == IntKind.i64.wrap (((N.length : Nat) : Int) - 1)) = false := by
      rw [w64 (by omega), beq_eq_false_iff_ne]; omega
    rw [syllable_between.f_eq, hin, bindD_some, hne, w64_succ (by omega), hin2]
    simp only [Bool.not_false, ifB_true, bindD_some]
    have hsl := seg_len xs N[i] N[i + 1]
    rw [w64 (n := N[i] + 1) (by omega), subL_seg h1.1 h3 (by omega), bindD_some, cloneS_f (by omega), bindD_some]
    have := between_l6 N[i] N[i + 1] [] [] (seg xs N[i] N[i + 1]) bs [] [] hbs (by simp)
    simp only [List.nil_append, List.length_nil, Int.ofNat_zero] at this
    exact this
  · have hin2 : ixAt N ((i + 1 : Nat) : Int) = none := by rw [ixAt_nat, List.getElem?_eq_none (by omega)]
    refine ⟨N[i], ((xs.length : Nat) : Int), hin, by rw [e1, hin2]; rfl, h1.1, h1.2, Int.le_refl _, ?_⟩
    have hne : (((i : Nat) : Int) == IntKind.i64.wrap (((N.length : Nat) : Int) - 1)) = true := by
      rw [w64 (by omega), beq_iff_eq]; omega
    rw [syllable_between.f_eq, hin, bindD_some, hne]
    simp only [Bool.not_true, ifB_false, bindD_some]
    have hsl := seg_len xs N[i] ((xs.length : Nat) : Int)
    rw [w64 (n := N[i] + 1) (by omega), subL_seg h1.1 h1.2 (by omega), bindD_some, cloneS_f (by omega), bindD_some]
    have := between_l6 N[i] ((xs.length : Nat) : Int) [] [] (seg xs N[i] ((xs.length : Nat) : Int)) bs [] [] hbs (by simp)
    simp only [List.nil_append, List.length_nil, Int.ofNat_zero] at this
    exact this
theorem Between_f {xs : List Snd} {bs : List Int} (i : Int) (hbs : bs.length < 1000000) (hxs : xs.length < 1000000) : syllable_Between.f xs bs i = some ((bet xs bs i).1, ((bet xs bs i).2.1, ((bet xs bs i).2.2, ()))) := by
  rw [syllable_Between.f_eq, valid15_f hbs, bindD_some, Nuclei_f hxs, bindD_some]; unfold bet
  have hn := nuc_len xs 0
  have hu := nuc_up xs 0
  rw [Nat.zero_add] at hu
  cases hv : (valid15 xs bs != 0)
  · simp only [ifB_false, cond_false]
    cases h1 : decide (i < 0)
    · simp only [ifB_false, cond_false]
      cases h2 : decide (i ≥ (((nucL xs 0).length : Nat) : Int))
      · simp only [ifB_false, cond_false]
        have h1 := of_decide_eq_false h1; have h2 := of_decide_eq_false h2
        obtain ⟨k, rfl⟩ : ∃ k : Nat, i = k := ⟨i.toNat, by omega⟩
        obtain ⟨n, m, e1, e2, _, _, _, e3⟩ := between_at hbs hxs (by omega) hu (i := k) (by omega)
        rw [e3, bindD_some, Valid_f, bindD_some, e1, e2]
        simp only
        cases (valid (seg xs n m) (betB n m bs) != 0) <;> rfl
      · rfl
    · rfl
  · rfl
theorem refBetween_f {xs : List Snd} {bs : List Int} (i : Int) (hbs : bs.length < 1000000) (hxs : xs.length < 1000000) : ancepsref15_Between.f xs bs i = some ((bet xs bs i).1, ((bet xs bs i).2.1, ((bet xs bs i).2.2, ()))) := by
  rw [ancepsref15_Between.f_eq, refvalid15_f hbs, bindD_some, refNuclei_f hxs, bindD_some]; unfold bet
  have hn := nuc_len xs 0
  have hu := nuc_up xs 0
  rw [Nat.zero_add] at hu
  cases hv : (valid15 xs bs != 0)
  · simp only [ifB_false, cond_false]
    cases h1 : decide (i < 0)
    · simp only [ifB_false, cond_false]
      cases h2 : decide (i ≥ (((nucL xs 0).length : Nat) : Int))
      · simp only [ifB_false, cond_false]
        have h1 := of_decide_eq_false h1; have h2 := of_decide_eq_false h2
        obtain ⟨k, rfl⟩ : ∃ k : Nat, i = k := ⟨i.toNat, by omega⟩
        obtain ⟨n, m, e1, e2, e4, e5, e6, e3⟩ := between_at hbs hxs (N := nucL xs 0) (by omega) hu (i := k) (by omega)
        have hk : ((k : Nat) : Int) + 1 = ((k + 1 : Nat) : Int) := by omega
        rw [w64_succ (by omega), e1, e2, ← hk]
        simp only [bindD_some]
        cases h3 : decide (((k : Nat) : Int) + 1 < (((nucL xs 0).length : Nat) : Int))
        · have h3 := of_decide_eq_false h3
          have hm : m = ((xs.length : Nat) : Int) := by
            rw [hk, ixAt_nat, List.getElem?_eq_none (by omega)] at e2; exact e2.symm
          rw [← hm, ifB_false, refcluster_f hbs hxs e4 e5 e6, bindD_some, refValid_f, bindD_some]
          cases (valid (seg xs n m) (betB n m bs) != 0) <;> rfl
        · have h3 := of_decide_eq_true h3
          have hm : ixAt (nucL xs 0) (((k : Nat) : Int) + 1) = some m := by
            rw [hk, ixAt_nat, List.getElem?_eq_getElem (by omega)] at e2 ⊢; exact congrArg some e2
          rw [hm, ifB_true]
          simp only [bindD_some]
          rw [refcluster_f hbs hxs e4 e5 e6, bindD_some, refValid_f, bindD_some]
          cases (valid (seg xs n m) (betB n m bs) != 0) <;> rfl
      · rfl
    · rfl
  · rfl
theorem betB_small (xs : List Snd) (bs : List Int) (i : Int) : (bet xs bs i).1.length ≤ xs.length ∧ (bet xs bs i).2.1.length ≤ bs.length := by
  unfold bet
  cases (valid15 xs bs != 0)
  · cases decide (i < 0)
    · cases decide (i ≥ (((nucL xs 0).length : Nat) : Int))
      · simp only [cond_false]
        cases ixAt (nucL xs 0) i with
        | none => simp
        | some n =>
          simp only
          cases (valid (seg xs n ((ixAt (nucL xs 0) (i + 1)).getD ((xs.length : Nat) : Int))) (betB n ((ixAt (nucL xs 0) (i + 1)).getD ((xs.length : Nat) : Int)) bs) != 0)
          · exact ⟨seg_len _ _ _, betB_len _ _ _⟩
          · simp
      · simp
    · simp
  · simp
theorem between_law (xs : List Snd) (bs : List Int) (i : Int) : ancepslaw15_SyllableBetween.f xs bs i = some (true, ()) := by
  rw [ancepslaw15_SyllableBetween.f_eq, awake_f]
  simp only [bindD_some, Bool.not_true, ifB_false]
  obtain ⟨b, hf, hb⟩ := Few_f xs bs
  rw [hf, bindD_some]
  cases b
  · rfl
  · obtain ⟨h1, h2⟩ := hb rfl
    simp only [Bool.not_true, ifB_false]
    rw [cloneS_f (by omega), bindD_some, cloneI_f (by omega), bindD_some]
    simp only
    rw [NucW_f (by omega) (by omega), bindD_some, refNucW_f (by omega) (by omega), bindD_some]
    simp only [bindD_some]
    rw [Between_f i (by omega) (by omega), bindD_some, refBetween_f i (by omega) (by omega), bindD_some]
    have hs := nw_small (xs := xs) (bs := bs) (by omega) (by omega)
    have hq := betB_small xs bs i
    simp only
    rw [ifB_of _ _ (by simp), eqR_self hs.1 hs.2, bindD_some, ifB_of _ _ rfl, ifB_of _ _ (by simp), same14_self (by omega) (by omega)]
    rfl
end Go.Proofs.C15
